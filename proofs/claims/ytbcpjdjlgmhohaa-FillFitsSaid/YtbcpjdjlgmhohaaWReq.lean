/-
  Walks: why a request is none, by the program and by the document. Conditions: none.
-/
import Derived.Test.YtbcpjdjlgmhohaaMChk
namespace Go.Proofs.Ytbcpjdjlgmhohaa
open Go.RowKit

/-- a request? -/
def Req (l : List Stp) (f b n g : Int) : Prop := Prof l ∧ isT f = true ∧ isT b = true ∧ 1 ≤ n ∧ n ≤ 10000 ∧ isT g = true
open Classical in
noncomputable def reqE (l : List Stp) (f b n g : Int) : Int := if Req l f b n g then 0 else 2
theorem reqE_t {l : List Stp} {f b n g : Int} (h : Req l f b n g) : reqE l f b n g = 0 := by simp [reqE, h]
theorem reqE_f {l : List Stp} {f b n g : Int} (h : ¬ Req l f b n g) : reqE l f b n g = 2 := by simp [reqE, h]
theorem reqE_cases (l : List Stp) (f b n g : Int) : (Req l f b n g ∧ reqE l f b n g = 0) ∨ (¬ Req l f b n g ∧ reqE l f b n g = 2) := by
  by_cases h : Req l f b n g
  · exact .inl ⟨h, reqE_t h⟩
  · exact .inr ⟨h, reqE_f h⟩

set_option maxHeartbeats 1000000 in
theorem fitRequest (A : Option Addr) (m c : Nat) (l : List Stp) (f b n g : Int) (w : World) (hr : RdP w A m l) (hn : m ≤ 9223372036854775807) :
    Calls Try.prog 47 #[.slice A m c, .agg #[.int .i64 f, .int .i64 b], .int .i64 n, .int .i64 g] w fun e w' => e = .returned (.int .i64 (reqE l f b n g)) ∧ Ext w w' := by
  have HR := Lib.hid hr; clear hr
  rcases chkE_cases l with ⟨hp, hc⟩ | ⟨hp, hc⟩
  case inr =>
    have HC := Lib.hid hc; clear hc
    have HE : Hid (reqE l f b n g = 2) := reqE_f (fun h => hp h.1)
    go_enter Try.func47, Try.ntmps47
    go_wp2_with (first | (go_at_call 38; refine (stepsCheck A m c l _ (HR.out.alloc' _) hn).mono ?_; rintro e w1 ⟨rfl, hx1⟩; have hcell := hx1.cell' (p := ⟨w.heap.size, 0, none⟩) (by simp [go_sem]; rfl); have hcell1 := hx1.cell' (p := ⟨w.heap.size, 1, none⟩) (by simp [go_sem]; rfl); have Hx1 := Lib.hid hx1; clear hx1; rw [HC.out]))
    go_ret
    exact ⟨ret_i HE.out.symm, ((Below.refl _ _).alloc (Nat.le_refl _) _).trans (Hx1.out.mono (by simp))⟩
  have HC := Lib.hid hc; clear hc
  by_cases cf : isT f = false
  · skip
    have HE : Hid (reqE l f b n g = 2) := reqE_f (fun h => by have := h.2.1; rw [cf] at this; cases this)
    go_enter Try.func47, Try.ntmps47
    go_wp2_with (first | (go_at_call 38; refine (stepsCheck A m c l _ (HR.out.alloc' _) hn).mono ?_; rintro e w1 ⟨rfl, hx1⟩; have hcell := hx1.cell' (p := ⟨w.heap.size, 0, none⟩) (by simp [go_sem]; rfl); have hcell1 := hx1.cell' (p := ⟨w.heap.size, 1, none⟩) (by simp [go_sem]; rfl); have Hx1 := Lib.hid hx1; clear hx1; rw [HC.out]) | (go_at_call 39; refine (clkIs _ _).mono ?_; rintro e w' ⟨rfl, rfl⟩))
    go_ret
    exact ⟨ret_i HE.out.symm, ((Below.refl _ _).alloc (Nat.le_refl _) _).trans (Hx1.out.mono (by simp))⟩
  replace cf : isT f = true := by simpa using cf
  by_cases cb : isT b = false
  · skip
    have HE : Hid (reqE l f b n g = 2) := reqE_f (fun h => by have := h.2.2.1; rw [cb] at this; cases this)
    go_enter Try.func47, Try.ntmps47
    go_wp2_with (first | (go_at_call 38; refine (stepsCheck A m c l _ (HR.out.alloc' _) hn).mono ?_; rintro e w1 ⟨rfl, hx1⟩; have hcell := hx1.cell' (p := ⟨w.heap.size, 0, none⟩) (by simp [go_sem]; rfl); have hcell1 := hx1.cell' (p := ⟨w.heap.size, 1, none⟩) (by simp [go_sem]; rfl); have Hx1 := Lib.hid hx1; clear hx1; rw [HC.out]) | (go_at_call 39; refine (clkIs _ _).mono ?_; rintro e w' ⟨rfl, rfl⟩))
    go_ret
    exact ⟨ret_i HE.out.symm, ((Below.refl _ _).alloc (Nat.le_refl _) _).trans (Hx1.out.mono (by simp))⟩
  replace cb : isT b = true := by simpa using cb
  by_cases cn : n < 1
  · skip
    have HE : Hid (reqE l f b n g = 2) := reqE_f (fun h => by have := h.2.2.2.1; omega)
    go_enter Try.func47, Try.ntmps47
    go_wp2_with (first | (go_at_call 38; refine (stepsCheck A m c l _ (HR.out.alloc' _) hn).mono ?_; rintro e w1 ⟨rfl, hx1⟩; have hcell := hx1.cell' (p := ⟨w.heap.size, 0, none⟩) (by simp [go_sem]; rfl); have hcell1 := hx1.cell' (p := ⟨w.heap.size, 1, none⟩) (by simp [go_sem]; rfl); have Hx1 := Lib.hid hx1; clear hx1; rw [HC.out]) | (go_at_call 39; refine (clkIs _ _).mono ?_; rintro e w' ⟨rfl, rfl⟩))
    go_ret
    exact ⟨ret_i HE.out.symm, ((Below.refl _ _).alloc (Nat.le_refl _) _).trans (Hx1.out.mono (by simp))⟩
  by_cases cn2 : 10000 < n
  · skip
    have HE : Hid (reqE l f b n g = 2) := reqE_f (fun h => by have := h.2.2.2.2.1; omega)
    go_enter Try.func47, Try.ntmps47
    go_wp2_with (first | (go_at_call 38; refine (stepsCheck A m c l _ (HR.out.alloc' _) hn).mono ?_; rintro e w1 ⟨rfl, hx1⟩; have hcell := hx1.cell' (p := ⟨w.heap.size, 0, none⟩) (by simp [go_sem]; rfl); have hcell1 := hx1.cell' (p := ⟨w.heap.size, 1, none⟩) (by simp [go_sem]; rfl); have Hx1 := Lib.hid hx1; clear hx1; rw [HC.out]) | (go_at_call 39; refine (clkIs _ _).mono ?_; rintro e w' ⟨rfl, rfl⟩))
    go_ret
    exact ⟨ret_i HE.out.symm, ((Below.refl _ _).alloc (Nat.le_refl _) _).trans (Hx1.out.mono (by simp))⟩
  by_cases cg : isT g = false
  · skip
    have HE : Hid (reqE l f b n g = 2) := reqE_f (fun h => by have := h.2.2.2.2.2; rw [cg] at this; cases this)
    go_enter Try.func47, Try.ntmps47
    go_wp2_with (first | (go_at_call 38; refine (stepsCheck A m c l _ (HR.out.alloc' _) hn).mono ?_; rintro e w1 ⟨rfl, hx1⟩; have hcell := hx1.cell' (p := ⟨w.heap.size, 0, none⟩) (by simp [go_sem]; rfl); have hcell1 := hx1.cell' (p := ⟨w.heap.size, 1, none⟩) (by simp [go_sem]; rfl); have Hx1 := Lib.hid hx1; clear hx1; rw [HC.out]) | (go_at_call 39; refine (clkIs _ _).mono ?_; rintro e w' ⟨rfl, rfl⟩))
    go_ret
    exact ⟨ret_i HE.out.symm, ((Below.refl _ _).alloc (Nat.le_refl _) _).trans (Hx1.out.mono (by simp))⟩
  replace cg : isT g = true := by simpa using cg
  have HE : Hid (reqE l f b n g = 0) := reqE_t ⟨hp, cf, cb, by omega, by omega, cg⟩
  go_enter Try.func47, Try.ntmps47
  go_wp2_with (first | (go_at_call 38; refine (stepsCheck A m c l _ (HR.out.alloc' _) hn).mono ?_; rintro e w1 ⟨rfl, hx1⟩; have hcell := hx1.cell' (p := ⟨w.heap.size, 0, none⟩) (by simp [go_sem]; rfl); have hcell1 := hx1.cell' (p := ⟨w.heap.size, 1, none⟩) (by simp [go_sem]; rfl); have Hx1 := Lib.hid hx1; clear hx1; rw [HC.out]) | (go_at_call 39; refine (clkIs _ _).mono ?_; rintro e w' ⟨rfl, rfl⟩))
  go_ret
  exact ⟨ret_i HE.out.symm, ((Below.refl _ _).alloc (Nat.le_refl _) _).trans (Hx1.out.mono (by simp))⟩

end Go.Proofs.Ytbcpjdjlgmhohaa
