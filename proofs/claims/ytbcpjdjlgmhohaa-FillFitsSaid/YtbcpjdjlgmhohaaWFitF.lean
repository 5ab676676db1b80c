/-
  Walk: does a request fit at a time. Conditions: none.
-/
import Derived.Test.YtbcpjdjlgmhohaaWLeast
import Derived.Test.YtbcpjdjlgmhohaaWReq
import Derived.Test.YtbcpjdjlgmhohaaWFits
namespace Go.Proofs.Ytbcpjdjlgmhohaa
open Go.RowKit

theorem Req.bd' {l : List Stp} {f b n g : Int} (h : Req l f b n g) : 0 ≤ f ∧ f ≤ 1099511627775 ∧ 0 ≤ b ∧ b ≤ 1099511627775 ∧ 0 ≤ g ∧ g ≤ 1099511627775 := by
  have h1 := (isT_iff f).1 h.2.1
  have h2 := (isT_iff b).1 h.2.2.1
  have h3 := (isT_iff g).1 h.2.2.2.2.2
  omega

set_option maxHeartbeats 1000000 in
theorem fitFits_bad (A : Option Addr) (m c : Nat) (l : List Stp) (f b n g t : Int) (w : World) (hr : RdP w A m l) (hn : m ≤ 9223372036854775807) (hbad : ¬ (Req l f b n g ∧ isT t = true)) :
    Calls Try.prog 26 #[.slice A m c, .agg #[.int .i64 f, .int .i64 b], .int .i64 n, .int .i64 g, .int .i64 t] w fun e w' => e = .returned (.tuple #[.bool false, .int .i64 2]) ∧ Ext w w' := by
  have HR := Lib.hid hr; clear hr
  by_cases hq : Req l f b n g
  case neg =>
    have HQ := Lib.hid (reqE_f hq)
    clear hq hbad
    go_enter Try.func26, Try.ntmps26
    have HR0 := Lib.hid (HR.out.alloc' (.cells #[.int .i64 f, .int .i64 b] 61))
    have c0 : (w.alloc (.cells #[.int .i64 f, .int .i64 b] 61)).cell? ⟨w.heap.size, 0, none⟩ = some (.int .i64 f) := by simp [go_sem]
    have c1 : (w.alloc (.cells #[.int .i64 f, .int .i64 b] 61)).cell? ⟨w.heap.size, 1, none⟩ = some (.int .i64 b) := by simp [go_sem]
    have HX : Hid (Ext w (w.alloc (.cells #[.int .i64 f, .int .i64 b] 61))) := (Below.refl _ _).alloc (Nat.le_refl _) _
    clear HR
    have HR := HR0; clear HR0
    go_wp2_with fail
    refine (fitRequest A m c l f b n g _ HR.out (by omega)).mono ?_
    rintro e w1 ⟨rfl, hx1⟩
    replace c0 := hx1.cell' c0
    replace c1 := hx1.cell' c1
    replace HR := Lib.hid (HR.out.ext hx1)
    replace HX := Lib.hid (HX.out.trans' hx1)
    clear hx1
    rw [HQ.out]
    go_wp2
    go_ret2
    exact ⟨rfl, HX.out⟩
  have HQ := Lib.hid (reqE_t hq)
  have ct : isT t = false := by
    rcases h : isT t with _ | _
    · rfl
    · exact absurd ⟨hq, h⟩ hbad
  clear hq hbad
  go_enter Try.func26, Try.ntmps26
  have HR0 := Lib.hid (HR.out.alloc' (.cells #[.int .i64 f, .int .i64 b] 61))
  have c0 : (w.alloc (.cells #[.int .i64 f, .int .i64 b] 61)).cell? ⟨w.heap.size, 0, none⟩ = some (.int .i64 f) := by simp [go_sem]
  have c1 : (w.alloc (.cells #[.int .i64 f, .int .i64 b] 61)).cell? ⟨w.heap.size, 1, none⟩ = some (.int .i64 b) := by simp [go_sem]
  have HX : Hid (Ext w (w.alloc (.cells #[.int .i64 f, .int .i64 b] 61))) := (Below.refl _ _).alloc (Nat.le_refl _) _
  clear HR
  have HR := HR0; clear HR0
  go_wp2_with fail
  refine (fitRequest A m c l f b n g _ HR.out (by omega)).mono ?_
  rintro e w1 ⟨rfl, hx1⟩
  replace c0 := hx1.cell' c0
  replace c1 := hx1.cell' c1
  replace HR := Lib.hid (HR.out.ext hx1)
  replace HX := Lib.hid (HX.out.trans' hx1)
  clear hx1
  rw [HQ.out]
  go_wp2_with fail
  refine (clkIs _ _).mono ?_
  rintro e w' ⟨rfl, rfl⟩
  rw [ct]
  go_wp2
  go_ret2
  exact ⟨rfl, HX.out⟩

set_option maxHeartbeats 1000000 in
theorem fitFits (A : Option Addr) (m c : Nat) (l : List Stp) (f b n g t : Int) (w : World) (hr : RdP w A m l) (hn : m ≤ 9223372036854775807) (hq : Req l f b n g) (ht : isT t = true) :
    Calls Try.prog 26 #[.slice A m c, .agg #[.int .i64 f, .int .i64 b], .int .i64 n, .int .i64 g, .int .i64 t] w fun e w' => e = .returned (.tuple #[.bool (fitsB l f b n g t), .int .i64 0]) ∧ Ext w w' := by
  have HR := Lib.hid hr; clear hr
  have HQ := Lib.hid (reqE_t hq)
  have HP := Lib.hid hq.1
  have hbd := hq.bd'
  obtain ⟨f0, f1, b0, b1, g0, g1⟩ := hbd
  obtain ⟨t0, t1⟩ := (isT_iff t).1 ht
  have HT := Lib.hid ht
  clear hq ht
  by_cases h1 : t < f
  · have HE : Hid (fitsB l f b n g t = false) := (fitsB_f ..).2 (fun h => by have := h.1; omega)
    go_enter Try.func26, Try.ntmps26
    have HR0 := Lib.hid (HR.out.alloc' (.cells #[.int .i64 f, .int .i64 b] 61))
    have c0 : (w.alloc (.cells #[.int .i64 f, .int .i64 b] 61)).cell? ⟨w.heap.size, 0, none⟩ = some (.int .i64 f) := by simp [go_sem]
    have c1 : (w.alloc (.cells #[.int .i64 f, .int .i64 b] 61)).cell? ⟨w.heap.size, 1, none⟩ = some (.int .i64 b) := by simp [go_sem]
    have HX : Hid (Ext w (w.alloc (.cells #[.int .i64 f, .int .i64 b] 61))) := (Below.refl _ _).alloc (Nat.le_refl _) _
    clear HR
    have HR := HR0; clear HR0
    go_wp2_with fail
    refine (fitRequest A m c l f b n g _ HR.out (by omega)).mono ?_
    rintro e w1 ⟨rfl, hx1⟩
    replace c0 := hx1.cell' c0
    replace c1 := hx1.cell' c1
    replace HR := Lib.hid (HR.out.ext hx1)
    replace HX := Lib.hid (HX.out.trans' hx1)
    clear hx1
    rw [HQ.out]
    go_wp2_with fail
    refine (clkIs _ _).mono ?_
    rintro e w' ⟨rfl, rfl⟩
    rw [HT.out]
    go_wp2
    go_ret2
    exact ⟨by rw [HE.out]; rfl, HX.out⟩
  by_cases h2 : b - t < g
  · have HE : Hid (fitsB l f b n g t = false) := (fitsB_f ..).2 (fun h => by have := h.2.1; omega)
    go_enter Try.func26, Try.ntmps26
    have HR0 := Lib.hid (HR.out.alloc' (.cells #[.int .i64 f, .int .i64 b] 61))
    have c0 : (w.alloc (.cells #[.int .i64 f, .int .i64 b] 61)).cell? ⟨w.heap.size, 0, none⟩ = some (.int .i64 f) := by simp [go_sem]
    have c1 : (w.alloc (.cells #[.int .i64 f, .int .i64 b] 61)).cell? ⟨w.heap.size, 1, none⟩ = some (.int .i64 b) := by simp [go_sem]
    have HX : Hid (Ext w (w.alloc (.cells #[.int .i64 f, .int .i64 b] 61))) := (Below.refl _ _).alloc (Nat.le_refl _) _
    clear HR
    have HR := HR0; clear HR0
    go_wp2_with fail
    refine (fitRequest A m c l f b n g _ HR.out (by omega)).mono ?_
    rintro e w1 ⟨rfl, hx1⟩
    replace c0 := hx1.cell' c0
    replace c1 := hx1.cell' c1
    replace HR := Lib.hid (HR.out.ext hx1)
    replace HX := Lib.hid (HX.out.trans' hx1)
    clear hx1
    rw [HQ.out]
    go_wp2_with fail
    refine (clkIs _ _).mono ?_
    rintro e w' ⟨rfl, rfl⟩
    rw [HT.out]
    go_wp2
    go_ret2
    exact ⟨by rw [HE.out]; rfl, HX.out⟩
  by_cases h3 : g = 0
  · have HE : Hid (fitsB l f b n g t = true) := (fitsB_iff ..).2 ⟨by omega, by omega, .inl h3⟩
    have hz : (g == 0) = true := by simpa using h3
    replace h3 := Lib.hid h3
    go_enter Try.func26, Try.ntmps26
    have HR0 := Lib.hid (HR.out.alloc' (.cells #[.int .i64 f, .int .i64 b] 61))
    have c0 : (w.alloc (.cells #[.int .i64 f, .int .i64 b] 61)).cell? ⟨w.heap.size, 0, none⟩ = some (.int .i64 f) := by simp [go_sem]
    have c1 : (w.alloc (.cells #[.int .i64 f, .int .i64 b] 61)).cell? ⟨w.heap.size, 1, none⟩ = some (.int .i64 b) := by simp [go_sem]
    have HX : Hid (Ext w (w.alloc (.cells #[.int .i64 f, .int .i64 b] 61))) := (Below.refl _ _).alloc (Nat.le_refl _) _
    clear HR
    have HR := HR0; clear HR0
    go_wp2_with fail
    refine (fitRequest A m c l f b n g _ HR.out (by omega)).mono ?_
    rintro e w1 ⟨rfl, hx1⟩
    replace c0 := hx1.cell' c0
    replace c1 := hx1.cell' c1
    replace HR := Lib.hid (HR.out.ext hx1)
    replace HX := Lib.hid (HX.out.trans' hx1)
    clear hx1
    rw [HQ.out]
    go_wp2_with fail
    refine (clkIs _ _).mono ?_
    rintro e w' ⟨rfl, rfl⟩
    rw [HT.out]
    go_wp2
    go_ret2
    exact ⟨by rw [HE.out]; rfl, HX.out⟩
  have hz : (g == 0) = false := by simpa using h3
  have HW : Hid (While l t (t + g)) := ⟨HP.out, (isT_iff _).2 (by omega), (isT_iff _).2 (by omega), by omega⟩
  by_cases h4 : n ≤ minF l t (t + g)
  · have HE : Hid (fitsB l f b n g t = true) := (fitsB_iff ..).2 ⟨by omega, by omega, .inr h4⟩
    go_enter Try.func26, Try.ntmps26
    have HR0 := Lib.hid (HR.out.alloc' (.cells #[.int .i64 f, .int .i64 b] 61))
    have c0 : (w.alloc (.cells #[.int .i64 f, .int .i64 b] 61)).cell? ⟨w.heap.size, 0, none⟩ = some (.int .i64 f) := by simp [go_sem]
    have c1 : (w.alloc (.cells #[.int .i64 f, .int .i64 b] 61)).cell? ⟨w.heap.size, 1, none⟩ = some (.int .i64 b) := by simp [go_sem]
    have HX : Hid (Ext w (w.alloc (.cells #[.int .i64 f, .int .i64 b] 61))) := (Below.refl _ _).alloc (Nat.le_refl _) _
    clear HR
    have HR := HR0; clear HR0
    go_wp2_with fail
    refine (fitRequest A m c l f b n g _ HR.out (by omega)).mono ?_
    rintro e w1 ⟨rfl, hx1⟩
    replace c0 := hx1.cell' c0
    replace c1 := hx1.cell' c1
    replace HR := Lib.hid (HR.out.ext hx1)
    replace HX := Lib.hid (HX.out.trans' hx1)
    clear hx1
    rw [HQ.out]
    go_wp2_with fail
    refine (clkIs _ _).mono ?_
    rintro e w' ⟨rfl, rfl⟩
    rw [HT.out]
    go_wp2_with fail
    refine (least_ok A m c l t (t + g) _ HR.out HW.out).mono ?_
    rintro e w2 ⟨rfl, hx2⟩
    replace c0 := hx2.cell' c0
    replace c1 := hx2.cell' c1
    replace HR := Lib.hid (HR.out.ext hx2)
    replace HX := Lib.hid (HX.out.trans' hx2)
    clear hx2
    go_wp2
    go_ret2
    exact ⟨by rw [HE.out]; rfl, HX.out⟩
  · have HE : Hid (fitsB l f b n g t = false) := (fitsB_f ..).2 (fun h => by rcases h.2.2 with h | h <;> omega)
    have d4 : decide (n ≤ minF l t (t + g)) = false := by simpa using h4
    go_enter Try.func26, Try.ntmps26
    have HR0 := Lib.hid (HR.out.alloc' (.cells #[.int .i64 f, .int .i64 b] 61))
    have c0 : (w.alloc (.cells #[.int .i64 f, .int .i64 b] 61)).cell? ⟨w.heap.size, 0, none⟩ = some (.int .i64 f) := by simp [go_sem]
    have c1 : (w.alloc (.cells #[.int .i64 f, .int .i64 b] 61)).cell? ⟨w.heap.size, 1, none⟩ = some (.int .i64 b) := by simp [go_sem]
    have HX : Hid (Ext w (w.alloc (.cells #[.int .i64 f, .int .i64 b] 61))) := (Below.refl _ _).alloc (Nat.le_refl _) _
    clear HR
    have HR := HR0; clear HR0
    go_wp2_with fail
    refine (fitRequest A m c l f b n g _ HR.out (by omega)).mono ?_
    rintro e w1 ⟨rfl, hx1⟩
    replace c0 := hx1.cell' c0
    replace c1 := hx1.cell' c1
    replace HR := Lib.hid (HR.out.ext hx1)
    replace HX := Lib.hid (HX.out.trans' hx1)
    clear hx1
    rw [HQ.out]
    go_wp2_with fail
    refine (clkIs _ _).mono ?_
    rintro e w' ⟨rfl, rfl⟩
    rw [HT.out]
    go_wp2_with fail
    refine (least_ok A m c l t (t + g) _ HR.out HW.out).mono ?_
    rintro e w2 ⟨rfl, hx2⟩
    replace c0 := hx2.cell' c0
    replace c1 := hx2.cell' c1
    replace HR := Lib.hid (HR.out.ext hx2)
    replace HX := Lib.hid (HX.out.trans' hx2)
    clear hx2
    go_wp2
    go_ret2
    exact ⟨by rw [HE.out]; rfl, HX.out⟩
end Go.Proofs.Ytbcpjdjlgmhohaa
