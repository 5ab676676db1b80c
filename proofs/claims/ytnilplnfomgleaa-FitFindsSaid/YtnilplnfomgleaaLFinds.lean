/-
  Walk: FitFinds. Conditions: none.
-/
import Derived.Test.YtnilplnfomgleaaPFit
import Derived.Test.YtnilplnfomgleaaWKnown
namespace Go.Proofs.Ytnilplnfomgleaa
open Go.RowKit

set_option maxHeartbeats 1000000 in
theorem finds_long (A : Option Addr) (m c : Nat) (f b n g : Int) (w : World) (hm : 40 < m) :
    Calls Try.prog 3 #[.slice A m c, .agg #[.int .i64 f, .int .i64 b], .int .i64 n, .int .i64 g] w fun e w' => e = .returned (.bool true) ∧ Ext w w' := by
  go_enter Try.func3, Try.ntmps3
  go_wp2_with (go_at_call 10; refine (knownW _).mono ?_; rintro e w1 ⟨rfl, hx1⟩; have Hx1 := Lib.hid hx1; clear hx1)
  go_ret
  exact ⟨rfl, ((Below.refl _ _).alloc (Nat.le_refl _) _).trans (Hx1.out.mono (by simp))⟩

set_option maxHeartbeats 2000000 in
theorem finds_short (A : Option Addr) (m c : Nat) (l : List Stp) (f b n g : Int) (w : World) (hr : RdP w A m l) (hm : m ≤ 40) :
    Calls Try.prog 3 #[.slice A m c, .agg #[.int .i64 f, .int .i64 b], .int .i64 n, .int .i64 g] w fun e w' => e = .returned (.bool true) ∧ Ext w w' := by
  have HR := Lib.hid hr; clear hr
  by_cases hq : Req l f b n g
  case neg =>
    have H1 := Lib.hid (firstR_bad hq)
    have H2 := Lib.hid (lastR_bad hq)
    have H3 := Lib.hid (reqE_f hq)
    clear hq
    go_enter Try.func3, Try.ntmps3
    have HR0 := Lib.hid (HR.out.alloc' (.cells #[.int .i64 f, .int .i64 b] 24))
    have c0 : (w.alloc (.cells #[.int .i64 f, .int .i64 b] 24)).cell? ⟨w.heap.size, 0, none⟩ = some (.int .i64 f) := by simp [go_sem]
    have c1 : (w.alloc (.cells #[.int .i64 f, .int .i64 b] 24)).cell? ⟨w.heap.size, 1, none⟩ = some (.int .i64 b) := by simp [go_sem]
    have HX : Hid (Ext w (w.alloc (.cells #[.int .i64 f, .int .i64 b] 24))) := (Below.refl _ _).alloc (Nat.le_refl _) _
    clear HR
    have HR := HR0; clear HR0
    go_wp2_with fail
    refine (fitFirst A m c l f b n g _ HR.out (by omega)).mono ?_
    rintro e w1 ⟨rfl, hx1⟩
    replace c0 := hx1.cell' c0
    replace c1 := hx1.cell' c1
    replace HR := Lib.hid (HR.out.ext hx1)
    replace HX := Lib.hid (HX.out.trans' hx1)
    clear hx1
    rw [H1.out]
    go_wp2_with fail
    refine (fitLast A m c l f b n g _ HR.out (by omega)).mono ?_
    rintro e w2 ⟨rfl, hx2⟩
    replace c0 := hx2.cell' c0
    replace c1 := hx2.cell' c1
    replace HR := Lib.hid (HR.out.ext hx2)
    replace HX := Lib.hid (HX.out.trans' hx2)
    clear hx2
    rw [H2.out]
    go_wp2_with fail
    refine (ref10Check A m c l f b n g _ HR.out (by omega)).mono ?_
    rintro e w3 ⟨rfl, hx3⟩
    replace c0 := hx3.cell' c0
    replace c1 := hx3.cell' c1
    replace HR := Lib.hid (HR.out.ext hx3)
    replace HX := Lib.hid (HX.out.trans' hx3)
    clear hx3
    rw [H3.out]
    go_wp2_with fail
    refine (knownW _).mono ?_
    rintro e w4 ⟨rfl, hx4⟩
    replace c0 := hx4.cell' c0
    replace c1 := hx4.cell' c1
    replace HR := Lib.hid (HR.out.ext hx4)
    replace HX := Lib.hid (HX.out.trans' hx4)
    clear hx4
    go_wp2
    go_ret
    exact ⟨rfl, HX.out⟩
  have H3 := Lib.hid (reqE_t hq)
  have HP := Lib.hid hq.1
  have hbd := hq.bd
  obtain ⟨f0, f1, b0, b1, g0, g1⟩ := hbd
  rcases finds hq with ⟨hneg, h1, h2⟩ | ⟨hpos, h1, h2⟩
  · have H1 := Lib.hid h1
    have H2 := Lib.hid h2
    clear h1 h2 hq
    obtain ⟨F, HF⟩ : ∃ F, Hid (firstF l f b n g = F) := ⟨_, rfl⟩
    rw [HF.out] at hneg
    go_enter Try.func3, Try.ntmps3
    have HR0 := Lib.hid (HR.out.alloc' (.cells #[.int .i64 f, .int .i64 b] 24))
    have c0 : (w.alloc (.cells #[.int .i64 f, .int .i64 b] 24)).cell? ⟨w.heap.size, 0, none⟩ = some (.int .i64 f) := by simp [go_sem]
    have c1 : (w.alloc (.cells #[.int .i64 f, .int .i64 b] 24)).cell? ⟨w.heap.size, 1, none⟩ = some (.int .i64 b) := by simp [go_sem]
    have HX : Hid (Ext w (w.alloc (.cells #[.int .i64 f, .int .i64 b] 24))) := (Below.refl _ _).alloc (Nat.le_refl _) _
    clear HR
    have HR := HR0; clear HR0
    go_wp2_with fail
    refine (fitFirst A m c l f b n g _ HR.out (by omega)).mono ?_
    rintro e w1 ⟨rfl, hx1⟩
    replace c0 := hx1.cell' c0
    replace c1 := hx1.cell' c1
    replace HR := Lib.hid (HR.out.ext hx1)
    replace HX := Lib.hid (HX.out.trans' hx1)
    clear hx1
    rw [H1.out]
    go_wp2_with fail
    refine (fitLast A m c l f b n g _ HR.out (by omega)).mono ?_
    rintro e w2 ⟨rfl, hx2⟩
    replace c0 := hx2.cell' c0
    replace c1 := hx2.cell' c1
    replace HR := Lib.hid (HR.out.ext hx2)
    replace HX := Lib.hid (HX.out.trans' hx2)
    clear hx2
    rw [H2.out]
    go_wp2_with fail
    refine (ref10Check A m c l f b n g _ HR.out (by omega)).mono ?_
    rintro e w3 ⟨rfl, hx3⟩
    replace c0 := hx3.cell' c0
    replace c1 := hx3.cell' c1
    replace HR := Lib.hid (HR.out.ext hx3)
    replace HX := Lib.hid (HX.out.trans' hx3)
    clear hx3
    rw [H3.out]
    go_wp2_with fail
    refine (refFirst A m c l f b n g _ HR.out (by omega) HP.out ⟨f0, f1⟩ ⟨b0, b1⟩ ⟨g0, g1⟩).mono ?_
    rintro e w4 ⟨rfl, hx4⟩
    replace c0 := hx4.cell' c0
    replace c1 := hx4.cell' c1
    replace HR := Lib.hid (HR.out.ext hx4)
    replace HX := Lib.hid (HX.out.trans' hx4)
    clear hx4
    rw [HF.out]
    go_wp2_with fail
    refine (refLast A m c l f b n g _ HR.out (by omega) HP.out ⟨f0, f1⟩ ⟨b0, b1⟩ ⟨g0, g1⟩).mono ?_
    rintro e w5 ⟨rfl, hx5⟩
    replace c0 := hx5.cell' c0
    replace c1 := hx5.cell' c1
    replace HR := Lib.hid (HR.out.ext hx5)
    replace HX := Lib.hid (HX.out.trans' hx5)
    clear hx5
    go_wp2_with fail
    refine (knownW _).mono ?_
    rintro e w6 ⟨rfl, hx6⟩
    replace c0 := hx6.cell' c0
    replace c1 := hx6.cell' c1
    replace HR := Lib.hid (HR.out.ext hx6)
    replace HX := Lib.hid (HX.out.trans' hx6)
    clear hx6
    go_wp2
    go_ret
    exact ⟨rfl, HX.out⟩
  · have H1 := Lib.hid h1
    have H2 := Lib.hid h2
    clear h1 h2 hq
    obtain ⟨F, HF⟩ : ∃ F, Hid (firstF l f b n g = F) := ⟨_, rfl⟩
    obtain ⟨G, HG⟩ : ∃ G, Hid (lastF l f b n g = G) := ⟨_, rfl⟩
    rw [HF.out] at hpos
    replace H1 : Hid (firstR l f b n g = (F, 0)) := by show _ = _; rw [H1.out, HF.out]
    replace H2 : Hid (lastR l f b n g = (G, 0)) := by show _ = _; rw [H2.out, HG.out]
    go_enter Try.func3, Try.ntmps3
    have HR0 := Lib.hid (HR.out.alloc' (.cells #[.int .i64 f, .int .i64 b] 24))
    have c0 : (w.alloc (.cells #[.int .i64 f, .int .i64 b] 24)).cell? ⟨w.heap.size, 0, none⟩ = some (.int .i64 f) := by simp [go_sem]
    have c1 : (w.alloc (.cells #[.int .i64 f, .int .i64 b] 24)).cell? ⟨w.heap.size, 1, none⟩ = some (.int .i64 b) := by simp [go_sem]
    have HX : Hid (Ext w (w.alloc (.cells #[.int .i64 f, .int .i64 b] 24))) := (Below.refl _ _).alloc (Nat.le_refl _) _
    clear HR
    have HR := HR0; clear HR0
    go_wp2_with fail
    refine (fitFirst A m c l f b n g _ HR.out (by omega)).mono ?_
    rintro e w1 ⟨rfl, hx1⟩
    replace c0 := hx1.cell' c0
    replace c1 := hx1.cell' c1
    replace HR := Lib.hid (HR.out.ext hx1)
    replace HX := Lib.hid (HX.out.trans' hx1)
    clear hx1
    rw [H1.out]
    go_wp2_with fail
    refine (fitLast A m c l f b n g _ HR.out (by omega)).mono ?_
    rintro e w2 ⟨rfl, hx2⟩
    replace c0 := hx2.cell' c0
    replace c1 := hx2.cell' c1
    replace HR := Lib.hid (HR.out.ext hx2)
    replace HX := Lib.hid (HX.out.trans' hx2)
    clear hx2
    rw [H2.out]
    go_wp2_with fail
    refine (ref10Check A m c l f b n g _ HR.out (by omega)).mono ?_
    rintro e w3 ⟨rfl, hx3⟩
    replace c0 := hx3.cell' c0
    replace c1 := hx3.cell' c1
    replace HR := Lib.hid (HR.out.ext hx3)
    replace HX := Lib.hid (HX.out.trans' hx3)
    clear hx3
    rw [H3.out]
    go_wp2_with fail
    refine (refFirst A m c l f b n g _ HR.out (by omega) HP.out ⟨f0, f1⟩ ⟨b0, b1⟩ ⟨g0, g1⟩).mono ?_
    rintro e w4 ⟨rfl, hx4⟩
    replace c0 := hx4.cell' c0
    replace c1 := hx4.cell' c1
    replace HR := Lib.hid (HR.out.ext hx4)
    replace HX := Lib.hid (HX.out.trans' hx4)
    clear hx4
    rw [HF.out]
    go_wp2_with fail
    refine (refLast A m c l f b n g _ HR.out (by omega) HP.out ⟨f0, f1⟩ ⟨b0, b1⟩ ⟨g0, g1⟩).mono ?_
    rintro e w5 ⟨rfl, hx5⟩
    replace c0 := hx5.cell' c0
    replace c1 := hx5.cell' c1
    replace HR := Lib.hid (HR.out.ext hx5)
    replace HX := Lib.hid (HX.out.trans' hx5)
    clear hx5
    rw [HG.out]
    go_wp2_with fail
    refine (knownW _).mono ?_
    rintro e w6 ⟨rfl, hx6⟩
    replace c0 := hx6.cell' c0
    replace c1 := hx6.cell' c1
    replace HR := Lib.hid (HR.out.ext hx6)
    replace HX := Lib.hid (HX.out.trans' hx6)
    clear hx6
    go_wp2
    go_ret
    exact ⟨rfl, HX.out⟩

theorem walk_finds (A : Option Addr) (m c : Nat) (l : List Stp) (f b n g : Int) (w : World) (hr : RdP w A m l) (_hm : m ≤ 9223372036854775807) :
    Calls Try.prog 3 #[.slice A m c, .agg #[.int .i64 f, .int .i64 b], .int .i64 n, .int .i64 g] w fun e w' => e = .returned (.bool true) ∧ Ext w w' := by
  by_cases h : m ≤ 40
  · exact finds_short A m c l f b n g w hr h
  · exact finds_long A m c f b n g w (by omega)
end Go.Proofs.Ytnilplnfomgleaa
