/-
  Walk: FitFits. Conditions: none.
-/
import Derived.Test.YtnilplnfomgleaaWFitF
import Derived.Test.YtnilplnfomgleaaWKnown
namespace Go.Proofs.Ytnilplnfomgleaa
open Go.RowKit

set_option maxRecDepth 100000 in
set_option maxHeartbeats 2000000 in
theorem walk_fits (A : Option Addr) (m c : Nat) (l : List Stp) (f b n g t : Int) (w : World) (hr : RdP w A m l) (hn : m ≤ 9223372036854775807) :
    Calls Try.prog 8 #[.slice A m c, .agg #[.int .i64 f, .int .i64 b], .int .i64 n, .int .i64 g, .int .i64 t] w fun e w' => e = .returned (.bool true) ∧ Ext w w' := by
  have HR := Lib.hid hr; clear hr
  by_cases hlong : 40 < m
  · skip
    go_enter Try.func8, Try.ntmps8
    have HR0 := Lib.hid (HR.out.alloc' (.cells #[.int .i64 f, .int .i64 b] 24))
    have c0 : (w.alloc (.cells #[.int .i64 f, .int .i64 b] 24)).cell? ⟨w.heap.size, 0, none⟩ = some (.int .i64 f) := by simp [go_sem]
    have c1 : (w.alloc (.cells #[.int .i64 f, .int .i64 b] 24)).cell? ⟨w.heap.size, 1, none⟩ = some (.int .i64 b) := by simp [go_sem]
    have HX : Hid (Ext w (w.alloc (.cells #[.int .i64 f, .int .i64 b] 24))) := (Below.refl _ _).alloc (Nat.le_refl _) _
    clear HR
    have HR := HR0; clear HR0
    go_wp2_with fail
    refine (knownW _).mono ?_
    rintro e w1 ⟨rfl, hx1⟩
    replace c0 := hx1.cell' c0
    replace c1 := hx1.cell' c1
    replace HR := Lib.hid (HR.out.ext hx1)
    replace HX := Lib.hid (HX.out.trans' hx1)
    clear hx1
    go_wp2
    go_ret
    exact ⟨rfl, HX.out⟩
  by_cases hq : Req l f b n g
  case neg =>
    have HE := Lib.hid (reqE_f hq)
    have HB : Hid (¬ (Req l f b n g ∧ isT t = true)) := fun h => hq h.1
    clear hq
    go_enter Try.func8, Try.ntmps8
    have HR0 := Lib.hid (HR.out.alloc' (.cells #[.int .i64 f, .int .i64 b] 24))
    have c0 : (w.alloc (.cells #[.int .i64 f, .int .i64 b] 24)).cell? ⟨w.heap.size, 0, none⟩ = some (.int .i64 f) := by simp [go_sem]
    have c1 : (w.alloc (.cells #[.int .i64 f, .int .i64 b] 24)).cell? ⟨w.heap.size, 1, none⟩ = some (.int .i64 b) := by simp [go_sem]
    have HX : Hid (Ext w (w.alloc (.cells #[.int .i64 f, .int .i64 b] 24))) := (Below.refl _ _).alloc (Nat.le_refl _) _
    clear HR
    have HR := HR0; clear HR0
    go_wp2_with fail
    refine (fitFits_bad A m c l f b n g t _ HR.out (by omega) HB.out).mono ?_
    rintro e w1 ⟨rfl, hx1⟩
    replace c0 := hx1.cell' c0
    replace c1 := hx1.cell' c1
    replace HR := Lib.hid (HR.out.ext hx1)
    replace HX := Lib.hid (HX.out.trans' hx1)
    clear hx1
    go_wp2_with fail
    refine (ref10Check A m c l f b n g _ HR.out (by omega)).mono ?_
    rintro e w2 ⟨rfl, hx2⟩
    replace c0 := hx2.cell' c0
    replace c1 := hx2.cell' c1
    replace HR := Lib.hid (HR.out.ext hx2)
    replace HX := Lib.hid (HX.out.trans' hx2)
    clear hx2
    rw [HE.out]
    go_wp2_with fail
    refine (knownW _).mono ?_
    rintro e w3 ⟨rfl, hx3⟩
    replace c0 := hx3.cell' c0
    replace c1 := hx3.cell' c1
    replace HR := Lib.hid (HR.out.ext hx3)
    replace HX := Lib.hid (HX.out.trans' hx3)
    clear hx3
    go_wp2
    go_ret
    exact ⟨rfl, HX.out⟩
  have HE := Lib.hid (reqE_t hq)
  have HQ := Lib.hid hq
  have hbd := hq.bd'
  obtain ⟨f0, f1, b0, b1, g0, g1⟩ := hbd
  by_cases ht : isT t = false
  · have HB : Hid (¬ (Req l f b n g ∧ isT t = true)) := fun h => by rw [ht] at h; exact absurd h.2 (by decide)
    have htt := (isT_f t).1 ht
    clear hq ht
    by_cases htn : t < 0
    · skip
      go_enter Try.func8, Try.ntmps8
      have HR0 := Lib.hid (HR.out.alloc' (.cells #[.int .i64 f, .int .i64 b] 24))
      have c0 : (w.alloc (.cells #[.int .i64 f, .int .i64 b] 24)).cell? ⟨w.heap.size, 0, none⟩ = some (.int .i64 f) := by simp [go_sem]
      have c1 : (w.alloc (.cells #[.int .i64 f, .int .i64 b] 24)).cell? ⟨w.heap.size, 1, none⟩ = some (.int .i64 b) := by simp [go_sem]
      have HX : Hid (Ext w (w.alloc (.cells #[.int .i64 f, .int .i64 b] 24))) := (Below.refl _ _).alloc (Nat.le_refl _) _
      clear HR
      have HR := HR0; clear HR0
      go_wp2_with fail
      refine (fitFits_bad A m c l f b n g t _ HR.out (by omega) HB.out).mono ?_
      rintro e w1 ⟨rfl, hx1⟩
      replace c0 := hx1.cell' c0
      replace c1 := hx1.cell' c1
      replace HR := Lib.hid (HR.out.ext hx1)
      replace HX := Lib.hid (HX.out.trans' hx1)
      clear hx1
      go_wp2_with fail
      refine (ref10Check A m c l f b n g _ HR.out (by omega)).mono ?_
      rintro e w2 ⟨rfl, hx2⟩
      replace c0 := hx2.cell' c0
      replace c1 := hx2.cell' c1
      replace HR := Lib.hid (HR.out.ext hx2)
      replace HX := Lib.hid (HX.out.trans' hx2)
      clear hx2
      rw [HE.out]
      go_wp2_with fail
      refine (knownW _).mono ?_
      rintro e w3 ⟨rfl, hx3⟩
      replace c0 := hx3.cell' c0
      replace c1 := hx3.cell' c1
      replace HR := Lib.hid (HR.out.ext hx3)
      replace HX := Lib.hid (HX.out.trans' hx3)
      clear hx3
      go_wp2
      go_ret
      exact ⟨rfl, HX.out⟩
    · have htp : 1099511627775 < t := by omega
      go_enter Try.func8, Try.ntmps8
      have HR0 := Lib.hid (HR.out.alloc' (.cells #[.int .i64 f, .int .i64 b] 24))
      have c0 : (w.alloc (.cells #[.int .i64 f, .int .i64 b] 24)).cell? ⟨w.heap.size, 0, none⟩ = some (.int .i64 f) := by simp [go_sem]
      have c1 : (w.alloc (.cells #[.int .i64 f, .int .i64 b] 24)).cell? ⟨w.heap.size, 1, none⟩ = some (.int .i64 b) := by simp [go_sem]
      have HX : Hid (Ext w (w.alloc (.cells #[.int .i64 f, .int .i64 b] 24))) := (Below.refl _ _).alloc (Nat.le_refl _) _
      clear HR
      have HR := HR0; clear HR0
      go_wp2_with fail
      refine (fitFits_bad A m c l f b n g t _ HR.out (by omega) HB.out).mono ?_
      rintro e w1 ⟨rfl, hx1⟩
      replace c0 := hx1.cell' c0
      replace c1 := hx1.cell' c1
      replace HR := Lib.hid (HR.out.ext hx1)
      replace HX := Lib.hid (HX.out.trans' hx1)
      clear hx1
      go_wp2_with fail
      refine (ref10Check A m c l f b n g _ HR.out (by omega)).mono ?_
      rintro e w2 ⟨rfl, hx2⟩
      replace c0 := hx2.cell' c0
      replace c1 := hx2.cell' c1
      replace HR := Lib.hid (HR.out.ext hx2)
      replace HX := Lib.hid (HX.out.trans' hx2)
      clear hx2
      rw [HE.out]
      go_wp2_with fail
      refine (knownW _).mono ?_
      rintro e w3 ⟨rfl, hx3⟩
      replace c0 := hx3.cell' c0
      replace c1 := hx3.cell' c1
      replace HR := Lib.hid (HR.out.ext hx3)
      replace HX := Lib.hid (HX.out.trans' hx3)
      clear hx3
      go_wp2
      go_ret
      exact ⟨rfl, HX.out⟩
  replace ht : isT t = true := by simpa using ht
  obtain ⟨t0, t1⟩ := (isT_iff t).1 ht
  have HT := Lib.hid ht
  clear hq ht
  obtain ⟨v, HV⟩ : ∃ v, Hid (fitsB l f b n g t = v) := ⟨_, rfl⟩
  have dv : (v == v) = true := by simp
  go_enter Try.func8, Try.ntmps8
  have HR0 := Lib.hid (HR.out.alloc' (.cells #[.int .i64 f, .int .i64 b] 24))
  have c0 : (w.alloc (.cells #[.int .i64 f, .int .i64 b] 24)).cell? ⟨w.heap.size, 0, none⟩ = some (.int .i64 f) := by simp [go_sem]
  have c1 : (w.alloc (.cells #[.int .i64 f, .int .i64 b] 24)).cell? ⟨w.heap.size, 1, none⟩ = some (.int .i64 b) := by simp [go_sem]
  have HX : Hid (Ext w (w.alloc (.cells #[.int .i64 f, .int .i64 b] 24))) := (Below.refl _ _).alloc (Nat.le_refl _) _
  clear HR
  have HR := HR0; clear HR0
  go_wp2_with fail
  refine (fitFits A m c l f b n g t _ HR.out (by omega) HQ.out HT.out).mono ?_
  rintro e w1 ⟨rfl, hx1⟩
  replace c0 := hx1.cell' c0
  replace c1 := hx1.cell' c1
  replace HR := Lib.hid (HR.out.ext hx1)
  replace HX := Lib.hid (HX.out.trans' hx1)
  clear hx1
  rw [HV.out]
  go_wp2_with fail
  refine (ref10Check A m c l f b n g _ HR.out (by omega)).mono ?_
  rintro e w2 ⟨rfl, hx2⟩
  replace c0 := hx2.cell' c0
  replace c1 := hx2.cell' c1
  replace HR := Lib.hid (HR.out.ext hx2)
  replace HX := Lib.hid (HX.out.trans' hx2)
  clear hx2
  rw [HE.out]
  go_wp2_with fail
  refine (refFits A m c l f b n g t _ HR.out (by omega) HQ.out.1 f0 b1 ⟨g0, g1⟩ (by omega)).mono ?_
  rintro e w3 ⟨rfl, hx3⟩
  replace c0 := hx3.cell' c0
  replace c1 := hx3.cell' c1
  replace HR := Lib.hid (HR.out.ext hx3)
  replace HX := Lib.hid (HX.out.trans' hx3)
  clear hx3
  rw [HV.out]
  go_wp2_with fail
  refine (knownW _).mono ?_
  rintro e w4 ⟨rfl, hx4⟩
  replace c0 := hx4.cell' c0
  replace c1 := hx4.cell' c1
  replace HR := Lib.hid (HR.out.ext hx4)
  replace HX := Lib.hid (HX.out.trans' hx4)
  clear hx4
  go_wp2
  go_ret
  exact ⟨rfl, HX.out⟩
end Go.Proofs.Ytnilplnfomgleaa
