/-
  Walk: FitEnds. Conditions: none.
-/
import Derived.Test.YtnilplnfomgleaaLLess
namespace Go.Proofs.Ytnilplnfomgleaa
open Go.RowKit

theorem first_is {l : List Stp} {f b n g t : Int} (hq : Req l f b n g) (ht : FitsP l f b n g t) (hmin : ∀ s, FitsP l f b n g s → t ≤ s) : firstR l f b n g = (t, 0) := by
  have h0 := err_room hq ht
  obtain ⟨_, h1, _, h3⟩ := err_ok h0
  have := h3 t ht
  have := hmin _ h1
  exact Prod.ext (by omega) h0
theorem last_is {l : List Stp} {f b n g t : Int} (hq : Req l f b n g) (ht : FitsP l f b n g t) (hmax : ∀ s, FitsP l f b n g s → s ≤ t) : lastR l f b n g = (t, 0) := by
  have h0 := err_room hq ht
  obtain ⟨_, _, h2, h3⟩ := err_ok h0
  have := h3 t ht
  have := hmax _ h2
  exact Prod.ext (by omega) ((err_same ..).symm.trans h0)
theorem first_no {l : List Stp} {f b n g : Int} (hq : Req l f b n g) (hno : ∀ s, ¬ FitsP l f b n g s) : firstR l f b n g = (0, 70) := by
  rcases finds hq with ⟨_, h1, _⟩ | ⟨_, h1, _⟩
  · exact h1
  · have := err_ok (l := l) (f := f) (b := b) (n := n) (g := g) (by rw [h1])
    exact absurd this.2.1 (hno _)
theorem isT_mk {t : Int} (h : 0 ≤ t ∧ t ≤ 1099511627775) : isT t = true := (isT_iff t).2 h
theorem ends_plain {l : List Stp} {f b n g a z : Int} (h1 : firstR l f b n g = (a, 0)) (h2 : lastR l f b n g = (z, 0)) :
    Req l f b n g ∧ (0 ≤ a ∧ a + g ≤ 1099511627775 ∧ 0 ≤ z ∧ z + g ≤ 1099511627775) ∧ firstR l a b n g = (a, 0) ∧ lastR l f (z + g) n g = (z, 0) ∧ firstR l f (a + g) n g = (a, 0) ∧ (0 < a + g → firstR l f (a + g - 1) n g = (0, 70)) ∧ FitsP l f b n g a := by
  obtain ⟨hq, f1, f2, hall⟩ := err_ok (l := l) (f := f) (b := b) (n := n) (g := g) (by rw [h1])
  rw [h1] at f1 hall
  rw [h2] at f2 hall
  simp only at f1 f2 hall
  have hb := hq.bd
  have q1 := f1.1
  have q2 := f1.2.1
  have r1 := f2.1
  have r2 := f2.2.1
  refine ⟨hq, by omega, ?_, ?_, ?_, ?_, ⟨by omega, by omega, f1.2.2⟩⟩
  · exact first_is ⟨hq.1, isT_mk (by omega), hq.2.2.1, hq.2.2.2⟩ ⟨by omega, by omega, f1.2.2⟩ (fun s hs => hs.1)
  · exact last_is ⟨hq.1, hq.2.1, isT_mk (by omega), hq.2.2.2⟩ ⟨by omega, by omega, f2.2.2⟩ (fun s hs => by have := hs.2.1; omega)
  · exact first_is ⟨hq.1, hq.2.1, isT_mk (by omega), hq.2.2.2⟩ ⟨by omega, by omega, f1.2.2⟩ (fun s hs => (hall s ⟨hs.1, by have := hs.2.1; omega, hs.2.2⟩).1)
  · intro hpos
    refine first_no ⟨hq.1, hq.2.1, isT_mk (by omega), hq.2.2.2⟩ (fun s hs => ?_)
    have := (hall s ⟨hs.1, by have := hs.2.1; omega, hs.2.2⟩).1
    have := hs.2.1
    omega

set_option maxRecDepth 100000 in
set_option maxHeartbeats 2000000 in
theorem walk_ends (A : Option Addr) (m c : Nat) (l : List Stp) (f b n g : Int) (w : World) (hr : RdP w A m l) (hm : m ≤ 9223372036854775807) :
    Calls Try.prog 6 #[.slice A m c, .agg #[.int .i64 f, .int .i64 b], .int .i64 n, .int .i64 g] w fun e w' => e = .returned (.bool true) ∧ Ext w w' := by
  have HR := Lib.hid hr; clear hr
  obtain ⟨a1, e1, H1⟩ : ∃ a e, Hid (firstR l f b n g = (a, e)) := ⟨_, _, rfl⟩
  obtain ⟨a2, e2, H2⟩ : ∃ a e, Hid (lastR l f b n g = (a, e)) := ⟨_, _, rfl⟩
  obtain rfl : e1 = e2 := by have := err_same l f b n g; rw [H1.out, H2.out] at this; exact this
  have d1 : (e1 == e1) = true := by simp
  by_cases hlong : 40 < m
  · skip
    go_enter Try.func6, Try.ntmps6
    have HR0 := Lib.hid (HR.out.alloc' (.cells #[.int .i64 f, .int .i64 b] 24))
    have c0 : (w.alloc (.cells #[.int .i64 f, .int .i64 b] 24)).cell? ⟨w.heap.size, 0, none⟩ = some (.int .i64 f) := by simp [go_sem]
    have c1 : (w.alloc (.cells #[.int .i64 f, .int .i64 b] 24)).cell? ⟨w.heap.size, 1, none⟩ = some (.int .i64 b) := by simp [go_sem]
    have HX : Hid (Ext w (w.alloc (.cells #[.int .i64 f, .int .i64 b] 24))) := (Below.refl _ _).alloc (Nat.le_refl _) _
    clear HR
    have HR := HR0; clear HR0
    go_wp2_with fail
    refine (fitFirst A m c l f b n g _ HR.out (by omega)).mono ?_
    rintro e w1 ⟨rfl, hx1⟩
    replace c0 := hx1.cell' c0
    replace c1 := hx1.cell' c1
    replace HR := Lib.hid (HR.out.ext hx1)
    replace HX := Lib.hid (HX.out.trans' hx1)
    clear hx1
    rw [H1.out]
    go_wp2_with fail
    refine (fitLast A m c l f b n g _ HR.out (by omega)).mono ?_
    rintro e w2 ⟨rfl, hx2⟩
    replace c0 := hx2.cell' c0
    replace c1 := hx2.cell' c1
    replace HR := Lib.hid (HR.out.ext hx2)
    replace HX := Lib.hid (HX.out.trans' hx2)
    clear hx2
    rw [H2.out]
    go_wp2_with fail
    refine (knownW _).mono ?_
    rintro e w3 ⟨rfl, hx3⟩
    replace c0 := hx3.cell' c0
    replace c1 := hx3.cell' c1
    replace HR := Lib.hid (HR.out.ext hx3)
    replace HX := Lib.hid (HX.out.trans' hx3)
    clear hx3
    go_wp2
    go_ret
    exact ⟨rfl, HX.out⟩
  by_cases h0 : e1 = 0
  case neg =>
    have d0 : (e1 != 0) = true := by simpa using h0
    clear h0
    go_enter Try.func6, Try.ntmps6
    have HR0 := Lib.hid (HR.out.alloc' (.cells #[.int .i64 f, .int .i64 b] 24))
    have c0 : (w.alloc (.cells #[.int .i64 f, .int .i64 b] 24)).cell? ⟨w.heap.size, 0, none⟩ = some (.int .i64 f) := by simp [go_sem]
    have c1 : (w.alloc (.cells #[.int .i64 f, .int .i64 b] 24)).cell? ⟨w.heap.size, 1, none⟩ = some (.int .i64 b) := by simp [go_sem]
    have HX : Hid (Ext w (w.alloc (.cells #[.int .i64 f, .int .i64 b] 24))) := (Below.refl _ _).alloc (Nat.le_refl _) _
    clear HR
    have HR := HR0; clear HR0
    go_wp2_with fail
    refine (fitFirst A m c l f b n g _ HR.out (by omega)).mono ?_
    rintro e w1 ⟨rfl, hx1⟩
    replace c0 := hx1.cell' c0
    replace c1 := hx1.cell' c1
    replace HR := Lib.hid (HR.out.ext hx1)
    replace HX := Lib.hid (HX.out.trans' hx1)
    clear hx1
    rw [H1.out]
    go_wp2_with fail
    refine (fitLast A m c l f b n g _ HR.out (by omega)).mono ?_
    rintro e w2 ⟨rfl, hx2⟩
    replace c0 := hx2.cell' c0
    replace c1 := hx2.cell' c1
    replace HR := Lib.hid (HR.out.ext hx2)
    replace HX := Lib.hid (HX.out.trans' hx2)
    clear hx2
    rw [H2.out]
    go_wp2_with fail
    refine (knownW _).mono ?_
    rintro e w3 ⟨rfl, hx3⟩
    replace c0 := hx3.cell' c0
    replace c1 := hx3.cell' c1
    replace HR := Lib.hid (HR.out.ext hx3)
    replace HX := Lib.hid (HX.out.trans' hx3)
    clear hx3
    go_wp2
    go_ret
    exact ⟨rfl, HX.out⟩
  subst h0
  clear d1
  obtain ⟨hq, ⟨p1, p2, p3, p4⟩, E1, E2, E3, E4, hfit⟩ := ends_plain H1.out H2.out
  have hbd := hq.bd
  obtain ⟨f0, f1, b0, b1, g0, g1⟩ := hbd
  replace E1 := Lib.hid E1
  replace E2 := Lib.hid E2
  replace E3 := Lib.hid E3
  have HP := Lib.hid hq.1
  have HF := Lib.hid ((fitsB_iff ..).2 hfit)
  clear hq hfit
  by_cases hpos : 0 < a1 + g
  · skip
    have H4 := Lib.hid (E4 hpos)
    clear E4
    go_enter Try.func6, Try.ntmps6
    have HR0 := Lib.hid (HR.out.alloc' (.cells #[.int .i64 f, .int .i64 b] 24))
    have c0 : (w.alloc (.cells #[.int .i64 f, .int .i64 b] 24)).cell? ⟨w.heap.size, 0, none⟩ = some (.int .i64 f) := by simp [go_sem]
    have c1 : (w.alloc (.cells #[.int .i64 f, .int .i64 b] 24)).cell? ⟨w.heap.size, 1, none⟩ = some (.int .i64 b) := by simp [go_sem]
    have HX : Hid (Ext w (w.alloc (.cells #[.int .i64 f, .int .i64 b] 24))) := (Below.refl _ _).alloc (Nat.le_refl _) _
    clear HR
    have HR := HR0; clear HR0
    go_wp2_with fail
    refine (fitFirst A m c l f b n g _ HR.out (by omega)).mono ?_
    rintro e w1 ⟨rfl, hx1⟩
    replace c0 := hx1.cell' c0
    replace c1 := hx1.cell' c1
    replace HR := Lib.hid (HR.out.ext hx1)
    replace HX := Lib.hid (HX.out.trans' hx1)
    clear hx1
    rw [H1.out]
    go_wp2_with fail
    refine (fitLast A m c l f b n g _ HR.out (by omega)).mono ?_
    rintro e w2 ⟨rfl, hx2⟩
    replace c0 := hx2.cell' c0
    replace c1 := hx2.cell' c1
    replace HR := Lib.hid (HR.out.ext hx2)
    replace HX := Lib.hid (HX.out.trans' hx2)
    clear hx2
    rw [H2.out]
    go_wp2_with fail
    refine (fitFirst A m c l a1 b n g _ HR.out (by omega)).mono ?_
    rintro e w3 ⟨rfl, hx3⟩
    replace c0 := hx3.cell' c0
    replace c1 := hx3.cell' c1
    replace HR := Lib.hid (HR.out.ext hx3)
    replace HX := Lib.hid (HX.out.trans' hx3)
    clear hx3
    rw [E1.out]
    go_wp2_with fail
    refine (fitLast A m c l f (a2 + g) n g _ HR.out (by omega)).mono ?_
    rintro e w4 ⟨rfl, hx4⟩
    replace c0 := hx4.cell' c0
    replace c1 := hx4.cell' c1
    replace HR := Lib.hid (HR.out.ext hx4)
    replace HX := Lib.hid (HX.out.trans' hx4)
    clear hx4
    rw [E2.out]
    go_wp2_with fail
    refine (fitFirst A m c l f (a1 + g) n g _ HR.out (by omega)).mono ?_
    rintro e w5 ⟨rfl, hx5⟩
    replace c0 := hx5.cell' c0
    replace c1 := hx5.cell' c1
    replace HR := Lib.hid (HR.out.ext hx5)
    replace HX := Lib.hid (HX.out.trans' hx5)
    clear hx5
    rw [E3.out]
    go_wp2_with fail
    refine (fitFirst A m c l f (a1 + g - 1) n g _ HR.out (by omega)).mono ?_
    rintro e w6 ⟨rfl, hx6⟩
    replace c0 := hx6.cell' c0
    replace c1 := hx6.cell' c1
    replace HR := Lib.hid (HR.out.ext hx6)
    replace HX := Lib.hid (HX.out.trans' hx6)
    clear hx6
    rw [H4.out]
    go_wp2_with fail
    refine (refFits A m c l f b n g a1 _ HR.out (by omega) HP.out f0 b1 ⟨g0, g1⟩ (by omega)).mono ?_
    rintro e w7 ⟨rfl, hx7⟩
    replace c0 := hx7.cell' c0
    replace c1 := hx7.cell' c1
    replace HR := Lib.hid (HR.out.ext hx7)
    replace HX := Lib.hid (HX.out.trans' hx7)
    clear hx7
    rw [HF.out]
    go_wp2_with fail
    refine (knownW _).mono ?_
    rintro e w8 ⟨rfl, hx8⟩
    replace c0 := hx8.cell' c0
    replace c1 := hx8.cell' c1
    replace HR := Lib.hid (HR.out.ext hx8)
    replace HX := Lib.hid (HX.out.trans' hx8)
    clear hx8
    go_wp2
    go_ret
    exact ⟨rfl, HX.out⟩
  · skip
    clear E4
    go_enter Try.func6, Try.ntmps6
    have HR0 := Lib.hid (HR.out.alloc' (.cells #[.int .i64 f, .int .i64 b] 24))
    have c0 : (w.alloc (.cells #[.int .i64 f, .int .i64 b] 24)).cell? ⟨w.heap.size, 0, none⟩ = some (.int .i64 f) := by simp [go_sem]
    have c1 : (w.alloc (.cells #[.int .i64 f, .int .i64 b] 24)).cell? ⟨w.heap.size, 1, none⟩ = some (.int .i64 b) := by simp [go_sem]
    have HX : Hid (Ext w (w.alloc (.cells #[.int .i64 f, .int .i64 b] 24))) := (Below.refl _ _).alloc (Nat.le_refl _) _
    clear HR
    have HR := HR0; clear HR0
    go_wp2_with fail
    refine (fitFirst A m c l f b n g _ HR.out (by omega)).mono ?_
    rintro e w1 ⟨rfl, hx1⟩
    replace c0 := hx1.cell' c0
    replace c1 := hx1.cell' c1
    replace HR := Lib.hid (HR.out.ext hx1)
    replace HX := Lib.hid (HX.out.trans' hx1)
    clear hx1
    rw [H1.out]
    go_wp2_with fail
    refine (fitLast A m c l f b n g _ HR.out (by omega)).mono ?_
    rintro e w2 ⟨rfl, hx2⟩
    replace c0 := hx2.cell' c0
    replace c1 := hx2.cell' c1
    replace HR := Lib.hid (HR.out.ext hx2)
    replace HX := Lib.hid (HX.out.trans' hx2)
    clear hx2
    rw [H2.out]
    go_wp2_with fail
    refine (fitFirst A m c l a1 b n g _ HR.out (by omega)).mono ?_
    rintro e w3 ⟨rfl, hx3⟩
    replace c0 := hx3.cell' c0
    replace c1 := hx3.cell' c1
    replace HR := Lib.hid (HR.out.ext hx3)
    replace HX := Lib.hid (HX.out.trans' hx3)
    clear hx3
    rw [E1.out]
    go_wp2_with fail
    refine (fitLast A m c l f (a2 + g) n g _ HR.out (by omega)).mono ?_
    rintro e w4 ⟨rfl, hx4⟩
    replace c0 := hx4.cell' c0
    replace c1 := hx4.cell' c1
    replace HR := Lib.hid (HR.out.ext hx4)
    replace HX := Lib.hid (HX.out.trans' hx4)
    clear hx4
    rw [E2.out]
    go_wp2_with fail
    refine (fitFirst A m c l f (a1 + g) n g _ HR.out (by omega)).mono ?_
    rintro e w5 ⟨rfl, hx5⟩
    replace c0 := hx5.cell' c0
    replace c1 := hx5.cell' c1
    replace HR := Lib.hid (HR.out.ext hx5)
    replace HX := Lib.hid (HX.out.trans' hx5)
    clear hx5
    rw [E3.out]
    go_wp2_with fail
    refine (refFits A m c l f b n g a1 _ HR.out (by omega) HP.out f0 b1 ⟨g0, g1⟩ (by omega)).mono ?_
    rintro e w6 ⟨rfl, hx6⟩
    replace c0 := hx6.cell' c0
    replace c1 := hx6.cell' c1
    replace HR := Lib.hid (HR.out.ext hx6)
    replace HX := Lib.hid (HX.out.trans' hx6)
    clear hx6
    rw [HF.out]
    go_wp2_with fail
    refine (knownW _).mono ?_
    rintro e w7 ⟨rfl, hx7⟩
    replace c0 := hx7.cell' c0
    replace c1 := hx7.cell' c1
    replace HR := Lib.hid (HR.out.ext hx7)
    replace HX := Lib.hid (HX.out.trans' hx7)
    clear hx7
    go_wp2
    go_ret
    exact ⟨rfl, HX.out⟩
end Go.Proofs.Ytnilplnfomgleaa
