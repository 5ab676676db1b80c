/-
  Walk: FitWidest. Conditions: none.
-/
import Derived.Test.YtnilplnfomgleaaWWide
import Derived.Test.YtnilplnfomgleaaWKnown
namespace Go.Proofs.Ytnilplnfomgleaa
open Go.RowKit

set_option maxRecDepth 100000 in
set_option maxHeartbeats 2000000 in
theorem walk_widest (A : Option Addr) (m c : Nat) (l : List Stp) (f b g : Int) (w : World) (hr : RdP w A m l) (hn : m ≤ 9223372036854775807) :
    Calls Try.prog 7 #[.slice A m c, .agg #[.int .i64 f, .int .i64 b], .int .i64 g] w fun e w' => e = .returned (.bool true) ∧ Ext w w' := by
  have HR := Lib.hid hr; clear hr
  by_cases hlong : 40 < m
  · skip
    go_enter Try.func7, Try.ntmps7
    have HR0 := Lib.hid (HR.out.alloc' (.cells #[.int .i64 f, .int .i64 b] 24))
    have c0 : (w.alloc (.cells #[.int .i64 f, .int .i64 b] 24)).cell? ⟨w.heap.size, 0, none⟩ = some (.int .i64 f) := by simp [go_sem]
    have c1 : (w.alloc (.cells #[.int .i64 f, .int .i64 b] 24)).cell? ⟨w.heap.size, 1, none⟩ = some (.int .i64 b) := by simp [go_sem]
    have HX : Hid (Ext w (w.alloc (.cells #[.int .i64 f, .int .i64 b] 24))) := (Below.refl _ _).alloc (Nat.le_refl _) _
    clear HR
    have HR := HR0; clear HR0
    go_wp2_with fail
    refine (knownW _).mono ?_
    rintro e w1 ⟨rfl, hx1⟩
    replace c0 := hx1.cell' c0
    replace c1 := hx1.cell' c1
    replace HR := Lib.hid (HR.out.ext hx1)
    replace HX := Lib.hid (HX.out.trans' hx1)
    clear hx1
    go_wp2
    go_ret
    exact ⟨rfl, HX.out⟩
  by_cases hq : Req l f b 1 g
  case neg =>
    have HE := Lib.hid (reqE_f hq)
    have HQ := Lib.hid hq
    clear hq
    go_enter Try.func7, Try.ntmps7
    have HR0 := Lib.hid (HR.out.alloc' (.cells #[.int .i64 f, .int .i64 b] 24))
    have c0 : (w.alloc (.cells #[.int .i64 f, .int .i64 b] 24)).cell? ⟨w.heap.size, 0, none⟩ = some (.int .i64 f) := by simp [go_sem]
    have c1 : (w.alloc (.cells #[.int .i64 f, .int .i64 b] 24)).cell? ⟨w.heap.size, 1, none⟩ = some (.int .i64 b) := by simp [go_sem]
    have HX : Hid (Ext w (w.alloc (.cells #[.int .i64 f, .int .i64 b] 24))) := (Below.refl _ _).alloc (Nat.le_refl _) _
    clear HR
    have HR := HR0; clear HR0
    go_wp2_with fail
    refine (wid_bad A m c l f b g _ HR.out (by omega) HQ.out).mono ?_
    rintro e w1 ⟨rfl, hx1⟩
    replace c0 := hx1.cell' c0
    replace c1 := hx1.cell' c1
    replace HR := Lib.hid (HR.out.ext hx1)
    replace HX := Lib.hid (HX.out.trans' hx1)
    clear hx1
    go_wp2_with fail
    refine (ref10Check A m c l f b 1 g _ HR.out (by omega)).mono ?_
    rintro e w2 ⟨rfl, hx2⟩
    replace c0 := hx2.cell' c0
    replace c1 := hx2.cell' c1
    replace HR := Lib.hid (HR.out.ext hx2)
    replace HX := Lib.hid (HX.out.trans' hx2)
    clear hx2
    rw [HE.out]
    go_wp2_with fail
    refine (knownW _).mono ?_
    rintro e w3 ⟨rfl, hx3⟩
    replace c0 := hx3.cell' c0
    replace c1 := hx3.cell' c1
    replace HR := Lib.hid (HR.out.ext hx3)
    replace HX := Lib.hid (HX.out.trans' hx3)
    clear hx3
    go_wp2
    go_ret
    exact ⟨rfl, HX.out⟩
  have HE := Lib.hid (reqE_t hq)
  have HQ := Lib.hid hq
  have hbd := hq.bd
  clear hq
  obtain ⟨f0, f1, b0, b1, g0, g1⟩ := hbd
  by_cases hg : g = 0
  · have dg : (g == 0) = true := by simpa using hg
    have dp : decide (0 < g) = false := by simp; omega
    replace hg := Lib.hid hg
    go_enter Try.func7, Try.ntmps7
    have HR0 := Lib.hid (HR.out.alloc' (.cells #[.int .i64 f, .int .i64 b] 24))
    have c0 : (w.alloc (.cells #[.int .i64 f, .int .i64 b] 24)).cell? ⟨w.heap.size, 0, none⟩ = some (.int .i64 f) := by simp [go_sem]
    have c1 : (w.alloc (.cells #[.int .i64 f, .int .i64 b] 24)).cell? ⟨w.heap.size, 1, none⟩ = some (.int .i64 b) := by simp [go_sem]
    have HX : Hid (Ext w (w.alloc (.cells #[.int .i64 f, .int .i64 b] 24))) := (Below.refl _ _).alloc (Nat.le_refl _) _
    clear HR
    have HR := HR0; clear HR0
    go_wp2_with fail
    refine (wid_zero A m c l f b g _ HR.out (by omega) HQ.out hg.out).mono ?_
    rintro e w1 ⟨rfl, hx1⟩
    replace c0 := hx1.cell' c0
    replace c1 := hx1.cell' c1
    replace HR := Lib.hid (HR.out.ext hx1)
    replace HX := Lib.hid (HX.out.trans' hx1)
    clear hx1
    go_wp2_with fail
    refine (ref10Check A m c l f b 1 g _ HR.out (by omega)).mono ?_
    rintro e w2 ⟨rfl, hx2⟩
    replace c0 := hx2.cell' c0
    replace c1 := hx2.cell' c1
    replace HR := Lib.hid (HR.out.ext hx2)
    replace HX := Lib.hid (HX.out.trans' hx2)
    clear hx2
    rw [HE.out]
    go_wp2_with fail
    refine (knownW _).mono ?_
    rintro e w3 ⟨rfl, hx3⟩
    replace c0 := hx3.cell' c0
    replace c1 := hx3.cell' c1
    replace HR := Lib.hid (HR.out.ext hx3)
    replace HX := Lib.hid (HX.out.trans' hx3)
    clear hx3
    go_wp2
    go_ret
    exact ⟨rfl, HX.out⟩
  have dg : (g == 0) = false := by simpa using hg
  have dp : decide (0 < g) = true := by simp; omega
  by_cases hroom : b - f < g
  · skip
    go_enter Try.func7, Try.ntmps7
    have HR0 := Lib.hid (HR.out.alloc' (.cells #[.int .i64 f, .int .i64 b] 24))
    have c0 : (w.alloc (.cells #[.int .i64 f, .int .i64 b] 24)).cell? ⟨w.heap.size, 0, none⟩ = some (.int .i64 f) := by simp [go_sem]
    have c1 : (w.alloc (.cells #[.int .i64 f, .int .i64 b] 24)).cell? ⟨w.heap.size, 1, none⟩ = some (.int .i64 b) := by simp [go_sem]
    have HX : Hid (Ext w (w.alloc (.cells #[.int .i64 f, .int .i64 b] 24))) := (Below.refl _ _).alloc (Nat.le_refl _) _
    clear HR
    have HR := HR0; clear HR0
    go_wp2_with fail
    refine (wid_room A m c l f b g _ HR.out (by omega) HQ.out hg hroom).mono ?_
    rintro e w1 ⟨rfl, hx1⟩
    replace c0 := hx1.cell' c0
    replace c1 := hx1.cell' c1
    replace HR := Lib.hid (HR.out.ext hx1)
    replace HX := Lib.hid (HX.out.trans' hx1)
    clear hx1
    go_wp2_with fail
    refine (ref10Check A m c l f b 1 g _ HR.out (by omega)).mono ?_
    rintro e w2 ⟨rfl, hx2⟩
    replace c0 := hx2.cell' c0
    replace c1 := hx2.cell' c1
    replace HR := Lib.hid (HR.out.ext hx2)
    replace HX := Lib.hid (HX.out.trans' hx2)
    clear hx2
    rw [HE.out]
    go_wp2_with fail
    refine (knownW _).mono ?_
    rintro e w3 ⟨rfl, hx3⟩
    replace c0 := hx3.cell' c0
    replace c1 := hx3.cell' c1
    replace HR := Lib.hid (HR.out.ext hx3)
    replace HX := Lib.hid (HX.out.trans' hx3)
    clear hx3
    go_wp2
    go_ret
    exact ⟨rfl, HX.out⟩
  have hroom : g ≤ b - f := by omega
  go_enter Try.func7, Try.ntmps7
  have HR0 := Lib.hid (HR.out.alloc' (.cells #[.int .i64 f, .int .i64 b] 24))
  have c0 : (w.alloc (.cells #[.int .i64 f, .int .i64 b] 24)).cell? ⟨w.heap.size, 0, none⟩ = some (.int .i64 f) := by simp [go_sem]
  have c1 : (w.alloc (.cells #[.int .i64 f, .int .i64 b] 24)).cell? ⟨w.heap.size, 1, none⟩ = some (.int .i64 b) := by simp [go_sem]
  have HX : Hid (Ext w (w.alloc (.cells #[.int .i64 f, .int .i64 b] 24))) := (Below.refl _ _).alloc (Nat.le_refl _) _
  clear HR
  have HR := HR0; clear HR0
  go_wp2_with fail
  refine (wid_ok A m c l f b g _ HR.out (by omega) HQ.out hg hroom).mono ?_
  rintro e w1 ⟨N, T, hW, rfl, hx1⟩
  replace c0 := hx1.cell' c0
  replace c1 := hx1.cell' c1
  replace HR := Lib.hid (HR.out.ext hx1)
  replace HX := Lib.hid (HX.out.trans' hx1)
  clear hx1
  have HD := Lib.hid (wid_same HQ.out hg hW)
  obtain ⟨n0, n1, hz, hp, hmore⟩ := hW
  go_wp2_with fail
  refine (ref10Check A m c l f b 1 g _ HR.out (by omega)).mono ?_
  rintro e w2 ⟨rfl, hx2⟩
  replace c0 := hx2.cell' c0
  replace c1 := hx2.cell' c1
  replace HR := Lib.hid (HR.out.ext hx2)
  replace HX := Lib.hid (HX.out.trans' hx2)
  clear hx2
  rw [HE.out]
  go_wp2_with fail
  refine (refWidest A m c l f b g _ HR.out (by omega) HQ.out.1 ⟨f0, f1⟩ ⟨b0, b1⟩ ⟨by omega, g1⟩).mono ?_
  rintro e w3 ⟨rfl, hx3⟩
  replace c0 := hx3.cell' c0
  replace c1 := hx3.cell' c1
  replace HR := Lib.hid (HR.out.ext hx3)
  replace HX := Lib.hid (HX.out.trans' hx3)
  clear hx3
  rw [HD.out]
  by_cases hN : N = 0
  · skip
    have hT := hz hN
    subst hN
    subst hT
    clear hz hp hmore HD
    go_wp2_with fail
    refine (knownW _).mono ?_
    rintro e w4 ⟨rfl, hx4⟩
    replace c0 := hx4.cell' c0
    replace c1 := hx4.cell' c1
    replace HR := Lib.hid (HR.out.ext hx4)
    replace HX := Lib.hid (HX.out.trans' hx4)
    clear hx4
    go_wp2
    go_ret
    exact ⟨rfl, HX.out⟩
  have hpos : 0 < N := by omega
  have dN : (N == 0) = false := by simpa using hN
  have HT := Lib.hid (hp hpos)
  obtain ⟨hqN, _⟩ := err_ok (l := l) (f := f) (b := b) (n := N) (g := g) (by rw [HT.out])
  have HF : Hid (firstF l f b N g = T) := by
    rcases finds hqN with ⟨_, h1, _⟩ | ⟨_, h1, _⟩
    · rw [HT.out] at h1; injection h1 with _ h1; omega
    · rw [HT.out] at h1; injection h1 with h1 _; exact h1.symm
  clear hz hp hN hqN HD
  by_cases hmax : N < 10000
  · have HM : Hid (firstR l f b (N + 1) g = (0, 70)) := by
      have hno := hmore (N + 1) (by omega) (by omega)
      have hq' : Req l f b (N + 1) g := ⟨HQ.out.1, HQ.out.2.1, HQ.out.2.2.1, by omega, by omega, HQ.out.2.2.2.2.2⟩
      exact first_no hq' (fun s hs => hno (err_room hq' hs))
    clear hmore
    go_wp2_with fail
    refine (fitFirst A m c l f b (N + 1) g _ HR.out (by omega)).mono ?_
    rintro e w4 ⟨rfl, hx4⟩
    replace c0 := hx4.cell' c0
    replace c1 := hx4.cell' c1
    replace HR := Lib.hid (HR.out.ext hx4)
    replace HX := Lib.hid (HX.out.trans' hx4)
    clear hx4
    rw [HM.out]
    go_wp2_with fail
    refine (refFirst A m c l f b N g _ HR.out (by omega) HQ.out.1 ⟨f0, f1⟩ ⟨b0, b1⟩ ⟨g0, g1⟩).mono ?_
    rintro e w5 ⟨rfl, hx5⟩
    replace c0 := hx5.cell' c0
    replace c1 := hx5.cell' c1
    replace HR := Lib.hid (HR.out.ext hx5)
    replace HX := Lib.hid (HX.out.trans' hx5)
    clear hx5
    rw [HF.out]
    go_wp2_with fail
    refine (knownW _).mono ?_
    rintro e w6 ⟨rfl, hx6⟩
    replace c0 := hx6.cell' c0
    replace c1 := hx6.cell' c1
    replace HR := Lib.hid (HR.out.ext hx6)
    replace HX := Lib.hid (HX.out.trans' hx6)
    clear hx6
    go_wp2
    go_ret
    exact ⟨rfl, HX.out⟩
  · clear hmore
    go_wp2_with fail
    refine (refFirst A m c l f b N g _ HR.out (by omega) HQ.out.1 ⟨f0, f1⟩ ⟨b0, b1⟩ ⟨g0, g1⟩).mono ?_
    rintro e w4 ⟨rfl, hx4⟩
    replace c0 := hx4.cell' c0
    replace c1 := hx4.cell' c1
    replace HR := Lib.hid (HR.out.ext hx4)
    replace HX := Lib.hid (HX.out.trans' hx4)
    clear hx4
    rw [HF.out]
    go_wp2_with fail
    refine (knownW _).mono ?_
    rintro e w5 ⟨rfl, hx5⟩
    replace c0 := hx5.cell' c0
    replace c1 := hx5.cell' c1
    replace HR := Lib.hid (HR.out.ext hx5)
    replace HX := Lib.hid (HX.out.trans' hx5)
    clear hx5
    go_wp2
    go_ret
    exact ⟨rfl, HX.out⟩
end Go.Proofs.Ytnilplnfomgleaa
