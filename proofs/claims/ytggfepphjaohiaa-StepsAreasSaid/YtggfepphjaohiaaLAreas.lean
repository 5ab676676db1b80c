/-
  Walk: the statement StepsAreas. Conditions: none.
-/
import Derived.Test.YtggfepphjaohiaaWKnown9
import Derived.Test.YtggfepphjaohiaaWArea
import Derived.Test.YtggfepphjaohiaaWMost
namespace Go.Proofs.Ytggfepphjaohiaa
open Go.RowKit
set_option linter.unusedVariables false
set_option linter.unusedSimpArgs false

theorem min_max_free {l : List Stp} {a d : Int} (hl : Prof l) (h0 : 0 ≤ a) : ∀ x, a ≤ x → x < d → minF l a d ≤ freeT l x ∧ freeT l x ≤ maxF l a d := fun x h1 h2 => by
  have m1 := (le_minTo l l a d (minF l a d)).1 (Int.le_refl _)
  have m2 := (maxTo_le l l a d (maxF l a d)).1 (Int.le_refl _)
  obtain ⟨i, τ, v, h3, h4, h5, h6⟩ := step_at hl (x := x) (by omega)
  rw [h6]
  have hm := List.mem_of_getElem? h3
  rcases Int.lt_or_le τ a with h7 | h7
  · have : freeT l a = v := freeT_last hl.asc hm (by omega) fun s hs hsa => h5 s hs (by omega)
    rw [this] at m1 m2
    exact ⟨m1.1, m2.1⟩
  · exact ⟨m1.2 _ hm h7 (by simp only; omega), m2.2 _ hm h7 (by simp only; omega)⟩
theorem min_max_range {l : List Stp} {a d : Int} (hl : Prof l) : (0 ≤ minF l a d ∧ minF l a d ≤ 10000) ∧ 0 ≤ maxF l a d ∧ maxF l a d ≤ 10000 := by
  have f := hl.free a
  have m1 := (le_minTo l l a d (minF l a d)).1 (Int.le_refl _)
  have m2 := (maxTo_le l l a d (maxF l a d)).1 (Int.le_refl _)
  have m3 : 0 ≤ minF l a d := (le_minTo l l a d 0).2 ⟨f.1, fun s hs _ _ => (hl.bound s hs).2.1⟩
  have m4 : maxF l a d ≤ 10000 := (maxTo_le l l a d 10000).2 ⟨f.2, fun s hs _ _ => (hl.bound s hs).2.2⟩
  omega

set_option maxHeartbeats 8000000 in
theorem walk_areas (A : Option Addr) (n c : Nat) (l : List Stp) (a b d : Int) (W : World) (hr : RdP W A n l) (hn : n ≤ 9223372036854775807) :
    Calls Try.prog 7 #[.slice A n c, .int .i64 a, .int .i64 b, .int .i64 d] W fun e w' => e = .returned (.bool true) ∧ Ext W w' := by
  have HR := Lib.hid hr; clear hr
  by_cases hlong : 60 < n
  · skip
    go_enter Try.func7, Try.ntmps7
    have HX : Hid (Ext W W) := Ext.rfl'
    go_wp2_with fail
    refine (known9 _).mono ?_
    rintro e w1 ⟨rfl, hx1⟩
    replace HX := Lib.hid (HX.out.trans' hx1)
    clear hx1
    go_wp2
    (try rw [Exit.noGoto_ret])
    go_ret
    exact ⟨rfl, HX.out⟩
  replace hlong : n ≤ 60 := by omega
  rcases chkE_cases l with ⟨hp, hc⟩ | ⟨hp, hc⟩
  case inr =>
    have HC := Lib.hid hc; clear hc hp
    go_enter Try.func7, Try.ntmps7
    have HX : Hid (Ext W W) := Ext.rfl'
    go_wp2_with fail
    refine (stepsCheck A n c l _ HR.out (by omega)).mono ?_
    rintro e w1 ⟨rfl, hx1⟩
    replace HX := Lib.hid (HX.out.trans' hx1)
    replace HR := Lib.hid (HR.out.ext hx1)
    clear hx1
    rw [HC.out]
    go_wp2_with fail
    refine (known9 _).mono ?_
    rintro e w2 ⟨rfl, hx2⟩
    replace HX := Lib.hid (HX.out.trans' hx2)
    replace HR := Lib.hid (HR.out.ext hx2)
    clear hx2
    go_wp2
    (try rw [Exit.noGoto_ret])
    go_ret
    exact ⟨rfl, HX.out⟩
  have HC := Lib.hid hc; clear hc
  by_cases ha : AreaArg l a b
  case neg =>
    have HA := Lib.hid (area_bad ha); clear ha hp
    go_enter Try.func7, Try.ntmps7
    have HX : Hid (Ext W W) := Ext.rfl'
    go_wp2_with fail
    refine (stepsCheck A n c l _ HR.out (by omega)).mono ?_
    rintro e w1 ⟨rfl, hx1⟩
    replace HX := Lib.hid (HX.out.trans' hx1)
    replace HR := Lib.hid (HR.out.ext hx1)
    clear hx1
    rw [HC.out]
    go_wp2_with fail
    refine (stepsArea A n c l a b _ HR.out (by omega)).mono ?_
    rintro e w2 ⟨rfl, hx2⟩
    replace HX := Lib.hid (HX.out.trans' hx2)
    replace HR := Lib.hid (HR.out.ext hx2)
    clear hx2
    rw [HA.out.1, HA.out.2]
    go_wp2_with fail
    refine (stepsArea A n c l b d _ HR.out (by omega)).mono ?_
    rintro e w3 ⟨rfl, hx3⟩
    replace HX := Lib.hid (HX.out.trans' hx3)
    replace HR := Lib.hid (HR.out.ext hx3)
    clear hx3
    go_wp2_with fail
    refine (stepsArea A n c l a d _ HR.out (by omega)).mono ?_
    rintro e w4 ⟨rfl, hx4⟩
    replace HX := Lib.hid (HX.out.trans' hx4)
    replace HR := Lib.hid (HR.out.ext hx4)
    clear hx4
    go_wp2_with fail
    refine (known9 _).mono ?_
    rintro e w5 ⟨rfl, hx5⟩
    replace HX := Lib.hid (HX.out.trans' hx5)
    replace HR := Lib.hid (HR.out.ext hx5)
    clear hx5
    go_wp2
    (try rw [Exit.noGoto_ret])
    go_ret
    exact ⟨rfl, HX.out⟩
  by_cases hb : AreaArg l b d
  case neg =>
    have HA := Lib.hid (area_ok ha)
    have HB := Lib.hid (area_bad hb); clear ha hb hp
    go_enter Try.func7, Try.ntmps7
    have HX : Hid (Ext W W) := Ext.rfl'
    go_wp2_with fail
    refine (stepsCheck A n c l _ HR.out (by omega)).mono ?_
    rintro e w1 ⟨rfl, hx1⟩
    replace HX := Lib.hid (HX.out.trans' hx1)
    replace HR := Lib.hid (HR.out.ext hx1)
    clear hx1
    rw [HC.out]
    go_wp2_with fail
    refine (stepsArea A n c l a b _ HR.out (by omega)).mono ?_
    rintro e w2 ⟨rfl, hx2⟩
    replace HX := Lib.hid (HX.out.trans' hx2)
    replace HR := Lib.hid (HR.out.ext hx2)
    clear hx2
    rw [HA.out.1, HA.out.2]
    go_wp2_with fail
    refine (stepsArea A n c l b d _ HR.out (by omega)).mono ?_
    rintro e w3 ⟨rfl, hx3⟩
    replace HX := Lib.hid (HX.out.trans' hx3)
    replace HR := Lib.hid (HR.out.ext hx3)
    clear hx3
    rw [HB.out.1, HB.out.2]
    go_wp2_with fail
    refine (stepsArea A n c l a d _ HR.out (by omega)).mono ?_
    rintro e w4 ⟨rfl, hx4⟩
    replace HX := Lib.hid (HX.out.trans' hx4)
    replace HR := Lib.hid (HR.out.ext hx4)
    clear hx4
    go_wp2_with fail
    refine (known9 _).mono ?_
    rintro e w5 ⟨rfl, hx5⟩
    replace HX := Lib.hid (HX.out.trans' hx5)
    replace HR := Lib.hid (HR.out.ext hx5)
    clear hx5
    go_wp2
    (try rw [Exit.noGoto_ret])
    go_ret
    exact ⟨rfl, HX.out⟩
  have HA := Lib.hid (area_ok ha)
  have HB := Lib.hid (area_ok hb)
  have hd : AreaArg l a d := ⟨hp, ha.2.1, hb.2.2.1, Int.le_trans ha.2.2.2 hb.2.2.2⟩
  have HD0 := area_ok hd
  rw [areaF_add ha.2.2.2 hb.2.2.2] at HD0
  have HD := Lib.hid HD0
  clear HD0
  obtain ⟨f0, f1⟩ := (isT_iff a).1 ha.2.1
  obtain ⟨t0, t1⟩ := (isT_iff d).1 hb.2.2.1
  obtain ⟨x0, x1⟩ := area_small hp f0 ha.2.2.2 (by have := hb.2.2.2; omega)
  obtain ⟨y0, y1⟩ := area_small hp (show 0 ≤ b by have := ha.2.2.2; omega) hb.2.2.2 t1
  have hft := hd.2.2.2
  by_cases hlt : a < d
  · have HW : Hid (While l a d) := ⟨hp, hd.2.1, hd.2.2.1, hlt⟩
    have hbd := areaF_bound hft (min_max_free hp f0)
    rw [areaF_add ha.2.2.2 hb.2.2.2] at hbd
    obtain ⟨⟨r0, r1⟩, r2, r3⟩ := min_max_range (a := a) (d := d) hp
    obtain ⟨X, HX'⟩ : ∃ X, Hid (areaF l a b = X) := ⟨_, rfl⟩
    obtain ⟨Y, HY'⟩ : ∃ Y, Hid (areaF l b d = Y) := ⟨_, rfl⟩
    obtain ⟨lo, HLo⟩ : ∃ lo, Hid (minF l a d = lo) := ⟨_, rfl⟩
    obtain ⟨hi, HHi⟩ : ∃ hi, Hid (maxF l a d = hi) := ⟨_, rfl⟩
    rw [HX'.out, HY'.out, HLo.out, HHi.out] at hbd
    rw [HX'.out] at x0 x1
    rw [HY'.out] at y0 y1
    rw [HLo.out] at r0 r1
    rw [HHi.out] at r2 r3
    rw [HX'.out] at HA HD
    rw [HY'.out] at HB HD
    obtain ⟨q0, q1⟩ := prod_small r0 r1 (show 0 ≤ d - a by omega) (by omega)
    obtain ⟨q2, q3⟩ := prod_small r2 r3 (show 0 ≤ d - a by omega) (by omega)
    obtain ⟨z0, z1⟩ := hbd
    have dad : (a == d) = false := by simp; omega
    clear ha hb hd hp
    go_enter Try.func7, Try.ntmps7
    have HX : Hid (Ext W W) := Ext.rfl'
    go_wp2_with fail
    refine (stepsCheck A n c l _ HR.out (by omega)).mono ?_
    rintro e w1 ⟨rfl, hx1⟩
    replace HX := Lib.hid (HX.out.trans' hx1)
    replace HR := Lib.hid (HR.out.ext hx1)
    clear hx1
    rw [HC.out]
    go_wp2_with fail
    refine (stepsArea A n c l a b _ HR.out (by omega)).mono ?_
    rintro e w2 ⟨rfl, hx2⟩
    replace HX := Lib.hid (HX.out.trans' hx2)
    replace HR := Lib.hid (HR.out.ext hx2)
    clear hx2
    rw [HA.out.1, HA.out.2]
    go_wp2_with fail
    refine (stepsArea A n c l b d _ HR.out (by omega)).mono ?_
    rintro e w3 ⟨rfl, hx3⟩
    replace HX := Lib.hid (HX.out.trans' hx3)
    replace HR := Lib.hid (HR.out.ext hx3)
    clear hx3
    rw [HB.out.1, HB.out.2]
    go_wp2_with fail
    refine (stepsArea A n c l a d _ HR.out (by omega)).mono ?_
    rintro e w4 ⟨rfl, hx4⟩
    replace HX := Lib.hid (HX.out.trans' hx4)
    replace HR := Lib.hid (HR.out.ext hx4)
    clear hx4
    rw [HD.out.1, HD.out.2]
    go_wp2_with fail
    refine (least_ok A n c l a d _ HR.out HW.out).mono ?_
    rintro e w5 ⟨rfl, hx5⟩
    replace HX := Lib.hid (HX.out.trans' hx5)
    replace HR := Lib.hid (HR.out.ext hx5)
    clear hx5
    rw [HLo.out]
    go_wp2_with fail
    refine (most_ok A n c l a d _ HR.out HW.out).mono ?_
    rintro e w6 ⟨rfl, hx6⟩
    replace HX := Lib.hid (HX.out.trans' hx6)
    replace HR := Lib.hid (HR.out.ext hx6)
    clear hx6
    rw [HHi.out]
    go_wp2_with fail
    refine (known9 _).mono ?_
    rintro e w7 ⟨rfl, hx7⟩
    replace HX := Lib.hid (HX.out.trans' hx7)
    replace HR := Lib.hid (HR.out.ext hx7)
    clear hx7
    go_wp2
    (try rw [Exit.noGoto_ret])
    go_ret
    exact ⟨rfl, HX.out⟩
  · obtain rfl : a = d := by omega
    have hab : a = b := by have := ha.2.2.2; have := hb.2.2.2; omega
    subst hab
    simp only [areaF_self] at HA HB HD
    simp only [areaF_self] at x0 x1 y0 y1
    clear ha hb hd hp
    go_enter Try.func7, Try.ntmps7
    have HX : Hid (Ext W W) := Ext.rfl'
    go_wp2_with fail
    refine (stepsCheck A n c l _ HR.out (by omega)).mono ?_
    rintro e w1 ⟨rfl, hx1⟩
    replace HX := Lib.hid (HX.out.trans' hx1)
    replace HR := Lib.hid (HR.out.ext hx1)
    clear hx1
    rw [HC.out]
    go_wp2_with fail
    refine (stepsArea A n c l a a _ HR.out (by omega)).mono ?_
    rintro e w2 ⟨rfl, hx2⟩
    replace HX := Lib.hid (HX.out.trans' hx2)
    replace HR := Lib.hid (HR.out.ext hx2)
    clear hx2
    rw [HA.out.1, HA.out.2]
    go_wp2_with fail
    refine (stepsArea A n c l a a _ HR.out (by omega)).mono ?_
    rintro e w3 ⟨rfl, hx3⟩
    replace HX := Lib.hid (HX.out.trans' hx3)
    replace HR := Lib.hid (HR.out.ext hx3)
    clear hx3
    rw [HB.out.1, HB.out.2]
    go_wp2_with fail
    refine (stepsArea A n c l a a _ HR.out (by omega)).mono ?_
    rintro e w4 ⟨rfl, hx4⟩
    replace HX := Lib.hid (HX.out.trans' hx4)
    replace HR := Lib.hid (HR.out.ext hx4)
    clear hx4
    rw [HD.out.1, HD.out.2]
    go_wp2_with fail
    refine (known9 _).mono ?_
    rintro e w5 ⟨rfl, hx5⟩
    replace HX := Lib.hid (HX.out.trans' hx5)
    replace HR := Lib.hid (HR.out.ext hx5)
    clear hx5
    go_wp2
    (try rw [Exit.noGoto_ret])
    go_ret
    exact ⟨rfl, HX.out⟩
end Go.Proofs.Ytggfepphjaohiaa
