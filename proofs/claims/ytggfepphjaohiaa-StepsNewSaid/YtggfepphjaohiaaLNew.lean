/-
  Walk: the statement StepsNew. Conditions: none.
-/
import Derived.Test.YtggfepphjaohiaaWKnown9
import Derived.Test.YtggfepphjaohiaaWSum
import Derived.Test.YtggfepphjaohiaaWAt
namespace Go.Proofs.Ytggfepphjaohiaa
open Go.RowKit
set_option linter.unusedVariables false
set_option linter.unusedSimpArgs false

theorem one_prof {n : Int} (h0 : 0 ≤ n) (h1 : n ≤ 10000) : Prof [(0, n)] := prof_of trivial ⟨n, rfl⟩ (fun s hs => by simp at hs; subst hs; simp only; omega) (by simp)
theorem one_free (n x : Int) (hx : 0 ≤ x) : freeT [(0, n)] x = n := by simp [freeT, hx]
theorem one_sum {n m : Int} (h0 : 0 ≤ n) (h1 : n ≤ 10000) (h2 : 0 ≤ m) (h3 : m ≤ 10000) : (n + m ≤ 10000 → sumE [(0, n)] [(0, m)] = 0 ∧ sumR [(0, n)] [(0, m)] = [(0, n + m)]) ∧ (¬ n + m ≤ 10000 → sumE [(0, n)] [(0, m)] = 2 ∧ sumR [(0, n)] [(0, m)] = []) := by
  have ha : SumArg [(0, n)] [(0, m)] := ⟨one_prof h0 h1, one_prof h2 h3⟩
  refine ⟨fun h => ?_, fun h => sum_bad fun k => h ?_⟩
  · have hr : SumRoom [(0, n)] [(0, m)] := fun x hx => by unfold gSum; rw [one_free n x hx, one_free m x hx]; exact h
    refine ⟨(sum_ok ha hr).1, (sum_ok ha hr).2.trans (sumL_eq ha (one_prof (n := n + m) (by omega) h).norm ⟨_, rfl⟩ fun x hx => ?_).symm⟩
    unfold gSum; rw [one_free n x hx, one_free m x hx, one_free (n + m) x hx]
  · have := k.2 0 (by omega)
    unfold gSum at this
    rwa [one_free n 0 (by omega), one_free m 0 (by omega)] at this

set_option maxHeartbeats 8000000 in
theorem walk_new (n m t : Int) (W : World) :
    Calls Try.prog 10 #[.int .i64 n, .int .i64 m, .int .i64 t] W fun e w' => e = .returned (.bool true) ∧ Ext W w' := by
  by_cases hn0 : n < 0
  · by_cases hm : m < 0 ∨ 10000 < m
    · skip
      go_enter Try.func10, Try.ntmps10
      have HX : Hid (Ext W W) := Ext.rfl'
      go_wp2_with fail
      refine (stepsNew_bad n _ (by omega)).mono ?_
      rintro e w1 ⟨rfl, hx1⟩
      replace HX := Lib.hid (HX.out.trans' hx1)
      clear hx1
      go_wp2_with fail
      refine (stepsNew_bad m _ (by omega)).mono ?_
      rintro e w2 ⟨rfl, hx2⟩
      replace HX := Lib.hid (HX.out.trans' hx2)
      clear hx2
      go_wp2_with fail
      refine (known9 _).mono ?_
      rintro e w3 ⟨rfl, hx3⟩
      replace HX := Lib.hid (HX.out.trans' hx3)
      clear hx3
      go_wp2
      (try rw [Exit.noGoto_ret])
      go_ret
      exact ⟨rfl, HX.out⟩
    · have hm0 : 0 ≤ m := by omega
      have hm1 : m ≤ 10000 := by omega
      clear hm
      go_enter Try.func10, Try.ntmps10
      have HX : Hid (Ext W W) := Ext.rfl'
      go_wp2_with fail
      refine (stepsNew_bad n _ (by omega)).mono ?_
      rintro e w1 ⟨rfl, hx1⟩
      replace HX := Lib.hid (HX.out.trans' hx1)
      clear hx1
      go_wp2_with fail
      refine (stepsNew m _ (by omega) (by omega)).mono ?_
      rintro e w2 ⟨A2, rfl, hr2, hx2⟩
      replace HX := Lib.hid (HX.out.trans' hx2)
      clear hx2
      have HR2 := Lib.hid hr2
      clear hr2
      go_wp2_with fail
      refine (known9 _).mono ?_
      rintro e w3 ⟨rfl, hx3⟩
      replace HX := Lib.hid (HX.out.trans' hx3)
      replace HR2 := Lib.hid (HR2.out.ext hx3)
      clear hx3
      go_wp2
      (try rw [Exit.noGoto_ret])
      go_ret
      exact ⟨rfl, HX.out⟩
  by_cases hn1 : 10000 < n
  · by_cases hm : m < 0 ∨ 10000 < m
    · skip
      go_enter Try.func10, Try.ntmps10
      have HX : Hid (Ext W W) := Ext.rfl'
      go_wp2_with fail
      refine (stepsNew_bad n _ (by omega)).mono ?_
      rintro e w1 ⟨rfl, hx1⟩
      replace HX := Lib.hid (HX.out.trans' hx1)
      clear hx1
      go_wp2_with fail
      refine (stepsNew_bad m _ (by omega)).mono ?_
      rintro e w2 ⟨rfl, hx2⟩
      replace HX := Lib.hid (HX.out.trans' hx2)
      clear hx2
      go_wp2_with fail
      refine (known9 _).mono ?_
      rintro e w3 ⟨rfl, hx3⟩
      replace HX := Lib.hid (HX.out.trans' hx3)
      clear hx3
      go_wp2
      (try rw [Exit.noGoto_ret])
      go_ret
      exact ⟨rfl, HX.out⟩
    · have hm0 : 0 ≤ m := by omega
      have hm1 : m ≤ 10000 := by omega
      clear hm
      go_enter Try.func10, Try.ntmps10
      have HX : Hid (Ext W W) := Ext.rfl'
      go_wp2_with fail
      refine (stepsNew_bad n _ (by omega)).mono ?_
      rintro e w1 ⟨rfl, hx1⟩
      replace HX := Lib.hid (HX.out.trans' hx1)
      clear hx1
      go_wp2_with fail
      refine (stepsNew m _ (by omega) (by omega)).mono ?_
      rintro e w2 ⟨A2, rfl, hr2, hx2⟩
      replace HX := Lib.hid (HX.out.trans' hx2)
      clear hx2
      have HR2 := Lib.hid hr2
      clear hr2
      go_wp2_with fail
      refine (known9 _).mono ?_
      rintro e w3 ⟨rfl, hx3⟩
      replace HX := Lib.hid (HX.out.trans' hx3)
      replace HR2 := Lib.hid (HR2.out.ext hx3)
      clear hx3
      go_wp2
      (try rw [Exit.noGoto_ret])
      go_ret
      exact ⟨rfl, HX.out⟩
  replace hn0 : 0 ≤ n := by omega
  replace hn1 : n ≤ 10000 := by omega
  by_cases hm : m < 0 ∨ 10000 < m
  · have hb := Lib.hid hm
    clear hm
    go_enter Try.func10, Try.ntmps10
    have HX : Hid (Ext W W) := Ext.rfl'
    go_wp2_with fail
    refine (stepsNew n _ (by omega) (by omega)).mono ?_
    rintro e w1 ⟨A1, rfl, hr1, hx1⟩
    replace HX := Lib.hid (HX.out.trans' hx1)
    clear hx1
    have HR1 := Lib.hid hr1
    clear hr1
    go_wp2_with fail
    refine (stepsNew_bad m _ hb.out).mono ?_
    rintro e w2 ⟨rfl, hx2⟩
    replace HX := Lib.hid (HX.out.trans' hx2)
    replace HR1 := Lib.hid (HR1.out.ext hx2)
    clear hx2
    go_wp2_with fail
    refine (known9 _).mono ?_
    rintro e w3 ⟨rfl, hx3⟩
    replace HX := Lib.hid (HX.out.trans' hx3)
    replace HR1 := Lib.hid (HR1.out.ext hx3)
    clear hx3
    go_wp2
    (try rw [Exit.noGoto_ret])
    go_ret
    exact ⟨rfl, HX.out⟩
  have hm0 : 0 ≤ m := by omega
  have hm1 : m ≤ 10000 := by omega
  clear hm
  obtain ⟨o1, o2⟩ := one_sum hn0 hn1 hm0 hm1
  by_cases hs : n + m ≤ 10000
  case neg =>
      have HE := Lib.hid (o2 hs)
      clear o1 o2
      go_enter Try.func10, Try.ntmps10
      have HX : Hid (Ext W W) := Ext.rfl'
      go_wp2_with fail
      refine (stepsNew n _ (by omega) (by omega)).mono ?_
      rintro e w1 ⟨A1, rfl, hr1, hx1⟩
      replace HX := Lib.hid (HX.out.trans' hx1)
      clear hx1
      have HR1 := Lib.hid hr1
      clear hr1
      go_wp2_with fail
      refine (stepsNew m _ (by omega) (by omega)).mono ?_
      rintro e w2 ⟨A2, rfl, hr2, hx2⟩
      replace HX := Lib.hid (HX.out.trans' hx2)
      replace HR1 := Lib.hid (HR1.out.ext hx2)
      clear hx2
      have HR2 := Lib.hid hr2
      clear hr2
      go_wp2_with fail
      refine (stepsSum A1 A2 1 1 1 1 [(0, n)] [(0, m)] _ HR1.out HR2.out (by omega) (by omega)).mono ?_
      rintro e w3 ⟨A3, m3, c3, rfl, hr3, hc3, hx3⟩
      replace HX := Lib.hid (HX.out.trans' hx3)
      replace HR1 := Lib.hid (HR1.out.ext hx3)
      replace HR2 := Lib.hid (HR2.out.ext hx3)
      clear hx3
      rw [HE.out.2] at hr3
      obtain rfl : m3 = 0 := (RdL.len hr3).symm
      clear hr3 hc3
      rw [HE.out.1]
      go_wp2_with fail
      refine (known9 _).mono ?_
      rintro e w4 ⟨rfl, hx4⟩
      replace HX := Lib.hid (HX.out.trans' hx4)
      replace HR1 := Lib.hid (HR1.out.ext hx4)
      replace HR2 := Lib.hid (HR2.out.ext hx4)
      clear hx4
      go_wp2
      (try rw [Exit.noGoto_ret])
      go_ret
      exact ⟨rfl, HX.out⟩
  have HE := Lib.hid (o1 hs)
  clear o1 o2
  by_cases t0 : t < 0
  · have HAT : Hid (atF [(0, n)] t = 0) := if_neg fun h => by have := (isT_iff t).1 h.2; omega
    go_enter Try.func10, Try.ntmps10
    have HX : Hid (Ext W W) := Ext.rfl'
    go_wp2_with fail
    refine (stepsNew n _ (by omega) (by omega)).mono ?_
    rintro e w1 ⟨A1, rfl, hr1, hx1⟩
    replace HX := Lib.hid (HX.out.trans' hx1)
    clear hx1
    have HR1 := Lib.hid hr1
    clear hr1
    go_wp2_with fail
    refine (stepsNew m _ (by omega) (by omega)).mono ?_
    rintro e w2 ⟨A2, rfl, hr2, hx2⟩
    replace HX := Lib.hid (HX.out.trans' hx2)
    replace HR1 := Lib.hid (HR1.out.ext hx2)
    clear hx2
    have HR2 := Lib.hid hr2
    clear hr2
    go_wp2_with fail
    refine (stepsSum A1 A2 1 1 1 1 [(0, n)] [(0, m)] _ HR1.out HR2.out (by omega) (by omega)).mono ?_
    rintro e w3 ⟨A3, m3, c3, rfl, hr3, hc3, hx3⟩
    replace HX := Lib.hid (HX.out.trans' hx3)
    replace HR1 := Lib.hid (HR1.out.ext hx3)
    replace HR2 := Lib.hid (HR2.out.ext hx3)
    clear hx3
    rw [HE.out.2] at hr3
    obtain rfl : m3 = 1 := (RdL.len hr3).symm
    have HR3 := Lib.hid hr3
    clear hr3 hc3
    rw [HE.out.1]
    go_wp2_with fail
    refine (stepsAt A1 1 1 _ t _ HR1.out (by omega)).mono ?_
    rintro e w4 ⟨rfl, hx4⟩
    replace HX := Lib.hid (HX.out.trans' hx4)
    replace HR1 := Lib.hid (HR1.out.ext hx4)
    replace HR2 := Lib.hid (HR2.out.ext hx4)
    replace HR3 := Lib.hid (HR3.out.ext hx4)
    clear hx4
    rw [HAT.out]
    go_wp2_with fail
    obtain ⟨w5, hw5⟩ : ∃ w5 : World, w4 = w5 := ⟨_, rfl⟩
    subst hw5
    have hown := own_lit w4 w4.heap.size 48 2 1 1 w4.heap.size #[.int .i64 0, .int .i64 (n + m)] (flat encP [(0, n + m)]) (Nat.le_refl _) rfl (by simp [maxLen]) rfl rfl rfl
    obtain ⟨A', c', hv, hc', hr'⟩ := RdL.of_own encP_len hown rfl
    injection hv with hv1 _ hv2
    subst hv1; subst hv2
    refine (refSame9 _ _ _ _ _ _ [(0, n + m)] [(0, n + m)] _ (HR3.out.alloc' _) hr' (by omega) (by omega)).mono ?_
    rintro e w6 ⟨rfl, hx6⟩
    rw [sameL_t rfl]
    replace HX : Hid (Ext W w6) := (HX.out.alloc HX.out.size _).trans (hx6.mono (by have := HX.out.size; simp; omega))
    clear hx6 hown hr'
    go_wp2_with fail
    refine (known9 _).mono ?_
    rintro e w7 ⟨rfl, hx7⟩
    replace HX := Lib.hid (HX.out.trans' hx7)
    clear hx7
    go_wp2
    (try rw [Exit.noGoto_ret])
    go_ret
    exact ⟨rfl, HX.out⟩
  by_cases t1 : 1099511627775 < t
  · have HAT : Hid (atF [(0, n)] t = 0) := if_neg fun h => by have := (isT_iff t).1 h.2; omega
    go_enter Try.func10, Try.ntmps10
    have HX : Hid (Ext W W) := Ext.rfl'
    go_wp2_with fail
    refine (stepsNew n _ (by omega) (by omega)).mono ?_
    rintro e w1 ⟨A1, rfl, hr1, hx1⟩
    replace HX := Lib.hid (HX.out.trans' hx1)
    clear hx1
    have HR1 := Lib.hid hr1
    clear hr1
    go_wp2_with fail
    refine (stepsNew m _ (by omega) (by omega)).mono ?_
    rintro e w2 ⟨A2, rfl, hr2, hx2⟩
    replace HX := Lib.hid (HX.out.trans' hx2)
    replace HR1 := Lib.hid (HR1.out.ext hx2)
    clear hx2
    have HR2 := Lib.hid hr2
    clear hr2
    go_wp2_with fail
    refine (stepsSum A1 A2 1 1 1 1 [(0, n)] [(0, m)] _ HR1.out HR2.out (by omega) (by omega)).mono ?_
    rintro e w3 ⟨A3, m3, c3, rfl, hr3, hc3, hx3⟩
    replace HX := Lib.hid (HX.out.trans' hx3)
    replace HR1 := Lib.hid (HR1.out.ext hx3)
    replace HR2 := Lib.hid (HR2.out.ext hx3)
    clear hx3
    rw [HE.out.2] at hr3
    obtain rfl : m3 = 1 := (RdL.len hr3).symm
    have HR3 := Lib.hid hr3
    clear hr3 hc3
    rw [HE.out.1]
    go_wp2_with fail
    refine (stepsAt A1 1 1 _ t _ HR1.out (by omega)).mono ?_
    rintro e w4 ⟨rfl, hx4⟩
    replace HX := Lib.hid (HX.out.trans' hx4)
    replace HR1 := Lib.hid (HR1.out.ext hx4)
    replace HR2 := Lib.hid (HR2.out.ext hx4)
    replace HR3 := Lib.hid (HR3.out.ext hx4)
    clear hx4
    rw [HAT.out]
    go_wp2_with fail
    obtain ⟨w5, hw5⟩ : ∃ w5 : World, w4 = w5 := ⟨_, rfl⟩
    subst hw5
    have hown := own_lit w4 w4.heap.size 48 2 1 1 w4.heap.size #[.int .i64 0, .int .i64 (n + m)] (flat encP [(0, n + m)]) (Nat.le_refl _) rfl (by simp [maxLen]) rfl rfl rfl
    obtain ⟨A', c', hv, hc', hr'⟩ := RdL.of_own encP_len hown rfl
    injection hv with hv1 _ hv2
    subst hv1; subst hv2
    refine (refSame9 _ _ _ _ _ _ [(0, n + m)] [(0, n + m)] _ (HR3.out.alloc' _) hr' (by omega) (by omega)).mono ?_
    rintro e w6 ⟨rfl, hx6⟩
    rw [sameL_t rfl]
    replace HX : Hid (Ext W w6) := (HX.out.alloc HX.out.size _).trans (hx6.mono (by have := HX.out.size; simp; omega))
    clear hx6 hown hr'
    go_wp2_with fail
    refine (known9 _).mono ?_
    rintro e w7 ⟨rfl, hx7⟩
    replace HX := Lib.hid (HX.out.trans' hx7)
    clear hx7
    go_wp2
    (try rw [Exit.noGoto_ret])
    go_ret
    exact ⟨rfl, HX.out⟩
  have HAT : Hid (atF [(0, n)] t = n) := by
    show _ = _
    unfold atF
    rw [if_pos ⟨chkE_t (one_prof hn0 hn1), (isT_iff t).2 (by omega)⟩, one_free n t (by omega)]
  go_enter Try.func10, Try.ntmps10
  have HX : Hid (Ext W W) := Ext.rfl'
  go_wp2_with fail
  refine (stepsNew n _ (by omega) (by omega)).mono ?_
  rintro e w1 ⟨A1, rfl, hr1, hx1⟩
  replace HX := Lib.hid (HX.out.trans' hx1)
  clear hx1
  have HR1 := Lib.hid hr1
  clear hr1
  go_wp2_with fail
  refine (stepsNew m _ (by omega) (by omega)).mono ?_
  rintro e w2 ⟨A2, rfl, hr2, hx2⟩
  replace HX := Lib.hid (HX.out.trans' hx2)
  replace HR1 := Lib.hid (HR1.out.ext hx2)
  clear hx2
  have HR2 := Lib.hid hr2
  clear hr2
  go_wp2_with fail
  refine (stepsSum A1 A2 1 1 1 1 [(0, n)] [(0, m)] _ HR1.out HR2.out (by omega) (by omega)).mono ?_
  rintro e w3 ⟨A3, m3, c3, rfl, hr3, hc3, hx3⟩
  replace HX := Lib.hid (HX.out.trans' hx3)
  replace HR1 := Lib.hid (HR1.out.ext hx3)
  replace HR2 := Lib.hid (HR2.out.ext hx3)
  clear hx3
  rw [HE.out.2] at hr3
  obtain rfl : m3 = 1 := (RdL.len hr3).symm
  have HR3 := Lib.hid hr3
  clear hr3 hc3
  rw [HE.out.1]
  go_wp2_with fail
  refine (stepsAt A1 1 1 _ t _ HR1.out (by omega)).mono ?_
  rintro e w4 ⟨rfl, hx4⟩
  replace HX := Lib.hid (HX.out.trans' hx4)
  replace HR1 := Lib.hid (HR1.out.ext hx4)
  replace HR2 := Lib.hid (HR2.out.ext hx4)
  replace HR3 := Lib.hid (HR3.out.ext hx4)
  clear hx4
  rw [HAT.out]
  go_wp2_with fail
  obtain ⟨w5, hw5⟩ : ∃ w5 : World, w4 = w5 := ⟨_, rfl⟩
  subst hw5
  have hown := own_lit w4 w4.heap.size 48 2 1 1 w4.heap.size #[.int .i64 0, .int .i64 (n + m)] (flat encP [(0, n + m)]) (Nat.le_refl _) rfl (by simp [maxLen]) rfl rfl rfl
  obtain ⟨A', c', hv, hc', hr'⟩ := RdL.of_own encP_len hown rfl
  injection hv with hv1 _ hv2
  subst hv1; subst hv2
  refine (refSame9 _ _ _ _ _ _ [(0, n + m)] [(0, n + m)] _ (HR3.out.alloc' _) hr' (by omega) (by omega)).mono ?_
  rintro e w6 ⟨rfl, hx6⟩
  rw [sameL_t rfl]
  replace HX : Hid (Ext W w6) := (HX.out.alloc HX.out.size _).trans (hx6.mono (by have := HX.out.size; simp; omega))
  clear hx6 hown hr'
  go_wp2_with fail
  refine (known9 _).mono ?_
  rintro e w7 ⟨rfl, hx7⟩
  replace HX := Lib.hid (HX.out.trans' hx7)
  clear hx7
  go_wp2
  (try rw [Exit.noGoto_ret])
  go_ret
  exact ⟨rfl, HX.out⟩
end Go.Proofs.Ytggfepphjaohiaa
