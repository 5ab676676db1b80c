/-
  Walk: the statement StepsPoints. Conditions: none.
-/
import Derived.Test.YtggfepphjaohiaaLAdds
import Derived.Test.YtggfepphjaohiaaPBack
import Derived.Test.YtggfepphjaohiaaWAt
namespace Go.Proofs.Ytggfepphjaohiaa
open Go.RowKit
set_option linter.unusedVariables false
set_option linter.unusedSimpArgs false

set_option maxHeartbeats 4000000 in
theorem walk_points (A : Option Addr) (n c : Nat) (l : List Stp) (f t k x : Int) (W : World) (hr : RdP W A n l) (hn : n ≤ 9223372036854775807) (hnc : n ≤ c) :
    Calls Try.prog 5 #[.slice A n c, .int .i64 f, .int .i64 t, .int .i64 k, .int .i64 x] W fun e w' => e = .returned (.bool true) ∧ Ext W w' := by
  have HR := Lib.hid hr; clear hr
  by_cases hlong : 60 < n
  · skip
    go_enter Try.func5, Try.ntmps5
    have HX : Hid (Ext W W) := Ext.rfl'
    go_wp2_with fail
    refine (known9 _).mono ?_
    rintro e w1 ⟨rfl, hx1⟩
    replace HX := Lib.hid (HX.out.trans' hx1)
    clear hx1
    go_wp2
    (try rw [Exit.noGoto_ret])
    go_ret
    exact ⟨rfl, HX.out⟩
  replace hlong : n ≤ 60 := by omega
  rcases add_cases l f t k with ⟨ha, hro, hE⟩ | ⟨_, _, hE⟩ | ⟨_, hE⟩
  case inr.inl =>
    have HE := Lib.hid hE; clear hE
    go_enter Try.func5, Try.ntmps5
    have HX : Hid (Ext W W) := Ext.rfl'
    go_wp2_with fail
    refine (stepsAdd A n c l f t k _ HR.out (by omega) hnc).mono ?_
    rintro e w1 ⟨A1, m1, c1, rfl, hr1, hc1, hx1⟩
    replace HX := Lib.hid (HX.out.trans' hx1)
    replace HR := Lib.hid (HR.out.ext hx1)
    clear hx1
    rw [HE.out.2] at hr1
    obtain rfl : m1 = 0 := (RdL.len hr1).symm
    clear hr1 hc1
    rw [HE.out.1]
    go_wp2_with fail
    refine (known9 _).mono ?_
    rintro e w2 ⟨rfl, hx2⟩
    replace HX := Lib.hid (HX.out.trans' hx2)
    replace HR := Lib.hid (HR.out.ext hx2)
    clear hx2
    go_wp2
    (try rw [Exit.noGoto_ret])
    go_ret
    exact ⟨rfl, HX.out⟩
  case inr.inr =>
    have HE := Lib.hid hE; clear hE
    go_enter Try.func5, Try.ntmps5
    have HX : Hid (Ext W W) := Ext.rfl'
    go_wp2_with fail
    refine (stepsAdd A n c l f t k _ HR.out (by omega) hnc).mono ?_
    rintro e w1 ⟨A1, m1, c1, rfl, hr1, hc1, hx1⟩
    replace HX := Lib.hid (HX.out.trans' hx1)
    replace HR := Lib.hid (HR.out.ext hx1)
    clear hx1
    rw [HE.out.2] at hr1
    obtain rfl : m1 = 0 := (RdL.len hr1).symm
    clear hr1 hc1
    rw [HE.out.1]
    go_wp2_with fail
    refine (known9 _).mono ?_
    rintro e w2 ⟨rfl, hx2⟩
    replace HX := Lib.hid (HX.out.trans' hx2)
    replace HR := Lib.hid (HR.out.ext hx2)
    clear hx2
    go_wp2
    (try rw [Exit.noGoto_ret])
    go_ret
    exact ⟨rfl, HX.out⟩
  have HE := Lib.hid hE; clear hE
  have hnl : l.length ≤ 19000 := by have := RdL.len HR.out; omega
  have hpm := addL_prof ha hro hnl
  have HC : Hid (chkE (addL l f t k) = 0) := chkE_t hpm
  have hc0 := chkE_t ha.1
  have g := ha.ge
  have hf2 := (isT_iff f).1 ha.2.1
  have ht2 := (isT_iff t).1 ha.2.2.1
  by_cases hx : isT x = true
  · have HA1 : Hid (atF l x = freeT l x) := if_pos ⟨hc0, hx⟩
    have hb := ha.1.free x
    obtain ⟨b0, b1⟩ := hb
    have k0 := ha.2.2.2.2.1
    have k1 := ha.2.2.2.2.2
    have hv := point_at ha hro hnl hx
    by_cases h1 : f ≤ x
    · by_cases h2 : x < t
      · have HA2 : Hid (atF (addL l f t k) x = freeT l x + k) := by show _ = _; unfold atF; rw [if_pos ⟨HC.out, hx⟩, hv, if_pos ⟨h1, h2⟩]
        clear hv hc0 hpm hro ha hx
        go_enter Try.func5, Try.ntmps5
        have HX : Hid (Ext W W) := Ext.rfl'
        go_wp2_with fail
        refine (stepsAdd A n c l f t k _ HR.out (by omega) hnc).mono ?_
        rintro e w1 ⟨A1, m1, c1, rfl, hr1, hc1, hx1⟩
        replace HX := Lib.hid (HX.out.trans' hx1)
        replace HR := Lib.hid (HR.out.ext hx1)
        clear hx1
        rw [HE.out.2] at hr1
        have HR1 := Lib.hid hr1
        have hm1 : m1 ≤ 100 := by rw [← RdL.len hr1]; have := addL_len (l := l) (f := f) (t := t) (k := k); have := RdL.len HR.out; omega
        clear hr1 hc1
        rw [HE.out.1]
        go_wp2_with fail
        refine (stepsAt A n c l x _ HR.out (by omega)).mono ?_
        rintro e w2 ⟨rfl, hx2⟩
        replace HX := Lib.hid (HX.out.trans' hx2)
        replace HR := Lib.hid (HR.out.ext hx2)
        replace HR1 := Lib.hid (HR1.out.ext hx2)
        clear hx2
        rw [HA1.out]
        go_wp2_with fail
        refine (stepsAt A1 m1 c1 _ x _ HR1.out (by omega)).mono ?_
        rintro e w3 ⟨rfl, hx3⟩
        replace HX := Lib.hid (HX.out.trans' hx3)
        replace HR := Lib.hid (HR.out.ext hx3)
        replace HR1 := Lib.hid (HR1.out.ext hx3)
        clear hx3
        rw [HA2.out]
        go_wp2_with fail
        refine (stepsCheck A1 m1 c1 _ _ HR1.out (by omega)).mono ?_
        rintro e w4 ⟨rfl, hx4⟩
        replace HX := Lib.hid (HX.out.trans' hx4)
        replace HR := Lib.hid (HR.out.ext hx4)
        replace HR1 := Lib.hid (HR1.out.ext hx4)
        clear hx4
        rw [HC.out]
        go_wp2_with fail
        refine (known9 _).mono ?_
        rintro e w5 ⟨rfl, hx5⟩
        replace HX := Lib.hid (HX.out.trans' hx5)
        replace HR := Lib.hid (HR.out.ext hx5)
        replace HR1 := Lib.hid (HR1.out.ext hx5)
        clear hx5
        go_wp2
        (try rw [Exit.noGoto_ret])
        go_ret
        exact ⟨rfl, HX.out⟩
      · have HA2 : Hid (atF (addL l f t k) x = freeT l x) := by show _ = _; unfold atF; rw [if_pos ⟨HC.out, hx⟩, hv, if_neg (fun h => h2 h.2), Int.add_zero]
        clear hv hc0 hpm hro ha hx
        go_enter Try.func5, Try.ntmps5
        have HX : Hid (Ext W W) := Ext.rfl'
        go_wp2_with fail
        refine (stepsAdd A n c l f t k _ HR.out (by omega) hnc).mono ?_
        rintro e w1 ⟨A1, m1, c1, rfl, hr1, hc1, hx1⟩
        replace HX := Lib.hid (HX.out.trans' hx1)
        replace HR := Lib.hid (HR.out.ext hx1)
        clear hx1
        rw [HE.out.2] at hr1
        have HR1 := Lib.hid hr1
        have hm1 : m1 ≤ 100 := by rw [← RdL.len hr1]; have := addL_len (l := l) (f := f) (t := t) (k := k); have := RdL.len HR.out; omega
        clear hr1 hc1
        rw [HE.out.1]
        go_wp2_with fail
        refine (stepsAt A n c l x _ HR.out (by omega)).mono ?_
        rintro e w2 ⟨rfl, hx2⟩
        replace HX := Lib.hid (HX.out.trans' hx2)
        replace HR := Lib.hid (HR.out.ext hx2)
        replace HR1 := Lib.hid (HR1.out.ext hx2)
        clear hx2
        rw [HA1.out]
        go_wp2_with fail
        refine (stepsAt A1 m1 c1 _ x _ HR1.out (by omega)).mono ?_
        rintro e w3 ⟨rfl, hx3⟩
        replace HX := Lib.hid (HX.out.trans' hx3)
        replace HR := Lib.hid (HR.out.ext hx3)
        replace HR1 := Lib.hid (HR1.out.ext hx3)
        clear hx3
        rw [HA2.out]
        go_wp2_with fail
        refine (stepsCheck A1 m1 c1 _ _ HR1.out (by omega)).mono ?_
        rintro e w4 ⟨rfl, hx4⟩
        replace HX := Lib.hid (HX.out.trans' hx4)
        replace HR := Lib.hid (HR.out.ext hx4)
        replace HR1 := Lib.hid (HR1.out.ext hx4)
        clear hx4
        rw [HC.out]
        go_wp2_with fail
        refine (known9 _).mono ?_
        rintro e w5 ⟨rfl, hx5⟩
        replace HX := Lib.hid (HX.out.trans' hx5)
        replace HR := Lib.hid (HR.out.ext hx5)
        replace HR1 := Lib.hid (HR1.out.ext hx5)
        clear hx5
        go_wp2
        (try rw [Exit.noGoto_ret])
        go_ret
        exact ⟨rfl, HX.out⟩
    · have HA2 : Hid (atF (addL l f t k) x = freeT l x) := by show _ = _; unfold atF; rw [if_pos ⟨HC.out, hx⟩, hv, if_neg (fun h => h1 h.1), Int.add_zero]
      clear hv hc0 hpm hro ha hx
      go_enter Try.func5, Try.ntmps5
      have HX : Hid (Ext W W) := Ext.rfl'
      go_wp2_with fail
      refine (stepsAdd A n c l f t k _ HR.out (by omega) hnc).mono ?_
      rintro e w1 ⟨A1, m1, c1, rfl, hr1, hc1, hx1⟩
      replace HX := Lib.hid (HX.out.trans' hx1)
      replace HR := Lib.hid (HR.out.ext hx1)
      clear hx1
      rw [HE.out.2] at hr1
      have HR1 := Lib.hid hr1
      have hm1 : m1 ≤ 100 := by rw [← RdL.len hr1]; have := addL_len (l := l) (f := f) (t := t) (k := k); have := RdL.len HR.out; omega
      clear hr1 hc1
      rw [HE.out.1]
      go_wp2_with fail
      refine (stepsAt A n c l x _ HR.out (by omega)).mono ?_
      rintro e w2 ⟨rfl, hx2⟩
      replace HX := Lib.hid (HX.out.trans' hx2)
      replace HR := Lib.hid (HR.out.ext hx2)
      replace HR1 := Lib.hid (HR1.out.ext hx2)
      clear hx2
      rw [HA1.out]
      go_wp2_with fail
      refine (stepsAt A1 m1 c1 _ x _ HR1.out (by omega)).mono ?_
      rintro e w3 ⟨rfl, hx3⟩
      replace HX := Lib.hid (HX.out.trans' hx3)
      replace HR := Lib.hid (HR.out.ext hx3)
      replace HR1 := Lib.hid (HR1.out.ext hx3)
      clear hx3
      rw [HA2.out]
      go_wp2_with fail
      refine (stepsCheck A1 m1 c1 _ _ HR1.out (by omega)).mono ?_
      rintro e w4 ⟨rfl, hx4⟩
      replace HX := Lib.hid (HX.out.trans' hx4)
      replace HR := Lib.hid (HR.out.ext hx4)
      replace HR1 := Lib.hid (HR1.out.ext hx4)
      clear hx4
      rw [HC.out]
      go_wp2_with fail
      refine (known9 _).mono ?_
      rintro e w5 ⟨rfl, hx5⟩
      replace HX := Lib.hid (HX.out.trans' hx5)
      replace HR := Lib.hid (HR.out.ext hx5)
      replace HR1 := Lib.hid (HR1.out.ext hx5)
      clear hx5
      go_wp2
      (try rw [Exit.noGoto_ret])
      go_ret
      exact ⟨rfl, HX.out⟩
  · have HA1 : Hid (atF l x = 0) := if_neg (fun h => hx h.2)
    have HA2 : Hid (atF (addL l f t k) x = 0) := if_neg (fun h => hx h.2)
    rw [isT_iff] at hx
    clear hc0 hpm hro ha
    by_cases h1 : f ≤ x
    · have h2 : t ≤ x := by omega
      go_enter Try.func5, Try.ntmps5
      have HX : Hid (Ext W W) := Ext.rfl'
      go_wp2_with fail
      refine (stepsAdd A n c l f t k _ HR.out (by omega) hnc).mono ?_
      rintro e w1 ⟨A1, m1, c1, rfl, hr1, hc1, hx1⟩
      replace HX := Lib.hid (HX.out.trans' hx1)
      replace HR := Lib.hid (HR.out.ext hx1)
      clear hx1
      rw [HE.out.2] at hr1
      have HR1 := Lib.hid hr1
      have hm1 : m1 ≤ 100 := by rw [← RdL.len hr1]; have := addL_len (l := l) (f := f) (t := t) (k := k); have := RdL.len HR.out; omega
      clear hr1 hc1
      rw [HE.out.1]
      go_wp2_with fail
      refine (stepsAt A n c l x _ HR.out (by omega)).mono ?_
      rintro e w2 ⟨rfl, hx2⟩
      replace HX := Lib.hid (HX.out.trans' hx2)
      replace HR := Lib.hid (HR.out.ext hx2)
      replace HR1 := Lib.hid (HR1.out.ext hx2)
      clear hx2
      rw [HA1.out]
      go_wp2_with fail
      refine (stepsAt A1 m1 c1 _ x _ HR1.out (by omega)).mono ?_
      rintro e w3 ⟨rfl, hx3⟩
      replace HX := Lib.hid (HX.out.trans' hx3)
      replace HR := Lib.hid (HR.out.ext hx3)
      replace HR1 := Lib.hid (HR1.out.ext hx3)
      clear hx3
      rw [HA2.out]
      go_wp2_with fail
      refine (stepsCheck A1 m1 c1 _ _ HR1.out (by omega)).mono ?_
      rintro e w4 ⟨rfl, hx4⟩
      replace HX := Lib.hid (HX.out.trans' hx4)
      replace HR := Lib.hid (HR.out.ext hx4)
      replace HR1 := Lib.hid (HR1.out.ext hx4)
      clear hx4
      rw [HC.out]
      go_wp2_with fail
      refine (known9 _).mono ?_
      rintro e w5 ⟨rfl, hx5⟩
      replace HX := Lib.hid (HX.out.trans' hx5)
      replace HR := Lib.hid (HR.out.ext hx5)
      replace HR1 := Lib.hid (HR1.out.ext hx5)
      clear hx5
      go_wp2
      (try rw [Exit.noGoto_ret])
      go_ret
      exact ⟨rfl, HX.out⟩
    · skip
      go_enter Try.func5, Try.ntmps5
      have HX : Hid (Ext W W) := Ext.rfl'
      go_wp2_with fail
      refine (stepsAdd A n c l f t k _ HR.out (by omega) hnc).mono ?_
      rintro e w1 ⟨A1, m1, c1, rfl, hr1, hc1, hx1⟩
      replace HX := Lib.hid (HX.out.trans' hx1)
      replace HR := Lib.hid (HR.out.ext hx1)
      clear hx1
      rw [HE.out.2] at hr1
      have HR1 := Lib.hid hr1
      have hm1 : m1 ≤ 100 := by rw [← RdL.len hr1]; have := addL_len (l := l) (f := f) (t := t) (k := k); have := RdL.len HR.out; omega
      clear hr1 hc1
      rw [HE.out.1]
      go_wp2_with fail
      refine (stepsAt A n c l x _ HR.out (by omega)).mono ?_
      rintro e w2 ⟨rfl, hx2⟩
      replace HX := Lib.hid (HX.out.trans' hx2)
      replace HR := Lib.hid (HR.out.ext hx2)
      replace HR1 := Lib.hid (HR1.out.ext hx2)
      clear hx2
      rw [HA1.out]
      go_wp2_with fail
      refine (stepsAt A1 m1 c1 _ x _ HR1.out (by omega)).mono ?_
      rintro e w3 ⟨rfl, hx3⟩
      replace HX := Lib.hid (HX.out.trans' hx3)
      replace HR := Lib.hid (HR.out.ext hx3)
      replace HR1 := Lib.hid (HR1.out.ext hx3)
      clear hx3
      rw [HA2.out]
      go_wp2_with fail
      refine (stepsCheck A1 m1 c1 _ _ HR1.out (by omega)).mono ?_
      rintro e w4 ⟨rfl, hx4⟩
      replace HX := Lib.hid (HX.out.trans' hx4)
      replace HR := Lib.hid (HR.out.ext hx4)
      replace HR1 := Lib.hid (HR1.out.ext hx4)
      clear hx4
      rw [HC.out]
      go_wp2_with fail
      refine (known9 _).mono ?_
      rintro e w5 ⟨rfl, hx5⟩
      replace HX := Lib.hid (HX.out.trans' hx5)
      replace HR := Lib.hid (HR.out.ext hx5)
      replace HR1 := Lib.hid (HR1.out.ext hx5)
      clear hx5
      go_wp2
      (try rw [Exit.noGoto_ret])
      go_ret
      exact ⟨rfl, HX.out⟩
end Go.Proofs.Ytggfepphjaohiaa
