/-
  Walk: the statement StepsBack. Conditions: none.
-/
import Derived.Test.YtggfepphjaohiaaLAdds
import Derived.Test.YtggfepphjaohiaaPBack
namespace Go.Proofs.Ytggfepphjaohiaa
open Go.RowKit
set_option linter.unusedVariables false
set_option linter.unusedSimpArgs false

set_option maxHeartbeats 8000000 in
theorem walk_back (A : Option Addr) (n c : Nat) (l : List Stp) (a b c' k : Int) (W : World) (hr : RdP W A n l) (hn : n ≤ 9223372036854775807) (hnc : n ≤ c) :
    Calls Try.prog 4 #[.slice A n c, .int .i64 a, .int .i64 b, .int .i64 c', .int .i64 k] W fun e w' => e = .returned (.bool true) ∧ Ext W w' := by
  have HR := Lib.hid hr; clear hr
  by_cases hlong : 60 < n
  · skip
    go_enter Try.func4, Try.ntmps4
    have HX : Hid (Ext W W) := Ext.rfl'
    go_wp2_with fail
    refine (known9 _).mono ?_
    rintro e w1 ⟨rfl, hx1⟩
    replace HX := Lib.hid (HX.out.trans' hx1)
    clear hx1
    go_wp2
    (try rw [Exit.noGoto_ret])
    go_ret
    exact ⟨rfl, HX.out⟩
  replace hlong : n ≤ 60 := by omega
  have hnl : l.length ≤ 60 := by have := RdL.len HR.out; omega
  have HNL := Lib.hid hnl
  rcases add_cases l a b k with ⟨ha, hro, hE⟩ | ⟨_, _, hE⟩ | ⟨_, hE⟩
  case inr.inl =>
    have HE := Lib.hid hE; clear hE
    go_enter Try.func4, Try.ntmps4
    have HX : Hid (Ext W W) := Ext.rfl'
    go_wp2_with fail
    refine (stepsAdd A n c (l) a b k _ HR.out (by omega) hnc).mono ?_
    rintro e w1 ⟨A1, m1, c1, rfl, hr1, hc1, hx1⟩
    replace HX := Lib.hid (HX.out.trans' hx1)
    replace HR := Lib.hid (HR.out.ext hx1)
    clear hx1
    clear hr1 hc1
    rw [HE.out.1]
    go_wp2_with fail
    refine (known9 _).mono ?_
    rintro e w2 ⟨rfl, hx2⟩
    replace HX := Lib.hid (HX.out.trans' hx2)
    replace HR := Lib.hid (HR.out.ext hx2)
    clear hx2
    go_wp2
    (try rw [Exit.noGoto_ret])
    go_ret
    exact ⟨rfl, HX.out⟩
  case inr.inr =>
    have HE := Lib.hid hE; clear hE
    go_enter Try.func4, Try.ntmps4
    have HX : Hid (Ext W W) := Ext.rfl'
    go_wp2_with fail
    refine (stepsAdd A n c (l) a b k _ HR.out (by omega) hnc).mono ?_
    rintro e w1 ⟨A1, m1, c1, rfl, hr1, hc1, hx1⟩
    replace HX := Lib.hid (HX.out.trans' hx1)
    replace HR := Lib.hid (HR.out.ext hx1)
    clear hx1
    clear hr1 hc1
    rw [HE.out.1]
    go_wp2_with fail
    refine (known9 _).mono ?_
    rintro e w2 ⟨rfl, hx2⟩
    replace HX := Lib.hid (HX.out.trans' hx2)
    replace HR := Lib.hid (HR.out.ext hx2)
    clear hx2
    go_wp2
    (try rw [Exit.noGoto_ret])
    go_ret
    exact ⟨rfl, HX.out⟩
  have HE := Lib.hid hE; clear hE
  obtain ⟨hb1, hb2, hb3⟩ := back_arg ha hro (by omega)
  have HE2 : Hid (addE (addL l a b k) a b (-k) = 0 ∧ addR (addL l a b k) a b (-k) = l) := ⟨(add_ok hb1 hb2).1, (add_ok hb1 hb2).2.trans hb3⟩
  have HLEN1 : Hid ((addL l a b k).length ≤ 62) := Nat.le_trans addL_len (by omega)
  have HLEN2 : Hid (l.length ≤ 60) := hnl
  have hk0 := ha.2.2.2.2.1
  have hk1 := ha.2.2.2.2.2
  rcases add_cases (addL l a b k) b c' k with ⟨ha3, hro3, hE3⟩ | ⟨_, _, hE3⟩ | ⟨_, hE3⟩
  case inr.inl =>
    have HE3 := Lib.hid hE3; clear hE3 hb1 hb2 hb3 ha hro hnl
    go_enter Try.func4, Try.ntmps4
    have HX : Hid (Ext W W) := Ext.rfl'
    go_wp2_with fail
    refine (stepsAdd A n c (l) a b k _ HR.out (by omega) hnc).mono ?_
    rintro e w1 ⟨A1, m1, c1, rfl, hr1, hc1, hx1⟩
    replace HX := Lib.hid (HX.out.trans' hx1)
    replace HR := Lib.hid (HR.out.ext hx1)
    clear hx1
    rw [HE.out.2] at hr1
    have HR1 := Lib.hid hr1
    have HCC1 := Lib.hid hc1
    have hm1 : m1 ≤ 100 := by rw [← RdL.len hr1]; have := HLEN1.out; omega
    clear hr1 hc1
    rw [HE.out.1]
    go_wp2_with fail
    refine (stepsAdd A1 m1 c1 (addL l a b k) a b (-k) _ HR1.out (by omega) HCC1.out).mono ?_
    rintro e w2 ⟨A2, m2, c2, rfl, hr2, hc2, hx2⟩
    replace HX := Lib.hid (HX.out.trans' hx2)
    replace HR := Lib.hid (HR.out.ext hx2)
    replace HR1 := Lib.hid (HR1.out.ext hx2)
    clear hx2
    rw [HE2.out.2] at hr2
    have HR2 := Lib.hid hr2
    have HCC2 := Lib.hid hc2
    have hm2 : m2 ≤ 100 := by rw [← RdL.len hr2]; have := HLEN2.out; omega
    clear hr2 hc2
    rw [HE2.out.1]
    go_wp2_with fail
    refine (refSame9 A2 A m2 c2 n c l l _ HR2.out HR.out (by omega) (by omega)).mono ?_
    rintro e w3 ⟨rfl, hx3⟩
    replace HX := Lib.hid (HX.out.trans' hx3)
    replace HR := Lib.hid (HR.out.ext hx3)
    replace HR1 := Lib.hid (HR1.out.ext hx3)
    replace HR2 := Lib.hid (HR2.out.ext hx3)
    clear hx3
    rw [sameL_t rfl]
    go_wp2_with fail
    refine (stepsAdd A1 m1 c1 (addL l a b k) b c' k _ HR1.out (by omega) HCC1.out).mono ?_
    rintro e w4 ⟨A3, m3, c3, rfl, hr3, hc3, hx4⟩
    replace HX := Lib.hid (HX.out.trans' hx4)
    replace HR := Lib.hid (HR.out.ext hx4)
    replace HR1 := Lib.hid (HR1.out.ext hx4)
    replace HR2 := Lib.hid (HR2.out.ext hx4)
    clear hx4
    clear hr3 hc3
    rw [HE3.out.1]
    go_wp2_with fail
    refine (known9 _).mono ?_
    rintro e w5 ⟨rfl, hx5⟩
    replace HX := Lib.hid (HX.out.trans' hx5)
    replace HR := Lib.hid (HR.out.ext hx5)
    replace HR1 := Lib.hid (HR1.out.ext hx5)
    replace HR2 := Lib.hid (HR2.out.ext hx5)
    clear hx5
    go_wp2
    (try rw [Exit.noGoto_ret])
    go_ret
    exact ⟨rfl, HX.out⟩
  case inr.inr =>
    have HE3 := Lib.hid hE3; clear hE3 hb1 hb2 hb3 ha hro hnl
    go_enter Try.func4, Try.ntmps4
    have HX : Hid (Ext W W) := Ext.rfl'
    go_wp2_with fail
    refine (stepsAdd A n c (l) a b k _ HR.out (by omega) hnc).mono ?_
    rintro e w1 ⟨A1, m1, c1, rfl, hr1, hc1, hx1⟩
    replace HX := Lib.hid (HX.out.trans' hx1)
    replace HR := Lib.hid (HR.out.ext hx1)
    clear hx1
    rw [HE.out.2] at hr1
    have HR1 := Lib.hid hr1
    have HCC1 := Lib.hid hc1
    have hm1 : m1 ≤ 100 := by rw [← RdL.len hr1]; have := HLEN1.out; omega
    clear hr1 hc1
    rw [HE.out.1]
    go_wp2_with fail
    refine (stepsAdd A1 m1 c1 (addL l a b k) a b (-k) _ HR1.out (by omega) HCC1.out).mono ?_
    rintro e w2 ⟨A2, m2, c2, rfl, hr2, hc2, hx2⟩
    replace HX := Lib.hid (HX.out.trans' hx2)
    replace HR := Lib.hid (HR.out.ext hx2)
    replace HR1 := Lib.hid (HR1.out.ext hx2)
    clear hx2
    rw [HE2.out.2] at hr2
    have HR2 := Lib.hid hr2
    have HCC2 := Lib.hid hc2
    have hm2 : m2 ≤ 100 := by rw [← RdL.len hr2]; have := HLEN2.out; omega
    clear hr2 hc2
    rw [HE2.out.1]
    go_wp2_with fail
    refine (refSame9 A2 A m2 c2 n c l l _ HR2.out HR.out (by omega) (by omega)).mono ?_
    rintro e w3 ⟨rfl, hx3⟩
    replace HX := Lib.hid (HX.out.trans' hx3)
    replace HR := Lib.hid (HR.out.ext hx3)
    replace HR1 := Lib.hid (HR1.out.ext hx3)
    replace HR2 := Lib.hid (HR2.out.ext hx3)
    clear hx3
    rw [sameL_t rfl]
    go_wp2_with fail
    refine (stepsAdd A1 m1 c1 (addL l a b k) b c' k _ HR1.out (by omega) HCC1.out).mono ?_
    rintro e w4 ⟨A3, m3, c3, rfl, hr3, hc3, hx4⟩
    replace HX := Lib.hid (HX.out.trans' hx4)
    replace HR := Lib.hid (HR.out.ext hx4)
    replace HR1 := Lib.hid (HR1.out.ext hx4)
    replace HR2 := Lib.hid (HR2.out.ext hx4)
    clear hx4
    clear hr3 hc3
    rw [HE3.out.1]
    go_wp2_with fail
    refine (known9 _).mono ?_
    rintro e w5 ⟨rfl, hx5⟩
    replace HX := Lib.hid (HX.out.trans' hx5)
    replace HR := Lib.hid (HR.out.ext hx5)
    replace HR1 := Lib.hid (HR1.out.ext hx5)
    replace HR2 := Lib.hid (HR2.out.ext hx5)
    clear hx5
    go_wp2
    (try rw [Exit.noGoto_ret])
    go_ret
    exact ⟨rfl, HX.out⟩
  obtain ⟨⟨j1, j2, j3⟩, ⟨j4, j5⟩, j6, j7, j8⟩ := join_arg ha hro (by omega) ha3 hro3
  have HE3 := Lib.hid hE3
  have HE4 : Hid (addE l a c' k = 0 ∧ addR l a c' k = addL (addL l a b k) b c' k) := ⟨(add_ok j1 j2).1, (add_ok j1 j2).2.trans j3⟩
  have HE5 := Lib.hid (add_ok j4 j5)
  have HE6 : Hid (addE (addL l b c' k) a b k = 0 ∧ addR (addL l b c' k) a b k = addL (addL l a b k) b c' k) := ⟨(add_ok j6 j7).1, (add_ok j6 j7).2.trans j8⟩
  have HLEN3 : Hid ((addL (addL l a b k) b c' k).length ≤ 64) := Nat.le_trans addL_len (by have := HLEN1.out; omega)
  have HLEN4 := HLEN3
  have HLEN6 := HLEN3
  have HLEN5 : Hid ((addL l b c' k).length ≤ 62) := Nat.le_trans addL_len (by omega)
  clear hE3 hb1 hb2 hb3 ha hro ha3 hro3 j1 j2 j3 j4 j5 j6 j7 j8 hnl
  go_enter Try.func4, Try.ntmps4
  have HX : Hid (Ext W W) := Ext.rfl'
  go_wp2_with fail
  refine (stepsAdd A n c (l) a b k _ HR.out (by omega) hnc).mono ?_
  rintro e w1 ⟨A1, m1, c1, rfl, hr1, hc1, hx1⟩
  replace HX := Lib.hid (HX.out.trans' hx1)
  replace HR := Lib.hid (HR.out.ext hx1)
  clear hx1
  rw [HE.out.2] at hr1
  have HR1 := Lib.hid hr1
  have HCC1 := Lib.hid hc1
  have hm1 : m1 ≤ 100 := by rw [← RdL.len hr1]; have := HLEN1.out; omega
  clear hr1 hc1
  rw [HE.out.1]
  go_wp2_with fail
  refine (stepsAdd A1 m1 c1 (addL l a b k) a b (-k) _ HR1.out (by omega) HCC1.out).mono ?_
  rintro e w2 ⟨A2, m2, c2, rfl, hr2, hc2, hx2⟩
  replace HX := Lib.hid (HX.out.trans' hx2)
  replace HR := Lib.hid (HR.out.ext hx2)
  replace HR1 := Lib.hid (HR1.out.ext hx2)
  clear hx2
  rw [HE2.out.2] at hr2
  have HR2 := Lib.hid hr2
  have HCC2 := Lib.hid hc2
  have hm2 : m2 ≤ 100 := by rw [← RdL.len hr2]; have := HLEN2.out; omega
  clear hr2 hc2
  rw [HE2.out.1]
  go_wp2_with fail
  refine (refSame9 A2 A m2 c2 n c l l _ HR2.out HR.out (by omega) (by omega)).mono ?_
  rintro e w3 ⟨rfl, hx3⟩
  replace HX := Lib.hid (HX.out.trans' hx3)
  replace HR := Lib.hid (HR.out.ext hx3)
  replace HR1 := Lib.hid (HR1.out.ext hx3)
  replace HR2 := Lib.hid (HR2.out.ext hx3)
  clear hx3
  rw [sameL_t rfl]
  go_wp2_with fail
  refine (stepsAdd A1 m1 c1 (addL l a b k) b c' k _ HR1.out (by omega) HCC1.out).mono ?_
  rintro e w4 ⟨A3, m3, c3, rfl, hr3, hc3, hx4⟩
  replace HX := Lib.hid (HX.out.trans' hx4)
  replace HR := Lib.hid (HR.out.ext hx4)
  replace HR1 := Lib.hid (HR1.out.ext hx4)
  replace HR2 := Lib.hid (HR2.out.ext hx4)
  clear hx4
  rw [HE3.out.2] at hr3
  have HR3 := Lib.hid hr3
  have HCC3 := Lib.hid hc3
  have hm3 : m3 ≤ 100 := by rw [← RdL.len hr3]; have := HLEN3.out; omega
  clear hr3 hc3
  rw [HE3.out.1]
  go_wp2_with fail
  refine (stepsAdd A n c (l) a c' k _ HR.out (by omega) hnc).mono ?_
  rintro e w5 ⟨A4, m4, c4, rfl, hr4, hc4, hx5⟩
  replace HX := Lib.hid (HX.out.trans' hx5)
  replace HR := Lib.hid (HR.out.ext hx5)
  replace HR1 := Lib.hid (HR1.out.ext hx5)
  replace HR2 := Lib.hid (HR2.out.ext hx5)
  replace HR3 := Lib.hid (HR3.out.ext hx5)
  clear hx5
  rw [HE4.out.2] at hr4
  have HR4 := Lib.hid hr4
  have HCC4 := Lib.hid hc4
  have hm4 : m4 ≤ 100 := by rw [← RdL.len hr4]; have := HLEN4.out; omega
  clear hr4 hc4
  rw [HE4.out.1]
  go_wp2_with fail
  refine (stepsAdd A n c (l) b c' k _ HR.out (by omega) hnc).mono ?_
  rintro e w6 ⟨A5, m5, c5, rfl, hr5, hc5, hx6⟩
  replace HX := Lib.hid (HX.out.trans' hx6)
  replace HR := Lib.hid (HR.out.ext hx6)
  replace HR1 := Lib.hid (HR1.out.ext hx6)
  replace HR2 := Lib.hid (HR2.out.ext hx6)
  replace HR3 := Lib.hid (HR3.out.ext hx6)
  replace HR4 := Lib.hid (HR4.out.ext hx6)
  clear hx6
  rw [HE5.out.2] at hr5
  have HR5 := Lib.hid hr5
  have HCC5 := Lib.hid hc5
  have hm5 : m5 ≤ 100 := by rw [← RdL.len hr5]; have := HLEN5.out; omega
  clear hr5 hc5
  rw [HE5.out.1]
  go_wp2_with fail
  refine (stepsAdd A5 m5 c5 (addL l b c' k) a b k _ HR5.out (by omega) HCC5.out).mono ?_
  rintro e w7 ⟨A6, m6, c6, rfl, hr6, hc6, hx7⟩
  replace HX := Lib.hid (HX.out.trans' hx7)
  replace HR := Lib.hid (HR.out.ext hx7)
  replace HR1 := Lib.hid (HR1.out.ext hx7)
  replace HR2 := Lib.hid (HR2.out.ext hx7)
  replace HR3 := Lib.hid (HR3.out.ext hx7)
  replace HR4 := Lib.hid (HR4.out.ext hx7)
  replace HR5 := Lib.hid (HR5.out.ext hx7)
  clear hx7
  rw [HE6.out.2] at hr6
  have HR6 := Lib.hid hr6
  have HCC6 := Lib.hid hc6
  have hm6 : m6 ≤ 100 := by rw [← RdL.len hr6]; have := HLEN6.out; omega
  clear hr6 hc6
  rw [HE6.out.1]
  go_wp2_with fail
  refine (refSame9 A4 A3 m4 c4 m3 c3 _ _ _ HR4.out HR3.out (by omega) (by omega)).mono ?_
  rintro e w8 ⟨rfl, hx8⟩
  replace HX := Lib.hid (HX.out.trans' hx8)
  replace HR := Lib.hid (HR.out.ext hx8)
  replace HR1 := Lib.hid (HR1.out.ext hx8)
  replace HR2 := Lib.hid (HR2.out.ext hx8)
  replace HR3 := Lib.hid (HR3.out.ext hx8)
  replace HR4 := Lib.hid (HR4.out.ext hx8)
  replace HR5 := Lib.hid (HR5.out.ext hx8)
  replace HR6 := Lib.hid (HR6.out.ext hx8)
  clear hx8
  rw [sameL_t rfl]
  go_wp2_with fail
  refine (refSame9 A6 A3 m6 c6 m3 c3 _ _ _ HR6.out HR3.out (by omega) (by omega)).mono ?_
  rintro e w9 ⟨rfl, hx9⟩
  replace HX := Lib.hid (HX.out.trans' hx9)
  replace HR := Lib.hid (HR.out.ext hx9)
  replace HR1 := Lib.hid (HR1.out.ext hx9)
  replace HR2 := Lib.hid (HR2.out.ext hx9)
  replace HR3 := Lib.hid (HR3.out.ext hx9)
  replace HR4 := Lib.hid (HR4.out.ext hx9)
  replace HR5 := Lib.hid (HR5.out.ext hx9)
  replace HR6 := Lib.hid (HR6.out.ext hx9)
  clear hx9
  rw [sameL_t rfl]
  go_wp2_with fail
  refine (known9 _).mono ?_
  rintro e w10 ⟨rfl, hx10⟩
  replace HX := Lib.hid (HX.out.trans' hx10)
  replace HR := Lib.hid (HR.out.ext hx10)
  replace HR1 := Lib.hid (HR1.out.ext hx10)
  replace HR2 := Lib.hid (HR2.out.ext hx10)
  replace HR3 := Lib.hid (HR3.out.ext hx10)
  replace HR4 := Lib.hid (HR4.out.ext hx10)
  replace HR5 := Lib.hid (HR5.out.ext hx10)
  replace HR6 := Lib.hid (HR6.out.ext hx10)
  clear hx10
  go_wp2
  (try rw [Exit.noGoto_ret])
  go_ret
  exact ⟨rfl, HX.out⟩
end Go.Proofs.Ytggfepphjaohiaa
