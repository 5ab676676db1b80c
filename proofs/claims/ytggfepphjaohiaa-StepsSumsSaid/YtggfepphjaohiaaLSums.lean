/-
  Walk: the statement StepsSums. Conditions: none.
-/
import Derived.Test.YtggfepphjaohiaaWKnown9
import Derived.Test.YtggfepphjaohiaaWSum
namespace Go.Proofs.Ytggfepphjaohiaa
open Go.RowKit
set_option linter.unusedVariables false
set_option linter.unusedSimpArgs false

theorem sumR_len (l r : List Stp) : (sumR l r).length ≤ l.length + r.length + 2 := by
  by_cases h : SumArg l r ∧ SumRoom l r
  · rw [(sum_ok h.1 h.2).2]; exact sumL_len
  · rw [(sum_bad h).2]; simp

set_option maxHeartbeats 4000000 in
theorem walk_sums (A B : Option Addr) (n m c d : Nat) (l r : List Stp) (W : World) (hr : RdP W A n l) (hs : RdP W B m r) (hn : n ≤ 9223372036854775807) (hm : m ≤ 9223372036854775807) :
    Calls Try.prog 9 #[.slice A n c, .slice B m d] W fun e w' => e = .returned (.bool true) ∧ Ext W w' := by
  have HR := Lib.hid hr; clear hr
  have HS := Lib.hid hs; clear hs
  by_cases hlong : 60 < n
  · skip
    go_enter Try.func9, Try.ntmps9
    have HX : Hid (Ext W W) := Ext.rfl'
    go_wp2_with fail
    refine (known9 _).mono ?_
    rintro e w1 ⟨rfl, hx1⟩
    replace HX := Lib.hid (HX.out.trans' hx1)
    clear hx1
    go_wp2
    (try rw [Exit.noGoto_ret])
    go_ret
    exact ⟨rfl, HX.out⟩
  replace hlong : n ≤ 60 := by omega
  by_cases hlong2 : 60 < m
  · skip
    go_enter Try.func9, Try.ntmps9
    have HX : Hid (Ext W W) := Ext.rfl'
    go_wp2_with fail
    refine (known9 _).mono ?_
    rintro e w1 ⟨rfl, hx1⟩
    replace HX := Lib.hid (HX.out.trans' hx1)
    clear hx1
    go_wp2
    (try rw [Exit.noGoto_ret])
    go_ret
    exact ⟨rfl, HX.out⟩
  replace hlong2 : m ≤ 60 := by omega
  have HSW := Lib.hid (sum_swap (l := l) (m := r))
  go_enter Try.func9, Try.ntmps9
  have HX : Hid (Ext W W) := Ext.rfl'
  go_wp2_with fail
  refine (stepsSum A B n m c d l r _ HR.out HS.out (by omega) (by omega)).mono ?_
  rintro e w1 ⟨A1, m1, c1, rfl, hr1, hc1, hx1⟩
  replace HX := Lib.hid (HX.out.trans' hx1)
  replace HR := Lib.hid (HR.out.ext hx1)
  replace HS := Lib.hid (HS.out.ext hx1)
  clear hx1
  have HR1 := Lib.hid hr1
  have hm1 : m1 ≤ 200 := by rw [← RdL.len hr1]; have := sumR_len l r; have := RdL.len HR.out; have := RdL.len HS.out; omega
  clear hr1 hc1
  go_wp2_with fail
  refine (refSum A B n m c d l r _ HR.out HS.out (by omega) (by omega)).mono ?_
  rintro e w2 ⟨A2, m2, c2, rfl, hr2, hc2, hx2⟩
  replace HX := Lib.hid (HX.out.trans' hx2)
  replace HR := Lib.hid (HR.out.ext hx2)
  replace HS := Lib.hid (HS.out.ext hx2)
  replace HR1 := Lib.hid (HR1.out.ext hx2)
  clear hx2
  have HR2 := Lib.hid hr2
  have hm2 : m2 ≤ 200 := by rw [← RdL.len hr2]; have := sumR_len l r; have := RdL.len HR.out; have := RdL.len HS.out; omega
  clear hr2 hc2
  go_wp2_with fail
  refine (stepsSum B A m n d c r l _ HS.out HR.out (by omega) (by omega)).mono ?_
  rintro e w3 ⟨A3, m3, c3, rfl, hr3, hc3, hx3⟩
  replace HX := Lib.hid (HX.out.trans' hx3)
  replace HR := Lib.hid (HR.out.ext hx3)
  replace HS := Lib.hid (HS.out.ext hx3)
  replace HR1 := Lib.hid (HR1.out.ext hx3)
  replace HR2 := Lib.hid (HR2.out.ext hx3)
  clear hx3
  rw [HSW.out.2] at hr3
  have HR3 := Lib.hid hr3
  have hm3 : m3 ≤ 200 := by rw [← RdL.len hr3]; have := sumR_len l r; have := RdL.len HR.out; have := RdL.len HS.out; omega
  clear hr3 hc3
  rw [HSW.out.1]
  go_wp2_with fail
  refine (refSame9 A1 A2 m1 c1 m2 c2 _ _ _ HR1.out HR2.out (by omega) (by omega)).mono ?_
  rintro e w4 ⟨rfl, hx4⟩
  replace HX := Lib.hid (HX.out.trans' hx4)
  replace HR := Lib.hid (HR.out.ext hx4)
  replace HS := Lib.hid (HS.out.ext hx4)
  replace HR1 := Lib.hid (HR1.out.ext hx4)
  replace HR2 := Lib.hid (HR2.out.ext hx4)
  replace HR3 := Lib.hid (HR3.out.ext hx4)
  clear hx4
  rw [sameL_t rfl]
  go_wp2_with fail
  refine (refSame9 A3 A1 m3 c3 m1 c1 _ _ _ HR3.out HR1.out (by omega) (by omega)).mono ?_
  rintro e w5 ⟨rfl, hx5⟩
  replace HX := Lib.hid (HX.out.trans' hx5)
  replace HR := Lib.hid (HR.out.ext hx5)
  replace HS := Lib.hid (HS.out.ext hx5)
  replace HR1 := Lib.hid (HR1.out.ext hx5)
  replace HR2 := Lib.hid (HR2.out.ext hx5)
  replace HR3 := Lib.hid (HR3.out.ext hx5)
  clear hx5
  rw [sameL_t rfl]
  go_wp2_with fail
  refine (known9 _).mono ?_
  rintro e w6 ⟨rfl, hx6⟩
  replace HX := Lib.hid (HX.out.trans' hx6)
  replace HR := Lib.hid (HR.out.ext hx6)
  replace HS := Lib.hid (HS.out.ext hx6)
  replace HR1 := Lib.hid (HR1.out.ext hx6)
  replace HR2 := Lib.hid (HR2.out.ext hx6)
  replace HR3 := Lib.hid (HR3.out.ext hx6)
  clear hx6
  go_wp2
  (try rw [Exit.noGoto_ret])
  go_ret
  exact ⟨rfl, HX.out⟩
end Go.Proofs.Ytggfepphjaohiaa
