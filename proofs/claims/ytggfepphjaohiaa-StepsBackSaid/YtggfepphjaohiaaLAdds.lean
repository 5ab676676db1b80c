/-
  Walk: the statement StepsAdds. Conditions: none.
-/
import Derived.Test.YtggfepphjaohiaaWKnown9
namespace Go.Proofs.Ytggfepphjaohiaa
open Go.RowKit
set_option linter.unusedVariables false
set_option linter.unusedSimpArgs false

theorem addR_len (l : List Stp) (f t k : Int) : (addR l f t k).length ≤ l.length + 2 := by
  rcases add_cases l f t k with h | h | h
  · rw [h.2.2.2]; exact addL_len
  · rw [h.2.2.2]; simp
  · rw [h.2.2]; simp

set_option maxHeartbeats 4000000 in
theorem walk_adds (A : Option Addr) (n c : Nat) (l : List Stp) (f t k : Int) (W : World) (hr : RdP W A n l) (hn : n ≤ 9223372036854775807) (hnc : n ≤ c) :
    Calls Try.prog 3 #[.slice A n c, .int .i64 f, .int .i64 t, .int .i64 k] W fun e w' => e = .returned (.bool true) ∧ Ext W w' := by
  have HR := Lib.hid hr; clear hr
  by_cases hlong : 60 < n
  · skip
    go_enter Try.func3, Try.ntmps3
    have HX : Hid (Ext W W) := Ext.rfl'
    go_wp2_with fail
    refine (known9 _).mono ?_
    rintro e w1 ⟨rfl, hx1⟩
    replace HX := Lib.hid (HX.out.trans' hx1)
    clear hx1
    go_wp2
    (try rw [Exit.noGoto_ret])
    go_ret
    exact ⟨rfl, HX.out⟩
  replace hlong : n ≤ 60 := by omega
  go_enter Try.func3, Try.ntmps3
  have HX : Hid (Ext W W) := Ext.rfl'
  go_wp2_with fail
  refine (stepsAdd A n c l f t k _ HR.out (by omega) hnc).mono ?_
  rintro e w1 ⟨A1, m1, c1, rfl, hr1, hc1, hx1⟩
  replace HX := Lib.hid (HX.out.trans' hx1)
  replace HR := Lib.hid (HR.out.ext hx1)
  clear hx1
  have HR1 := Lib.hid hr1
  have hm1 : m1 ≤ 100 := by rw [← RdL.len hr1]; have := addR_len l f t k; have := RdL.len HR.out; omega
  clear hr1 hc1
  go_wp2_with fail
  refine (refAdd A n c l f t k _ HR.out (by omega)).mono ?_
  rintro e w2 ⟨A2, m2, c2, rfl, hr2, hc2, hx2⟩
  replace HX := Lib.hid (HX.out.trans' hx2)
  replace HR := Lib.hid (HR.out.ext hx2)
  replace HR1 := Lib.hid (HR1.out.ext hx2)
  clear hx2
  have HR2 := Lib.hid hr2
  have hm2 : m2 ≤ 100 := by rw [← RdL.len hr2]; have := addR_len l f t k; have := RdL.len HR.out; omega
  clear hr2 hc2
  go_wp2_with fail
  refine (refSame9 A1 A2 m1 c1 m2 c2 _ _ _ HR1.out HR2.out (by omega) (by omega)).mono ?_
  rintro e w3 ⟨rfl, hx3⟩
  replace HX := Lib.hid (HX.out.trans' hx3)
  replace HR := Lib.hid (HR.out.ext hx3)
  replace HR1 := Lib.hid (HR1.out.ext hx3)
  replace HR2 := Lib.hid (HR2.out.ext hx3)
  clear hx3
  rw [sameL_t rfl]
  go_wp2_with fail
  refine (stepsCheck A n c l _ HR.out (by omega)).mono ?_
  rintro e w4 ⟨rfl, hx4⟩
  replace HX := Lib.hid (HX.out.trans' hx4)
  replace HR := Lib.hid (HR.out.ext hx4)
  replace HR1 := Lib.hid (HR1.out.ext hx4)
  replace HR2 := Lib.hid (HR2.out.ext hx4)
  clear hx4
  go_wp2_with fail
  refine (refCheck A n c l _ HR.out (by omega)).mono ?_
  rintro e w5 ⟨rfl, hx5⟩
  replace HX := Lib.hid (HX.out.trans' hx5)
  replace HR := Lib.hid (HR.out.ext hx5)
  replace HR1 := Lib.hid (HR1.out.ext hx5)
  replace HR2 := Lib.hid (HR2.out.ext hx5)
  clear hx5
  go_wp2_with fail
  refine (known9 _).mono ?_
  rintro e w6 ⟨rfl, hx6⟩
  replace HX := Lib.hid (HX.out.trans' hx6)
  replace HR := Lib.hid (HR.out.ext hx6)
  replace HR1 := Lib.hid (HR1.out.ext hx6)
  replace HR2 := Lib.hid (HR2.out.ext hx6)
  clear hx6
  go_wp2
  (try rw [Exit.noGoto_ret])
  go_ret
  exact ⟨rfl, HX.out⟩
end Go.Proofs.Ytggfepphjaohiaa
