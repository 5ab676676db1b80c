/-
  Walk: the statement StepsEnds. Conditions: none.
-/
import Derived.Test.YtggfepphjaohiaaWKnown9
import Derived.Test.YtggfepphjaohiaaWArea
import Derived.Test.YtggfepphjaohiaaWMost
import Derived.Test.YtggfepphjaohiaaWAt
import Derived.Test.YtggfepphjaohiaaWEnds
namespace Go.Proofs.Ytggfepphjaohiaa
open Go.RowKit
set_option linter.unusedVariables false
set_option linter.unusedSimpArgs false

set_option maxHeartbeats 4000000 in
theorem walk_ends (A : Option Addr) (n c : Nat) (l : List Stp) (f t : Int) (W : World) (hr : RdP W A n l) (hn : n ≤ 9223372036854775807) :
    Calls Try.prog 8 #[.slice A n c, .int .i64 f, .int .i64 t] W fun e w' => e = .returned (.bool true) ∧ Ext W w' := by
  have HR := Lib.hid hr; clear hr
  by_cases hlong : 60 < n
  · skip
    go_enter Try.func8, Try.ntmps8
    have HX : Hid (Ext W W) := Ext.rfl'
    go_wp2_with fail
    refine (known9 _).mono ?_
    rintro e w1 ⟨rfl, hx1⟩
    replace HX := Lib.hid (HX.out.trans' hx1)
    clear hx1
    go_wp2
    (try rw [Exit.noGoto_ret])
    go_ret
    exact ⟨rfl, HX.out⟩
  replace hlong : n ≤ 60 := by omega
  by_cases hw : While l f t
  · have HW := Lib.hid hw; clear hw
    go_enter Try.func8, Try.ntmps8
    have HX : Hid (Ext W W) := Ext.rfl'
    go_wp2_with fail
    refine (least_ok A n c l f t _ HR.out HW.out).mono ?_
    rintro e w1 ⟨rfl, hx1⟩
    replace HX := Lib.hid (HX.out.trans' hx1)
    replace HR := Lib.hid (HR.out.ext hx1)
    clear hx1
    go_wp2_with fail
    refine (most_ok A n c l f t _ HR.out HW.out).mono ?_
    rintro e w2 ⟨rfl, hx2⟩
    replace HX := Lib.hid (HX.out.trans' hx2)
    replace HR := Lib.hid (HR.out.ext hx2)
    clear hx2
    go_wp2_with fail
    refine (stepsArea A n c l f t _ HR.out (by omega)).mono ?_
    rintro e w3 ⟨rfl, hx3⟩
    replace HX := Lib.hid (HX.out.trans' hx3)
    replace HR := Lib.hid (HR.out.ext hx3)
    clear hx3
    go_wp2_with fail
    refine (refEnds A n c l f t _ HR.out (by omega) HW.out).mono ?_
    rintro e w4 ⟨rfl, hx4⟩
    replace HX := Lib.hid (HX.out.trans' hx4)
    replace HR := Lib.hid (HR.out.ext hx4)
    clear hx4
    go_wp2_with fail
    refine (refArea A n c l f t _ HR.out (by omega)).mono ?_
    rintro e w5 ⟨rfl, hx5⟩
    replace HX := Lib.hid (HX.out.trans' hx5)
    replace HR := Lib.hid (HR.out.ext hx5)
    clear hx5
    go_wp2_with fail
    refine (stepsAt A n c l f _ HR.out (by omega)).mono ?_
    rintro e w6 ⟨rfl, hx6⟩
    replace HX := Lib.hid (HX.out.trans' hx6)
    replace HR := Lib.hid (HR.out.ext hx6)
    clear hx6
    go_wp2_with fail
    refine (refAt A n c l f _ HR.out (by omega)).mono ?_
    rintro e w7 ⟨rfl, hx7⟩
    replace HX := Lib.hid (HX.out.trans' hx7)
    replace HR := Lib.hid (HR.out.ext hx7)
    clear hx7
    go_wp2_with fail
    refine (known9 _).mono ?_
    rintro e w8 ⟨rfl, hx8⟩
    replace HX := Lib.hid (HX.out.trans' hx8)
    replace HR := Lib.hid (HR.out.ext hx8)
    clear hx8
    go_wp2
    (try rw [Exit.noGoto_ret])
    go_ret
    exact ⟨rfl, HX.out⟩
  · have HW := Lib.hid hw; clear hw
    go_enter Try.func8, Try.ntmps8
    have HX : Hid (Ext W W) := Ext.rfl'
    go_wp2_with fail
    refine (least_bad A n c l f t _ HR.out (by omega) HW.out).mono ?_
    rintro e w1 ⟨rfl, hx1⟩
    replace HX := Lib.hid (HX.out.trans' hx1)
    replace HR := Lib.hid (HR.out.ext hx1)
    clear hx1
    go_wp2_with fail
    refine (most_bad A n c l f t _ HR.out (by omega) HW.out).mono ?_
    rintro e w2 ⟨rfl, hx2⟩
    replace HX := Lib.hid (HX.out.trans' hx2)
    replace HR := Lib.hid (HR.out.ext hx2)
    clear hx2
    go_wp2_with fail
    refine (stepsArea A n c l f t _ HR.out (by omega)).mono ?_
    rintro e w3 ⟨rfl, hx3⟩
    replace HX := Lib.hid (HX.out.trans' hx3)
    replace HR := Lib.hid (HR.out.ext hx3)
    clear hx3
    go_wp2_with fail
    refine (refEnds_bad A n c l f t _ HR.out (by omega) HW.out).mono ?_
    rintro e w4 ⟨rfl, hx4⟩
    replace HX := Lib.hid (HX.out.trans' hx4)
    replace HR := Lib.hid (HR.out.ext hx4)
    clear hx4
    go_wp2_with fail
    refine (refArea A n c l f t _ HR.out (by omega)).mono ?_
    rintro e w5 ⟨rfl, hx5⟩
    replace HX := Lib.hid (HX.out.trans' hx5)
    replace HR := Lib.hid (HR.out.ext hx5)
    clear hx5
    go_wp2_with fail
    refine (stepsAt A n c l f _ HR.out (by omega)).mono ?_
    rintro e w6 ⟨rfl, hx6⟩
    replace HX := Lib.hid (HX.out.trans' hx6)
    replace HR := Lib.hid (HR.out.ext hx6)
    clear hx6
    go_wp2_with fail
    refine (refAt A n c l f _ HR.out (by omega)).mono ?_
    rintro e w7 ⟨rfl, hx7⟩
    replace HX := Lib.hid (HX.out.trans' hx7)
    replace HR := Lib.hid (HR.out.ext hx7)
    clear hx7
    go_wp2_with fail
    refine (known9 _).mono ?_
    rintro e w8 ⟨rfl, hx8⟩
    replace HX := Lib.hid (HX.out.trans' hx8)
    replace HR := Lib.hid (HR.out.ext hx8)
    clear hx8
    go_wp2
    (try rw [Exit.noGoto_ret])
    go_ret
    exact ⟨rfl, HX.out⟩
end Go.Proofs.Ytggfepphjaohiaa
