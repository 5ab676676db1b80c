/-
  Walk: the statement StepsTidies. Conditions: none.
-/
import Derived.Test.YtggfepphjaohiaaWKnown9
import Derived.Test.YtggfepphjaohiaaWTidyR
import Derived.Test.YtggfepphjaohiaaWNew
namespace Go.Proofs.Ytggfepphjaohiaa
open Go.RowKit
set_option linter.unusedVariables false
set_option linter.unusedSimpArgs false

theorem stepsTidyL (A : Option Addr) (n c : Nat) (l : List Stp) (w : World) (hr : RdP w A n l) (hn : n ≤ 100000) :
    Calls Try.prog 18 #[.slice A n c] w (GivesTidR l w) :=
  (stepsTidy A n c l w hr (by omega)).mono fun e w' h => by
    obtain ⟨r, B, d, st, sr, he, hd, hr', hx⟩ := h
    rw [tidyTo_tidL st sr] at he hd hr'
    exact ⟨B, d, he, hr', hd, hx⟩

set_option maxHeartbeats 4000000 in
theorem walk_tidies (A B : Option Addr) (n m c d : Nat) (l r : List Stp) (W : World) (hr : RdP W A n l) (hs : RdP W B m r) (hn : n ≤ 9223372036854775807) (hm : m ≤ 9223372036854775807) :
    Calls Try.prog 6 #[.slice A n c, .slice B m d] W fun e w' => e = .returned (.bool true) ∧ Ext W w' := by
  have HR := Lib.hid hr; clear hr
  have HS := Lib.hid hs; clear hs
  by_cases hlong : 60 < n
  · skip
    go_enter Try.func6, Try.ntmps6
    have HX : Hid (Ext W W) := Ext.rfl'
    go_wp2_with fail
    refine (known9 _).mono ?_
    rintro e w1 ⟨rfl, hx1⟩
    replace HX := Lib.hid (HX.out.trans' hx1)
    clear hx1
    go_wp2
    (try rw [Exit.noGoto_ret])
    go_ret
    exact ⟨rfl, HX.out⟩
  replace hlong : n ≤ 60 := by omega
  by_cases hlong2 : 60 < m
  · skip
    go_enter Try.func6, Try.ntmps6
    have HX : Hid (Ext W W) := Ext.rfl'
    go_wp2_with fail
    refine (known9 _).mono ?_
    rintro e w1 ⟨rfl, hx1⟩
    replace HX := Lib.hid (HX.out.trans' hx1)
    clear hx1
    go_wp2
    (try rw [Exit.noGoto_ret])
    go_ret
    exact ⟨rfl, HX.out⟩
  replace hlong2 : m ≤ 60 := by omega
  have hLL : (tidL l).length ≤ 60 := by have := tidL_len l; have := RdL.len HR.out; omega
  go_enter Try.func6, Try.ntmps6
  have HX : Hid (Ext W W) := Ext.rfl'
  go_wp2_with fail
  refine (stepsTidyL A n c l _ HR.out (by omega)).mono ?_
  rintro e w1 ⟨A1, c1, rfl, hr1, hd1, hx1⟩
  replace HX := Lib.hid (HX.out.trans' hx1)
  replace HR := Lib.hid (HR.out.ext hx1)
  replace HS := Lib.hid (HS.out.ext hx1)
  clear hx1
  have HR1 := Lib.hid hr1
  clear hr1 hd1
  go_wp2_with fail
  refine (refTidy A n c l _ HR.out (by omega)).mono ?_
  rintro e w2 ⟨A2, c2, rfl, hr2, hd2, hx2⟩
  replace HX := Lib.hid (HX.out.trans' hx2)
  replace HR := Lib.hid (HR.out.ext hx2)
  replace HS := Lib.hid (HS.out.ext hx2)
  replace HR1 := Lib.hid (HR1.out.ext hx2)
  clear hx2
  have HR2 := Lib.hid hr2
  clear hr2 hd2
  go_wp2_with fail
  refine (refSame9 A1 A2 _ c1 _ c2 _ _ _ HR1.out HR2.out (by omega) (by omega)).mono ?_
  rintro e w3 ⟨rfl, hx3⟩
  replace HX := Lib.hid (HX.out.trans' hx3)
  replace HR := Lib.hid (HR.out.ext hx3)
  replace HS := Lib.hid (HS.out.ext hx3)
  replace HR1 := Lib.hid (HR1.out.ext hx3)
  replace HR2 := Lib.hid (HR2.out.ext hx3)
  clear hx3
  rw [sameL_t rfl]
  go_wp2_with fail
  refine (stepsTidyL A1 _ c1 _ _ HR1.out (by omega)).mono ?_
  rintro e w4 ⟨A3, c3, rfl, hr3, hd3, hx4⟩
  replace HX := Lib.hid (HX.out.trans' hx4)
  replace HR := Lib.hid (HR.out.ext hx4)
  replace HS := Lib.hid (HS.out.ext hx4)
  replace HR1 := Lib.hid (HR1.out.ext hx4)
  replace HR2 := Lib.hid (HR2.out.ext hx4)
  clear hx4
  rw [tidL_same (tidL_norm l)] at hr3
  rw [tidL_same (tidL_norm l)]
  have HR3 := Lib.hid hr3
  clear hr3 hd3
  go_wp2_with fail
  refine (refSame9 A3 A1 _ c3 _ c1 _ _ _ HR3.out HR1.out (by omega) (by omega)).mono ?_
  rintro e w5 ⟨rfl, hx5⟩
  replace HX := Lib.hid (HX.out.trans' hx5)
  replace HR := Lib.hid (HR.out.ext hx5)
  replace HS := Lib.hid (HS.out.ext hx5)
  replace HR1 := Lib.hid (HR1.out.ext hx5)
  replace HR2 := Lib.hid (HR2.out.ext hx5)
  replace HR3 := Lib.hid (HR3.out.ext hx5)
  clear hx5
  rw [sameL_t rfl]
  go_wp2_with fail
  refine (stepsSame A B n m c d l r _ HR.out HS.out (by omega) (by omega)).mono ?_
  rintro e w6 ⟨rfl, hx6⟩
  replace HX := Lib.hid (HX.out.trans' hx6)
  replace HR := Lib.hid (HR.out.ext hx6)
  replace HS := Lib.hid (HS.out.ext hx6)
  replace HR1 := Lib.hid (HR1.out.ext hx6)
  replace HR2 := Lib.hid (HR2.out.ext hx6)
  replace HR3 := Lib.hid (HR3.out.ext hx6)
  clear hx6
  go_wp2_with fail
  refine (refSame9 A B n c m d l r _ HR.out HS.out (by omega) (by omega)).mono ?_
  rintro e w7 ⟨rfl, hx7⟩
  replace HX := Lib.hid (HX.out.trans' hx7)
  replace HR := Lib.hid (HR.out.ext hx7)
  replace HS := Lib.hid (HS.out.ext hx7)
  replace HR1 := Lib.hid (HR1.out.ext hx7)
  replace HR2 := Lib.hid (HR2.out.ext hx7)
  replace HR3 := Lib.hid (HR3.out.ext hx7)
  clear hx7
  rw [show sameL l r = decide (l = r) from rfl]
  go_wp2_with fail
  refine (stepsSame A A n n c c l l _ HR.out HR.out (by omega) (by omega)).mono ?_
  rintro e w8 ⟨rfl, hx8⟩
  replace HX := Lib.hid (HX.out.trans' hx8)
  replace HR := Lib.hid (HR.out.ext hx8)
  replace HS := Lib.hid (HS.out.ext hx8)
  replace HR1 := Lib.hid (HR1.out.ext hx8)
  replace HR2 := Lib.hid (HR2.out.ext hx8)
  replace HR3 := Lib.hid (HR3.out.ext hx8)
  clear hx8
  rw [show decide (l = l) = true from decide_eq_true rfl]
  go_wp2_with fail
  refine (known9 _).mono ?_
  rintro e w9 ⟨rfl, hx9⟩
  replace HX := Lib.hid (HX.out.trans' hx9)
  replace HR := Lib.hid (HR.out.ext hx9)
  replace HS := Lib.hid (HS.out.ext hx9)
  replace HR1 := Lib.hid (HR1.out.ext hx9)
  replace HR2 := Lib.hid (HR2.out.ext hx9)
  replace HR3 := Lib.hid (HR3.out.ext hx9)
  clear hx9
  go_wp2
  (try rw [Exit.noGoto_ret])
  go_ret
  exact ⟨rfl, HX.out⟩
end Go.Proofs.Ytggfepphjaohiaa
