/-
  Walk: the statement FillLeft. Conditions: none.
-/
import Derived.Test.YtbcpjdjlgmhohaaWKnown15
import Derived.Test.YtbcpjdjlgmhohaaWLeft
import Derived.Test.YtbcpjdjlgmhohaaMChk
import Derived.Test.YtbcpjdjlgmhohaaOpen
namespace Go.Proofs.Ytbcpjdjlgmhohaa
open Go.RowKit
set_option linter.unusedVariables false
set_option linter.unusedSimpArgs false

set_option maxHeartbeats 8000000 in
theorem walk_fleft (A B : Option Addr) (n m c d : Nat) (l : List Stp) (ss : List Slt) (W : World) (hr : RdP W A n l) (hs : RdQ W B m ss) (hn : n ≤ 9223372036854775807) (hm : m ≤ 9223372036854775807) (hnc : n ≤ c) :
    Calls Try.prog 7 #[.slice A n c, .slice B m d] W fun e w' => e = .returned (.bool true) ∧ Ext W w' := by
  have HR := Lib.hid hr; clear hr
  have HS := Lib.hid hs; clear hs
  by_cases hlong : 30 < n
  · skip
    go_enter Try.func7, Try.ntmps7
    have HX : Hid (Ext W W) := Ext.rfl'
    go_wp2_with fail
    refine (known15 _).mono ?_
    rintro e w1 ⟨rfl, hx1⟩
    replace HX := Lib.hid (HX.out.trans' hx1)
    clear hx1
    go_wp2
    (try rw [Exit.noGoto_ret])
    go_ret
    exact ⟨rfl, HX.out⟩
  replace hlong : n ≤ 30 := by omega
  by_cases hlong2 : 20 < m
  · skip
    go_enter Try.func7, Try.ntmps7
    have HX : Hid (Ext W W) := Ext.rfl'
    go_wp2_with fail
    refine (known15 _).mono ?_
    rintro e w1 ⟨rfl, hx1⟩
    replace HX := Lib.hid (HX.out.trans' hx1)
    clear hx1
    go_wp2
    (try rw [Exit.noGoto_ret])
    go_ret
    exact ⟨rfl, HX.out⟩
  replace hlong2 : m ≤ 20 := by omega
  have hLL : (leftA l ss).1.length ≤ 9000 := by
    have e1 := RdL.len HR.out
    have e2 := RdL.len HS.out
    by_cases hp : Prof l
    · rw [left_prof hp]; have := leftV_len ss l (by omega); omega
    · rw [left_bad hp]; simp
  go_enter Try.func7, Try.ntmps7
  have HX : Hid (Ext W W) := Ext.rfl'
  go_wp2_with fail
  refine (fillLeft A B n m c d l ss _ HR.out HS.out (by omega) (by omega) hnc).mono ?_
  rintro e w1 ⟨A1, mA1, cA1, rfl, hrA1, hcA1, hx1⟩
  replace HX := Lib.hid (HX.out.trans' hx1)
  replace HR := Lib.hid (HR.out.ext hx1)
  replace HS := Lib.hid (HS.out.ext hx1)
  clear hx1
  have HPA1 := Lib.hid hrA1
  have hmA1 : mA1 ≤ 9000 := by rw [← RdL.len HPA1.out]; omega
  clear hrA1 hcA1
  go_wp2_with fail
  refine (refLeft A B n m c d l ss _ HR.out HS.out (by omega) (by omega) hnc).mono ?_
  rintro e w2 ⟨A2, mA2, cA2, rfl, hrA2, hcA2, hx2⟩
  replace HX := Lib.hid (HX.out.trans' hx2)
  replace HR := Lib.hid (HR.out.ext hx2)
  replace HS := Lib.hid (HS.out.ext hx2)
  replace HPA1 := Lib.hid (HPA1.out.ext hx2)
  clear hx2
  have HPA2 := Lib.hid hrA2
  have hmA2 : mA2 ≤ 9000 := by rw [← RdL.len HPA2.out]; omega
  clear hrA2 hcA2
  go_wp2_with fail
  refine (refSame9 A1 A2 mA1 cA1 mA2 cA2 _ _ _ HPA1.out HPA2.out (by omega) (by omega)).mono ?_
  rintro e w3 ⟨rfl, hx3⟩
  replace HX := Lib.hid (HX.out.trans' hx3)
  replace HR := Lib.hid (HR.out.ext hx3)
  replace HS := Lib.hid (HS.out.ext hx3)
  replace HPA1 := Lib.hid (HPA1.out.ext hx3)
  replace HPA2 := Lib.hid (HPA2.out.ext hx3)
  clear hx3
  rw [sameL_t rfl]
  go_wp2_with fail
  refine (known15 _).mono ?_
  rintro e w4 ⟨rfl, hx4⟩
  replace HX := Lib.hid (HX.out.trans' hx4)
  replace HR := Lib.hid (HR.out.ext hx4)
  replace HS := Lib.hid (HS.out.ext hx4)
  replace HPA1 := Lib.hid (HPA1.out.ext hx4)
  replace HPA2 := Lib.hid (HPA2.out.ext hx4)
  clear hx4
  go_wp2
  (try rw [Exit.noGoto_ret])
  go_ret
  exact ⟨rfl, HX.out⟩
end Go.Proofs.Ytbcpjdjlgmhohaa
