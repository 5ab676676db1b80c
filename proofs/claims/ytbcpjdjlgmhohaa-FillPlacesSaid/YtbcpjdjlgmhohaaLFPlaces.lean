/-
  Walk: the statement FillPlaces. Conditions: none.
-/
import Derived.Test.YtbcpjdjlgmhohaaWKnown15
import Derived.Test.YtbcpjdjlgmhohaaWPlcR
import Derived.Test.YtbcpjdjlgmhohaaOpen
namespace Go.Proofs.Ytbcpjdjlgmhohaa
open Go.RowKit
set_option linter.unusedVariables false
set_option linter.unusedSimpArgs false

theorem ids_wf {l : List Jb} (h : ∀ s ∈ l, (Lit.int .i64 s.1).wf = true ∧ (Lit.int .i64 s.2.1).wf = true ∧ (Lit.int .i64 s.2.2.1).wf = true ∧ (Lit.int .i64 s.2.2.2).wf = true) : IdsWf l := fun j hj => wf64 (h j hj).1

set_option maxHeartbeats 8000000 in
theorem walk_fplaces (A B : Option Addr) (n m c d : Nat) (l : List Stp) (now deep : Int) (jobs : List Jb) (W : World) (hr : RdP W A n l) (hs : RdQ W B m jobs) (hn : n ≤ 9223372036854775807) (hm : m ≤ 9223372036854775807) (hnc : n ≤ c) (hwf : IdsWf jobs) (hdw : deep ≤ 9223372036854775807) :
    Calls Try.prog 3 #[.slice A n c, .int .i64 now, .int .i64 deep, .slice B m d] W fun e w' => e = .returned (.bool true) ∧ Ext W w' := by
  have HR := Lib.hid hr; clear hr
  have HS := Lib.hid hs; clear hs
  by_cases hlong : 30 < n
  · skip
    go_enter Try.func3, Try.ntmps3
    have HX : Hid (Ext W W) := Ext.rfl'
    go_wp2_with fail
    refine (known15 _).mono ?_
    rintro e w1 ⟨rfl, hx1⟩
    replace HX := Lib.hid (HX.out.trans' hx1)
    clear hx1
    go_wp2
    (try rw [Exit.noGoto_ret])
    go_ret
    exact ⟨rfl, HX.out⟩
  replace hlong : n ≤ 30 := by omega
  by_cases hlong2 : 20 < m
  · skip
    go_enter Try.func3, Try.ntmps3
    have HX : Hid (Ext W W) := Ext.rfl'
    go_wp2_with fail
    refine (known15 _).mono ?_
    rintro e w1 ⟨rfl, hx1⟩
    replace HX := Lib.hid (HX.out.trans' hx1)
    clear hx1
    go_wp2
    (try rw [Exit.noGoto_ret])
    go_ret
    exact ⟨rfl, HX.out⟩
  replace hlong2 : m ≤ 20 := by omega
  have hjl : jobs.length ≤ 20 := by have := RdL.len HS.out; omega
  go_enter Try.func3, Try.ntmps3
  have HX : Hid (Ext W W) := Ext.rfl'
  go_wp2_with fail
  refine (fillPlaces A B n m c d l now deep jobs _ HR.out HS.out (by omega) (by omega) hnc hwf (by omega)).mono ?_
  rintro e w1 ⟨A1, mA1, cA1, rfl, hrA1, hcA1, hx1⟩
  replace HX := Lib.hid (HX.out.trans' hx1)
  replace HR := Lib.hid (HR.out.ext hx1)
  replace HS := Lib.hid (HS.out.ext hx1)
  clear hx1
  have HPA1 := Lib.hid hrA1
  have hmA1 : mA1 ≤ 20 := by have := plcR_len l now deep jobs; have := RdL.len HPA1.out; have := RdL.len HS.out; omega
  clear hrA1 hcA1
  go_wp2_with fail
  refine (refPlaces A B n m c d l now deep jobs _ HR.out HS.out (by omega) (by omega) hnc (by omega)).mono ?_
  rintro e w2 ⟨A2, mA2, cA2, rfl, hrA2, hcA2, hx2⟩
  replace HX := Lib.hid (HX.out.trans' hx2)
  replace HR := Lib.hid (HR.out.ext hx2)
  replace HS := Lib.hid (HS.out.ext hx2)
  replace HPA1 := Lib.hid (HPA1.out.ext hx2)
  clear hx2
  have HPA2 := Lib.hid hrA2
  have hmA2 : mA2 ≤ 20 := by have := plcR_len l now deep jobs; have := RdL.len HPA2.out; have := RdL.len HS.out; omega
  clear hrA2 hcA2
  go_wp2_with fail
  refine (fillNow A B n m c d l now jobs _ HR.out HS.out (by omega) (by omega) hnc hwf).mono ?_
  rintro e w3 ⟨A3, m3, c3, rfl, hr3, hx3⟩
  replace HX := Lib.hid (HX.out.trans' hx3)
  replace HR := Lib.hid (HR.out.ext hx3)
  replace HS := Lib.hid (HS.out.ext hx3)
  replace HPA1 := Lib.hid (HPA1.out.ext hx3)
  replace HPA2 := Lib.hid (HPA2.out.ext hx3)
  clear hx3
  have HP3 := Lib.hid hr3
  have hm3 : m3 ≤ 20 := by have := plcR_len l now 0 jobs; have := RdL.len HP3.out; have := RdL.len HS.out; simp at *; omega
  clear hr3
  go_wp2_with fail
  refine (refPlaces A B n m c d l now 0 jobs _ HR.out HS.out (by omega) (by omega) hnc (by omega)).mono ?_
  rintro e w4 ⟨A4, mA4, cA4, rfl, hrA4, hcA4, hx4⟩
  replace HX := Lib.hid (HX.out.trans' hx4)
  replace HR := Lib.hid (HR.out.ext hx4)
  replace HS := Lib.hid (HS.out.ext hx4)
  replace HPA1 := Lib.hid (HPA1.out.ext hx4)
  replace HPA2 := Lib.hid (HPA2.out.ext hx4)
  replace HP3 := Lib.hid (HP3.out.ext hx4)
  clear hx4
  have HPA4 := Lib.hid hrA4
  have hmA4 : mA4 ≤ 20 := by have := plcR_len l now 0 jobs; have := RdL.len HPA4.out; have := RdL.len HS.out; omega
  clear hrA4 hcA4
  go_wp2_with fail
  refine (refSameST A1 A2 mA1 cA1 mA2 cA2 _ _ HPA1.out HPA2.out (by omega) (by omega)).mono ?_
  rintro e w5 ⟨rfl, hx5⟩
  replace HX := Lib.hid (HX.out.trans' hx5)
  replace HR := Lib.hid (HR.out.ext hx5)
  replace HS := Lib.hid (HS.out.ext hx5)
  replace HPA1 := Lib.hid (HPA1.out.ext hx5)
  replace HPA2 := Lib.hid (HPA2.out.ext hx5)
  replace HP3 := Lib.hid (HP3.out.ext hx5)
  replace HPA4 := Lib.hid (HPA4.out.ext hx5)
  clear hx5
  go_wp2_with fail
  refine (refIDs A4 mA4 cA4 _ _ HPA4.out (by omega)).mono ?_
  rintro e w6 ⟨A6, c6, rfl, hr6, hx6⟩
  replace HX := Lib.hid (HX.out.trans' hx6)
  replace HR := Lib.hid (HR.out.ext hx6)
  replace HS := Lib.hid (HS.out.ext hx6)
  replace HPA1 := Lib.hid (HPA1.out.ext hx6)
  replace HPA2 := Lib.hid (HPA2.out.ext hx6)
  replace HP3 := Lib.hid (HP3.out.ext hx6)
  replace HPA4 := Lib.hid (HPA4.out.ext hx6)
  clear hx6
  have HP6 := Lib.hid hr6
  clear hr6
  go_wp2_with fail
  refine (refSameIT A3 A6 m3 c3 mA4 c6 _ _ HP3.out HP6.out (by omega) (by omega)).mono ?_
  rintro e w7 ⟨rfl, hx7⟩
  replace HX := Lib.hid (HX.out.trans' hx7)
  replace HR := Lib.hid (HR.out.ext hx7)
  replace HS := Lib.hid (HS.out.ext hx7)
  replace HPA1 := Lib.hid (HPA1.out.ext hx7)
  replace HPA2 := Lib.hid (HPA2.out.ext hx7)
  replace HP3 := Lib.hid (HP3.out.ext hx7)
  replace HPA4 := Lib.hid (HPA4.out.ext hx7)
  replace HP6 := Lib.hid (HP6.out.ext hx7)
  clear hx7
  go_wp2_with fail
  refine (fillOrder B m d jobs _ HS.out (by omega)).mono ?_
  rintro e w8 ⟨v8, rfl, hov8, hx8⟩
  replace HX := Lib.hid (HX.out.trans' hx8)
  replace HR := Lib.hid (HR.out.ext hx8)
  replace HS := Lib.hid (HS.out.ext hx8)
  replace HPA1 := Lib.hid (HPA1.out.ext hx8)
  replace HPA2 := Lib.hid (HPA2.out.ext hx8)
  replace HP3 := Lib.hid (HP3.out.ext hx8)
  replace HPA4 := Lib.hid (HPA4.out.ext hx8)
  replace HP6 := Lib.hid (HP6.out.ext hx8)
  clear hx8
  obtain ⟨A8, cA8, rfl, hcA8, hrA8⟩ := RdL.of_own encQ_len hov8 (orderJ_len _)
  have HO8 := Lib.hid hrA8
  clear hov8 hrA8
  go_wp2_with fail
  refine (refOrder B m d jobs _ HS.out (by omega)).mono ?_
  rintro e w9 ⟨A9, c9, rfl, hr9, hc9, hx9⟩
  replace HX := Lib.hid (HX.out.trans' hx9)
  replace HR := Lib.hid (HR.out.ext hx9)
  replace HS := Lib.hid (HS.out.ext hx9)
  replace HPA1 := Lib.hid (HPA1.out.ext hx9)
  replace HPA2 := Lib.hid (HPA2.out.ext hx9)
  replace HP3 := Lib.hid (HP3.out.ext hx9)
  replace HPA4 := Lib.hid (HPA4.out.ext hx9)
  replace HP6 := Lib.hid (HP6.out.ext hx9)
  replace HO8 := Lib.hid (HO8.out.ext hx9)
  clear hx9
  have HO9 := Lib.hid hr9
  clear hr9
  go_wp2_with fail
  refine (refSameJT A8 A9 _ cA8 _ c9 _ _ HO8.out HO9.out (by omega) (by omega)).mono ?_
  rintro e w10 ⟨rfl, hx10⟩
  replace HX := Lib.hid (HX.out.trans' hx10)
  replace HR := Lib.hid (HR.out.ext hx10)
  replace HS := Lib.hid (HS.out.ext hx10)
  replace HPA1 := Lib.hid (HPA1.out.ext hx10)
  replace HPA2 := Lib.hid (HPA2.out.ext hx10)
  replace HP3 := Lib.hid (HP3.out.ext hx10)
  replace HPA4 := Lib.hid (HPA4.out.ext hx10)
  replace HP6 := Lib.hid (HP6.out.ext hx10)
  replace HO8 := Lib.hid (HO8.out.ext hx10)
  replace HO9 := Lib.hid (HO9.out.ext hx10)
  clear hx10
  go_wp2_with fail
  refine (fillCheck A B n m c d l now jobs _ HR.out HS.out (by omega) (by omega) hwf).mono ?_
  rintro e w11 ⟨rfl, hx11⟩
  replace HX := Lib.hid (HX.out.trans' hx11)
  replace HR := Lib.hid (HR.out.ext hx11)
  replace HS := Lib.hid (HS.out.ext hx11)
  replace HPA1 := Lib.hid (HPA1.out.ext hx11)
  replace HPA2 := Lib.hid (HPA2.out.ext hx11)
  replace HP3 := Lib.hid (HP3.out.ext hx11)
  replace HPA4 := Lib.hid (HPA4.out.ext hx11)
  replace HP6 := Lib.hid (HP6.out.ext hx11)
  replace HO8 := Lib.hid (HO8.out.ext hx11)
  replace HO9 := Lib.hid (HO9.out.ext hx11)
  clear hx11
  go_wp2_with fail
  refine (refChkJ A B n m c d l now jobs _ HR.out HS.out (by omega) (by omega)).mono ?_
  rintro e w12 ⟨rfl, hx12⟩
  replace HX := Lib.hid (HX.out.trans' hx12)
  replace HR := Lib.hid (HR.out.ext hx12)
  replace HS := Lib.hid (HS.out.ext hx12)
  replace HPA1 := Lib.hid (HPA1.out.ext hx12)
  replace HPA2 := Lib.hid (HPA2.out.ext hx12)
  replace HP3 := Lib.hid (HP3.out.ext hx12)
  replace HPA4 := Lib.hid (HPA4.out.ext hx12)
  replace HP6 := Lib.hid (HP6.out.ext hx12)
  replace HO8 := Lib.hid (HO8.out.ext hx12)
  replace HO9 := Lib.hid (HO9.out.ext hx12)
  clear hx12
  go_wp2_with fail
  refine (known15 _).mono ?_
  rintro e w13 ⟨rfl, hx13⟩
  replace HX := Lib.hid (HX.out.trans' hx13)
  replace HR := Lib.hid (HR.out.ext hx13)
  replace HS := Lib.hid (HS.out.ext hx13)
  replace HPA1 := Lib.hid (HPA1.out.ext hx13)
  replace HPA2 := Lib.hid (HPA2.out.ext hx13)
  replace HP3 := Lib.hid (HP3.out.ext hx13)
  replace HPA4 := Lib.hid (HPA4.out.ext hx13)
  replace HP6 := Lib.hid (HP6.out.ext hx13)
  replace HO8 := Lib.hid (HO8.out.ext hx13)
  replace HO9 := Lib.hid (HO9.out.ext hx13)
  clear hx13
  go_wp2
  (try rw [Exit.noGoto_ret])
  go_ret
  exact ⟨rfl, HX.out⟩
end Go.Proofs.Ytbcpjdjlgmhohaa
