/-
  Walk: what the chapter's example of layer 15 fixes. Conditions: none.
-/
import Derived.Test.YtbcpjdjlgmhohaaWNow
import Derived.Test.YtbcpjdjlgmhohaaWSameQ
import Derived.Test.YtbcpjdjlgmhohaaMPA
namespace Go.Proofs.Ytbcpjdjlgmhohaa
open Go.RowKit
set_option linter.unusedVariables false
set_option linter.unusedSimpArgs false

def kL : List Stp := [(0, 1), (10, 4)]
def kJ : List Jb := [(1, 0, 2, 5), (2, 0, 1, 20), (3, 0, 1, 3)]
theorem kL_prof : Prof kL := prof_of ⟨by decide, by decide, trivial⟩ ⟨1, rfl⟩ (by simp [kL]) (by decide)
theorem kJ_ok : ∀ j ∈ kJ, JobOk j := by decide +kernel
theorem kJ_chk : chkJ kL 0 kJ = 0 := chkJ_ok ⟨kL_prof, by decide, kJ_ok⟩ (by decide +kernel)
theorem kJ_wf : IdsWf kJ := by unfold IdsWf; decide +kernel
theorem kP0 : placesF 0 kL 0 (orderJ kJ) = [(2, 0, 20, 1)] := by decide +kernel
theorem kP1 : placesF 0 kL 1 (orderJ kJ) = [(1, 10, 15, 2), (2, 0, 20, 1)] := by decide +kernel
theorem kE0 : plcE kL 0 0 kJ = 0 ∧ (plcR kL 0 0 kJ).map (·.1) = [2] := by
  have h := plc_ok (deep := 0) kJ_chk (by decide)
  rw [h.1, h.2, kP0]; exact ⟨rfl, rfl⟩
theorem kE1 : plcE kL 0 1 kJ = 0 ∧ plcR kL 0 1 kJ = [(1, 10, 15, 2), (2, 0, 20, 1)] := by
  have h := plc_ok (deep := 1) kJ_chk (by decide)
  rw [h.1, h.2, kP1]; exact ⟨rfl, rfl⟩

set_option maxRecDepth 100000 in
set_option maxHeartbeats 4000000 in
theorem known15 (w : World) : Calls Try.prog 10 #[] w fun e w' => e = .returned (.bool true) ∧ Ext w w' := by
  go_enter Try.func10, Try.ntmps10
  have HX : Hid (Ext w w) := Ext.rfl'
  go_wp2_with fail
  have hoa := own_lit w w.heap.size 48 2 2 2 w.heap.size #[.int .i64 0, .int .i64 1, .int .i64 10, .int .i64 4] (flat encP kL) (Nat.le_refl _) rfl (by simp [maxLen]) rfl rfl rfl
  obtain ⟨Aa, ca, hva, hca, hra⟩ := RdL.of_own encP_len hoa rfl
  injection hva with hva1 _ hva2
  subst hva1; subst hva2
  clear hoa hca
  obtain ⟨wa, hwa⟩ : ∃ wa, wa = w.alloc (.cells #[.int .i64 0, .int .i64 1, .int .i64 10, .int .i64 4] 48) := ⟨_, rfl⟩
  replace HX : Hid (Ext w wa) := by rw [hwa]; exact HX.out.alloc HX.out.size _
  have hsz : wa.heap.size = w.heap.size + 1 := by rw [hwa]; simp
  rw [← hwa] at hra ⊢; clear hwa
  have hob := own_lit wa wa.heap.size 45 4 3 3 wa.heap.size #[.int .i64 1, .int .i64 0, .int .i64 2, .int .i64 5, .int .i64 2, .int .i64 0, .int .i64 1, .int .i64 20, .int .i64 3, .int .i64 0, .int .i64 1, .int .i64 3] (flat encQ kJ) (Nat.le_refl _) rfl (by simp [maxLen]) rfl rfl rfl
  obtain ⟨Ab, cb, hvb, hcb, hrb⟩ := RdL.of_own encQ_len hob rfl
  injection hvb with hvb1 _ hvb2
  subst hvb1; subst hvb2
  clear hob hcb
  obtain ⟨wb, hwb⟩ : ∃ wb, wb = wa.alloc (.cells #[.int .i64 1, .int .i64 0, .int .i64 2, .int .i64 5, .int .i64 2, .int .i64 0, .int .i64 1, .int .i64 20, .int .i64 3, .int .i64 0, .int .i64 1, .int .i64 3] 45) := ⟨_, rfl⟩
  replace HX : Hid (Ext w wb) := by rw [hwb]; exact HX.out.alloc HX.out.size _
  have HRA : Hid (RdP wb (some ⟨w.heap.size, 0, none⟩) 2 kL) := by rw [hwb]; exact hra.alloc' _
  have HRJ : Hid (RdQ wb (some ⟨w.heap.size + 1, 0, none⟩) 3 kJ) := by rw [hwb, ← hsz]; exact hrb
  clear hra hrb; rw [← hwb]; clear hwb
  go_wp2_with fail
  refine (fillNow _ _ 2 3 2 3 kL 0 kJ _ HRA.out HRJ.out (by omega) (by omega) (by omega) kJ_wf).mono ?_
  rintro e w1 ⟨A1, m1, c1, rfl, hr1, hx1⟩
  replace HX := Lib.hid (HX.out.trans' hx1)
  replace HRA := Lib.hid (HRA.out.ext hx1)
  replace HRJ := Lib.hid (HRJ.out.ext hx1)
  clear hx1
  rw [kE0.2] at hr1
  obtain rfl : m1 = 1 := (RdL.len hr1).symm
  have HI := Lib.hid hr1
  clear hr1
  rw [kE0.1]
  go_wp2_with fail
  refine (fillPlaces _ _ 2 3 2 3 kL 0 1 kJ _ HRA.out HRJ.out (by omega) (by omega) (by omega) kJ_wf (by omega)).mono ?_
  rintro e w2 ⟨A2, m2, c2, rfl, hr2, hc2, hx2⟩
  replace HX := Lib.hid (HX.out.trans' hx2)
  replace HRA := Lib.hid (HRA.out.ext hx2)
  replace HRJ := Lib.hid (HRJ.out.ext hx2)
  replace HI := Lib.hid (HI.out.ext hx2)
  clear hx2
  rw [kE1.2] at hr2
  obtain rfl : m2 = 2 := (RdL.len hr2).symm
  have HS := Lib.hid hr2
  clear hr2
  rw [kE1.1]
  go_wp2_with fail
  have hoc := own_lit w2 w2.heap.size 3 1 1 1 w2.heap.size #[.int .i64 2] (flat encI [2]) (Nat.le_refl _) rfl (by simp [maxLen]) rfl rfl rfl
  obtain ⟨Ac, cc, hvc, hcc, hrc⟩ := RdL.of_own encI_len hoc rfl
  injection hvc with hvc1 _ hvc2
  subst hvc1; subst hvc2
  clear hoc hcc
  obtain ⟨wc, hwc⟩ : ∃ wc, wc = w2.alloc (.cells #[.int .i64 2] 3) := ⟨_, rfl⟩
  replace HX : Hid (Ext w wc) := by rw [hwc]; exact HX.out.alloc HX.out.size _
  replace HI : Hid (RdI wc A1 1 [2]) := by rw [hwc]; exact HI.out.alloc' _
  replace HS : Hid (RdQ wc A2 2 [(1, 10, 15, 2), (2, 0, 20, 1)]) := by rw [hwc]; exact HS.out.alloc' _
  have HC : Hid (RdI wc (some ⟨w2.heap.size, 0, none⟩) 1 [2]) := by rw [hwc]; exact hrc
  rw [← hwc]; clear hrc hwc HRA HRJ
  refine (refSameIT _ _ _ _ _ _ _ _ HI.out HC.out (by omega) (by omega)).mono ?_
  rintro e w4 ⟨rfl, hx4⟩
  replace HX := Lib.hid (HX.out.trans' hx4)
  replace HS := Lib.hid (HS.out.ext hx4)
  clear hx4 HI HC
  go_wp2_with fail
  have hod := own_lit w4 w4.heap.size 57 4 2 2 w4.heap.size #[.int .i64 1, .int .i64 10, .int .i64 15, .int .i64 2, .int .i64 2, .int .i64 0, .int .i64 20, .int .i64 1] (flat encQ [(1, 10, 15, 2), (2, 0, 20, 1)]) (Nat.le_refl _) rfl (by simp [maxLen]) rfl rfl rfl
  obtain ⟨Ad, cd, hvd, hcd, hrd⟩ := RdL.of_own encQ_len hod rfl
  injection hvd with hvd1 _ hvd2
  subst hvd1; subst hvd2
  clear hod hcd
  obtain ⟨wd, hwd⟩ : ∃ wd, wd = w4.alloc (.cells #[.int .i64 1, .int .i64 10, .int .i64 15, .int .i64 2, .int .i64 2, .int .i64 0, .int .i64 20, .int .i64 1] 57) := ⟨_, rfl⟩
  replace HX : Hid (Ext w wd) := by rw [hwd]; exact HX.out.alloc HX.out.size _
  replace HS : Hid (RdQ wd A2 2 [(1, 10, 15, 2), (2, 0, 20, 1)]) := by rw [hwd]; exact HS.out.alloc' _
  have HC : Hid (RdQ wd (some ⟨w4.heap.size, 0, none⟩) 2 [(1, 10, 15, 2), (2, 0, 20, 1)]) := by rw [hwd]; exact hrd
  rw [← hwd]; clear hrd hwd
  refine (refSameST _ _ _ _ _ _ _ _ HS.out HC.out (by omega) (by omega)).mono ?_
  rintro e w5 ⟨rfl, hx5⟩
  replace HX := Lib.hid (HX.out.trans' hx5)
  clear hx5 HS HC
  go_wp2
  (try rw [Exit.noGoto_ret])
  go_ret
  exact ⟨rfl, HX.out⟩
end Go.Proofs.Ytbcpjdjlgmhohaa
