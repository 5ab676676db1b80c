/-
  Walk: what the chapter's example of layer 9 fixes. Conditions: none.
-/
import Derived.Test.YtggfepphjaohiaaWAdd
import Derived.Test.YtggfepphjaohiaaWLeast
import Derived.Test.YtggfepphjaohiaaWNew
import Derived.Test.YtggfepphjaohiaaWSame9
namespace Go.Proofs.Ytggfepphjaohiaa
open Go.RowKit
set_option linter.unusedVariables false
set_option linter.unusedSimpArgs false

theorem ext_undrew9 {a w : World} (h : Ext a.drew w) : Ext a w := ⟨h.os, h.tape, h.output, h.size, h.block⟩
def kA : List Stp := [(0, 4)]
def kB : List Stp := [(0, 4), (10, 1), (20, 4)]
theorem kA_prof : Prof kA := prof_of trivial ⟨4, rfl⟩ (by simp [kA]) (by decide)
theorem kB_prof : Prof kB := prof_of ⟨by decide, by decide, by decide, by decide, trivial⟩ ⟨4, rfl⟩ (by simp [kB]) (by decide)
theorem kA_free (x : Int) (h : 0 ≤ x) : freeT kA x = 4 := by simp [kA, freeT, h]
theorem kB_free (x : Int) (h : 0 ≤ x) : freeT kB x = if 20 ≤ x then 4 else if 10 ≤ x then 1 else 4 := by simp [kB, freeT, h]
theorem k_arg {l : List Stp} {f t k : Int} (hl : Prof l) (hf : 0 ≤ f) (hft : f ≤ t) (ht : t ≤ 1000) (hk : -10000 ≤ k ∧ k ≤ 10000) : AddArg l f t k := ⟨hl, by rw [isT_iff]; omega, by rw [isT_iff]; omega, hft, hk⟩
theorem k1 : addE kA 10 20 (-3) = 0 ∧ addR kA 10 20 (-3) = kB := by
  have h := add_ok (k_arg (f := 10) (t := 20) (k := -3) kA_prof (by omega) (by omega) (by omega) (by omega)) (fun x h1 h2 => by rw [kA_free x (by omega)]; omega)
  refine ⟨h.1, h.2.trans (addL_eq kA_prof (by omega) (by omega) kB_prof.norm kB_prof.starts fun x hx => ?_).symm⟩
  rw [kB_free x hx, gAdd, kA_free x hx]
  split
  · rw [if_neg (by omega)]; rfl
  · split
    · rw [if_pos (by omega)]; rfl
    · rw [if_neg (by omega)]; rfl
theorem k2 : addE kB 5 11 (-2) = 70 ∧ addR kB 5 11 (-2) = [] := add_full (k_arg kB_prof (by omega) (by omega) (by omega) (by omega)) fun h => by
  have := h 10 (by omega) (by omega)
  rw [kB_free 10 (by omega)] at this
  simp at this
theorem k3 : minF kB 0 10 = 4 := by decide
theorem k4 : minF kB 0 11 = 1 := by decide
theorem k_while {f t : Int} (hf : 0 ≤ f) (hft : f < t) (ht : t ≤ 1000) : While kB f t := ⟨kB_prof, by rw [isT_iff]; omega, by rw [isT_iff]; omega, hft⟩

set_option maxRecDepth 100000 in
set_option maxHeartbeats 4000000 in
theorem known9 (w : World) : Calls Try.prog 11 #[] w fun e w' => e = .returned (.bool true) ∧ Ext w w' := by
  go_enter Try.func11, Try.ntmps11
  have HX : Hid (Ext w w) := Ext.rfl'
  go_wp2_with fail
  refine (stepsNew 4 _ (by omega) (by omega)).mono ?_
  rintro e w1 ⟨A1, rfl, hr1, hx1⟩
  replace HX := Lib.hid (HX.out.trans' hx1)
  clear hx1
  have HRA : Hid (RdP w1 A1 1 kA) := hr1
  clear hr1
  go_wp2_with fail
  refine (stepsAdd A1 1 1 kA 10 20 (-3) _ HRA.out (by omega) (by omega)).mono ?_
  rintro e w2 ⟨A2, m2, c2, rfl, hr2, hc2, hx2⟩
  replace HX := Lib.hid (HX.out.trans' hx2)
  replace HRA := Lib.hid (HRA.out.ext hx2)
  clear hx2
  rw [k1.2] at hr2
  obtain rfl : m2 = 3 := (RdL.len hr2).symm
  have HRB := Lib.hid hr2
  have HCB := Lib.hid hc2
  clear hr2 hc2
  rw [k1.1]
  go_wp2_with fail
  refine (least_ok A2 3 c2 kB 0 10 _ HRB.out (k_while (by omega) (by omega) (by omega))).mono ?_
  rintro e w3 ⟨rfl, hx3⟩
  replace HX := Lib.hid (HX.out.trans' hx3)
  replace HRA := Lib.hid (HRA.out.ext hx3)
  replace HRB := Lib.hid (HRB.out.ext hx3)
  clear hx3
  rw [k3]
  go_wp2_with fail
  refine (least_ok A2 3 c2 kB 0 11 _ HRB.out (k_while (by omega) (by omega) (by omega))).mono ?_
  rintro e w4 ⟨rfl, hx4⟩
  replace HX := Lib.hid (HX.out.trans' hx4)
  replace HRA := Lib.hid (HRA.out.ext hx4)
  replace HRB := Lib.hid (HRB.out.ext hx4)
  clear hx4
  rw [k4]
  go_wp2_with fail
  refine (stepsAdd A2 3 c2 kB 5 11 (-2) _ HRB.out (by omega) HCB.out).mono ?_
  rintro e w5 ⟨A5, m5, c5, rfl, hr5, hc5, hx5⟩
  replace HX := Lib.hid (HX.out.trans' hx5)
  replace HRA := Lib.hid (HRA.out.ext hx5)
  replace HRB := Lib.hid (HRB.out.ext hx5)
  clear hx5
  clear hr5 hc5
  rw [k2.1]
  go_wp2_with fail
  have hown := own_lit w5 w5.heap.size 48 2 3 3 w5.heap.size #[.int .i64 0, .int .i64 4, .int .i64 10, .int .i64 1, .int .i64 20, .int .i64 4] (flat encP kB) (Nat.le_refl _) rfl (by simp [maxLen]) rfl rfl rfl
  obtain ⟨A', c', hv, hc', hr'⟩ := RdL.of_own encP_len hown rfl
  injection hv with hv1 _ hv2
  subst hv1; subst hv2
  refine (refSame9 _ _ _ _ _ _ kB kB _ (HRB.out.alloc' _) hr' (by omega) (by omega)).mono ?_
  rintro e w6 ⟨rfl, hx6⟩
  rw [sameL_t rfl]
  have HX6 : Hid (Ext w w6) := (HX.out.alloc HX.out.size _).trans (hx6.mono (by have := HX.out.size; simp; omega))
  clear hx6 hown hr'
  go_wp2
  (try rw [Exit.noGoto_ret])
  go_ret
  exact ⟨rfl, HX6.out⟩
end Go.Proofs.Ytggfepphjaohiaa
