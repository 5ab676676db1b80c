/-
  Walk: what the chapter's example fixes. Conditions: none.
-/
import Derived.Test.YtnilplnfomgleaaWFirst
import Derived.Test.YtnilplnfomgleaaWSame
namespace Go.Proofs.Ytnilplnfomgleaa
open Go.RowKit

theorem ext_undrew {a w : World} (h : Ext a.drew w) : Ext a w := ⟨h.os, h.tape, h.output, h.size, h.block⟩
def fourL : List Stp := [(0, 4), (10, 1), (20, 4)]
theorem four_prof : Prof fourL := by
  refine ⟨by decide, by decide, ?_, ?_⟩
  · intro a f h; simp [fourL] at h; omega
  · intro i hi a f h
    have : i = 0 ∨ i = 1 ∨ i = 2 := by have : fourL.length = 3 := rfl; omega
    rcases this with rfl | rfl | rfl
    · simp [fourL] at h; refine ⟨by omega, by omega, by omega, .inl rfl⟩
    · simp [fourL] at h; refine ⟨by omega, by omega, by omega, .inr fun a' f' h' => ?_⟩
      simp [fourL] at h'; omega
    · simp [fourL] at h; refine ⟨by omega, by omega, by omega, .inr fun a' f' h' => ?_⟩
      simp [fourL] at h'; omega
theorem four_req {n g : Int} (hn : 1 ≤ n ∧ n ≤ 10000) (hg : 0 ≤ g ∧ g ≤ 1099511627775) : Req fourL 5 40 n g :=
  ⟨four_prof, by simp [isT], by simp [isT], hn.1, hn.2, by simp [isT, hg]⟩
theorem four1 : firstR fourL 5 40 2 8 = (20, 0) := firstR_some (p := (20, 32)) (r := []) (four_req (by omega) (by omega)) (by decide)
theorem four2 : firstR fourL 5 40 2 5 = (5, 0) := firstR_some (p := (5, 5)) (r := [(20, 35)]) (four_req (by omega) (by omega)) (by decide)
theorem four3 : lastR fourL 5 40 2 5 = (35, 0) := lastR_some (p := (20, 35)) (four_req (by omega) (by omega)) (by decide)
theorem four4 : allF fourL 5 40 2 5 = [(5, 5), (20, 35)] := by decide
theorem four5 : firstR fourL 5 40 5 1 = (0, 70) := firstR_none (four_req (by omega) (by omega)) (by decide)

theorem fourW (w : World) : Calls Try.prog 23 #[] w (GivesP fourL w) := by
  go_enter Try.func23, Try.ntmps23
  go_wp2
  go_ret
  have hown := own_lit w w.heap.size 55 2 3 3 w.heap.size #[.int .i64 0, .int .i64 4, .int .i64 10, .int .i64 1, .int .i64 20, .int .i64 4] (flat encP fourL) (Nat.le_refl _) rfl (by simp [maxLen]) rfl rfl rfl
  obtain ⟨A', c', hv, hc', hr'⟩ := RdL.of_own encP_len hown rfl
  injection hv with hv1 _ hv2
  subst hv1; subst hv2
  exact ⟨_, _, _, rfl, hr', (Below.refl _ _).alloc (Nat.le_refl _) _⟩

set_option maxRecDepth 100000 in
set_option maxHeartbeats 2000000 in
theorem knownW (w : World) : Calls Try.prog 10 #[] w fun e w' => e = .returned (.bool true) ∧ Ext w w' := by
  go_enter Try.func10, Try.ntmps10
  go_wp2
  obtain ⟨w0, hw0⟩ : ∃ w0 : World, w0 = w.alloc (.cells #[.int .i64 5, .int .i64 40] 24) := ⟨_, rfl⟩
  have c0 : w0.cell? ⟨w.heap.size, 0, none⟩ = some (.int .i64 5) := by rw [hw0]; simp [go_sem]
  have c1 : w0.cell? ⟨w.heap.size, 1, none⟩ = some (.int .i64 40) := by rw [hw0]; simp [go_sem]
  have HX : Hid (Ext w w0) := by show Ext _ _; rw [hw0]; exact (Below.refl _ _).alloc (Nat.le_refl _) _
  rw [← hw0]
  clear hw0
  go_region_held3 (fun w' => w'.cell? ⟨w.heap.size, 0, none⟩ = some (.int .i64 5) ∧ w'.cell? ⟨w.heap.size, 1, none⟩ = some (.int .i64 40))
    (first | go_keep | exact ⟨hxA.cell' c0, hxA.cell' c1⟩ | exact ⟨hxB.cell' (hxA.cell' c0), hxB.cell' (hxA.cell' c1)⟩)
    (first
      | (go_at_call 23; refine (fourW _).mono ?_; rintro e wA ⟨A, m, c, rfl, hrA, hxA⟩; obtain rfl : m = 3 := (RdL.len hrA).symm)
      | (go_at_call 11; refine (fitFirst _ _ _ fourL 5 40 2 8 _ hrA (by omega)).mono ?_; rintro e w1 ⟨rfl, hxB⟩; rw [four1]))
  replace hxA := ext_undrew hxA
  replace c0 := hxB.cell' (hxA.cell' c0)
  replace c1 := hxB.cell' (hxA.cell' c1)
  replace HX : Hid (Ext w w1) := (HX.out.trans' hxA).trans' hxB
  skip
  clear hrA hxA hxB
  go_wp2
  go_region_held3 (fun w' => w'.cell? ⟨w.heap.size, 0, none⟩ = some (.int .i64 5) ∧ w'.cell? ⟨w.heap.size, 1, none⟩ = some (.int .i64 40))
    (first | go_keep | exact ⟨hxA.cell' c0, hxA.cell' c1⟩ | exact ⟨hxB.cell' (hxA.cell' c0), hxB.cell' (hxA.cell' c1)⟩)
    (first
      | (go_at_call 23; refine (fourW _).mono ?_; rintro e wA ⟨A, m, c, rfl, hrA, hxA⟩; obtain rfl : m = 3 := (RdL.len hrA).symm)
      | (go_at_call 11; refine (fitFirst _ _ _ fourL 5 40 2 5 _ hrA (by omega)).mono ?_; rintro e w2 ⟨rfl, hxB⟩; rw [four2]))
  replace hxA := ext_undrew hxA
  replace c0 := hxB.cell' (hxA.cell' c0)
  replace c1 := hxB.cell' (hxA.cell' c1)
  replace HX : Hid (Ext w w2) := (HX.out.trans' hxA).trans' hxB
  skip
  clear hrA hxA hxB
  go_wp2
  go_region_held3 (fun w' => w'.cell? ⟨w.heap.size, 0, none⟩ = some (.int .i64 5) ∧ w'.cell? ⟨w.heap.size, 1, none⟩ = some (.int .i64 40))
    (first | go_keep | exact ⟨hxA.cell' c0, hxA.cell' c1⟩ | exact ⟨hxB.cell' (hxA.cell' c0), hxB.cell' (hxA.cell' c1)⟩)
    (first
      | (go_at_call 23; refine (fourW _).mono ?_; rintro e wA ⟨A, m, c, rfl, hrA, hxA⟩; obtain rfl : m = 3 := (RdL.len hrA).symm)
      | (go_at_call 12; refine (fitLast _ _ _ fourL 5 40 2 5 _ hrA (by omega)).mono ?_; rintro e w3 ⟨rfl, hxB⟩; rw [four3]))
  replace hxA := ext_undrew hxA
  replace c0 := hxB.cell' (hxA.cell' c0)
  replace c1 := hxB.cell' (hxA.cell' c1)
  replace HX : Hid (Ext w w3) := (HX.out.trans' hxA).trans' hxB
  skip
  clear hrA hxA hxB
  go_wp2
  go_region_held3 (fun w' => w'.cell? ⟨w.heap.size, 0, none⟩ = some (.int .i64 5) ∧ w'.cell? ⟨w.heap.size, 1, none⟩ = some (.int .i64 40))
    (first | go_keep | exact ⟨hxA.cell' c0, hxA.cell' c1⟩ | exact ⟨hxB.cell' (hxA.cell' c0), hxB.cell' (hxA.cell' c1)⟩)
    (first
      | (go_at_call 23; refine (fourW _).mono ?_; rintro e wA ⟨A, m, c, rfl, hrA, hxA⟩; obtain rfl : m = 3 := (RdL.len hrA).symm)
      | (go_at_call 16; refine (fitAll _ _ _ fourL 5 40 2 5 _ hrA (by omega) (four_req (by omega) (by omega))).mono ?_; rintro e w4 ⟨A4, m4, c4, rfl, hr4, hxB⟩; rw [four4] at hr4))
  replace hxA := ext_undrew hxA
  replace c0 := hxB.cell' (hxA.cell' c0)
  replace c1 := hxB.cell' (hxA.cell' c1)
  replace HX : Hid (Ext w w4) := (HX.out.trans' hxA).trans' hxB
  skip
  clear hrA hxA hxB
  go_wp2
  go_region_held3 (fun w' => w'.cell? ⟨w.heap.size, 0, none⟩ = some (.int .i64 5) ∧ w'.cell? ⟨w.heap.size, 1, none⟩ = some (.int .i64 40))
    (first | go_keep | exact ⟨hxA.cell' c0, hxA.cell' c1⟩ | exact ⟨hxB.cell' (hxA.cell' c0), hxB.cell' (hxA.cell' c1)⟩)
    (first
      | (go_at_call 23; refine (fourW _).mono ?_; rintro e wA ⟨A, m, c, rfl, hrA, hxA⟩; obtain rfl : m = 3 := (RdL.len hrA).symm)
      | (go_at_call 11; refine (fitFirst _ _ _ fourL 5 40 5 1 _ hrA (by omega)).mono ?_; rintro e w5 ⟨rfl, hxB⟩; rw [four5]))
  replace hxA := ext_undrew hxA
  replace c0 := hxB.cell' (hxA.cell' c0)
  replace c1 := hxB.cell' (hxA.cell' c1)
  replace HX : Hid (Ext w w5) := (HX.out.trans' hxA).trans' hxB
  replace hr4 := (hr4.ext hxA).ext hxB
  clear hrA hxA hxB
  go_wp2_with fail
  have hown := own_lit w5 w5.heap.size 24 2 2 2 w5.heap.size #[.int .i64 5, .int .i64 5, .int .i64 20, .int .i64 35] (flat encP [(5, 5), (20, 35)]) (Nat.le_refl _) rfl (by simp [maxLen]) rfl rfl rfl
  obtain ⟨A', c', hv, hc', hr'⟩ := RdL.of_own encP_len hown rfl
  injection hv with hv1 _ hv2
  subst hv1; subst hv2
  obtain rfl : m4 = 2 := (RdL.len hr4).symm
  refine (refSameW _ _ _ _ _ _ [(5, 5), (20, 35)] [(5, 5), (20, 35)] _ (hr4.alloc' _) hr' (by omega) (by omega)).mono ?_
  rintro e w6 ⟨rfl, hx6⟩
  rw [sameL_t rfl]
  go_wp2
  go_ret
  exact ⟨rfl, (HX.out.alloc HX.out.size _).trans (hx6.mono (by have := HX.out.size; simp; omega))⟩
end Go.Proofs.Ytnilplnfomgleaa
