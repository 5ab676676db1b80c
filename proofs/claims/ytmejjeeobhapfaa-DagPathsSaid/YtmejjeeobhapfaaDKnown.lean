/-
  Walk: what the chapter's example fixes. Conditions: none.
-/
import Derived.Test.YtmejjeeobhapfaaDKnownP
namespace Go.Proofs.Ytmejjeeobhapfaa
open Go.RowKit
set_option linter.unusedVariables false
set_option linter.unusedSimpArgs false

theorem rdI_lit (w : World) (l : List Int) {cs : Array Value} (hcs : cs = (l.map (Value.int .i64)).toArray) {n : Nat} (hn : n = l.length) (hm : n ≤ 100) : RdI (w.alloc (.cells cs 3)) (some ⟨w.heap.size, 0, none⟩) n l := by
  subst hn; subst hcs
  have h := own_lit w w.heap.size 3 1 l.length l.length w.heap.size (l.map (Value.int .i64)).toArray (flat encI l) (Nat.le_refl _) (by simp) (by simp only [maxLen]; omega) rfl rfl (by rw [flat_encI])
  obtain ⟨A, c, hv, _, hr⟩ := OI.slice (l := l) h
  injection hv with hv _ _
  rw [hv]; exact hr
theorem rdLL_lit {w : World} {rows : List (Nat × List Int)} (h : ∀ r ∈ rows, RdI w (some ⟨r.1, 0, none⟩) r.2.length r.2) {cs : Array Value} (hcs : cs = (rows.map fun r => Value.slice (some ⟨r.1, 0, none⟩) r.2.length r.2.length).toArray) {ls : List (List Int)} (hls : ls = rows.map (·.2)) {n : Nat} (hn : n = rows.length) :
    RdLL (fun _ => True) (w.alloc (.cells cs 23)) (some ⟨w.heap.size, 0, none⟩) n ls := by
  subst hcs; subst hls; subst hn
  refine ⟨by simp, fun i l hl => ?_⟩
  rw [List.getElem?_map] at hl
  cases hi : rows[i]? with
  | none => rw [hi] at hl; cases hl
  | some r =>
    rw [hi] at hl; cases hl
    have hr := (h r (List.mem_of_getElem? hi)).alloc' (.cells (rows.map fun r => Value.slice (some ⟨r.1, 0, none⟩) r.2.length r.2.length).toArray 23)
    refine ⟨w.heap.size, 0, some ⟨r.1, 0, none⟩, r.2.length, rfl, by simp, trivial, ?_, Nat.le_refl _, fun j x hx => ?_⟩
    · rw [World.cell?, heap_alloc_new w _]
      simp [hi]
    · obtain ⟨b, off, a, hA, hb, ha, hc⟩ := RdI.cut hr (k := j) (List.getElem?_eq_some_iff.1 hx).1
      rw [hx] at ha; cases ha
      exact ⟨b, off, hA, hb, trivial, hc⟩
theorem rngs_ex0 : ∀ l ∈ ex0, l.length ≤ 100 ∧ Rng 5 l := by
  have h : ∀ l ∈ ex0, l.length ≤ 100 ∧ ∀ x ∈ l, 0 ≤ x ∧ x < ((5 : Nat) : Int) := by decide
  exact h
theorem rngs_beh : ∀ l ∈ ([[3], [2, 4], [3], [], []] : List (List Int)), l.length ≤ 100 ∧ Rng 5 l := by
  have h : ∀ l ∈ ([[3], [2, 4], [3], [], []] : List (List Int)), l.length ≤ 100 ∧ ∀ x ∈ l, 0 ≤ x ∧ x < ((5 : Nat) : Int) := by decide
  exact h
theorem rng_ord : Rng 5 [0, 1, 2, 3, 4] := by
  have h : ∀ x ∈ ([0, 1, 2, 3, 4] : List Int), 0 ≤ x ∧ x < ((5 : Nat) : Int) := by decide
  exact h
def KnownMid (w w' : World) (gb : Nat) : Prop := Ext w w' ∧ GAt w' gb 5 (befG ex0) (behG ex0) (ordG ex0)
set_option maxRecDepth 100000 in
set_option maxHeartbeats 2000000 in
theorem knownW (w : World) : Calls Try.prog 10 #[] w fun e w' => e = .returned (.bool true) ∧ Ext w w' := by
  go_enter Try.func10, Try.ntmps10
  go_wp2_with fail
  have hr5 : RdLL (fun _ => True) ((((((w.alloc (.cells #[] 3)).alloc (.cells #[] 3)).alloc (.cells #[.int .i64 1] 3)).alloc (.cells #[.int .i64 0, .int .i64 2] 3)).alloc (.cells #[.int .i64 1] 3)).alloc
      (.cells #[.slice (some ⟨w.heap.size, 0, none⟩) 0 0, .slice (some ⟨w.heap.size + 1, 0, none⟩) 0 0, .slice (some ⟨w.heap.size + 1 + 1, 0, none⟩) 1 1, .slice (some ⟨w.heap.size + 1 + 1 + 1, 0, none⟩) 2 2, .slice (some ⟨w.heap.size + 1 + 1 + 1 + 1, 0, none⟩) 1 1] 23))
      (some ⟨w.heap.size + 1 + 1 + 1 + 1 + 1, 0, none⟩) 5 ex0 := by
    have a1 := rdI_lit w [] (cs := #[]) rfl (n := 0) rfl (by omega)
    have a2 := rdI_lit (w.alloc (.cells #[] 3)) [] (cs := #[]) rfl (n := 0) rfl (by omega)
    have a3 := rdI_lit ((w.alloc (.cells #[] 3)).alloc (.cells #[] 3)) [1] (cs := #[.int .i64 1]) rfl (n := 1) rfl (by omega)
    have a4 := rdI_lit (((w.alloc (.cells #[] 3)).alloc (.cells #[] 3)).alloc (.cells #[.int .i64 1] 3)) [0, 2] (cs := #[.int .i64 0, .int .i64 2]) rfl (n := 2) rfl (by omega)
    have a5 := rdI_lit ((((w.alloc (.cells #[] 3)).alloc (.cells #[] 3)).alloc (.cells #[.int .i64 1] 3)).alloc (.cells #[.int .i64 0, .int .i64 2] 3)) [1] (cs := #[.int .i64 1]) rfl (n := 1) rfl (by omega)
    simp only [World.size_alloc] at a2 a3 a4 a5
    have := rdLL_lit (w := (((((w.alloc (.cells #[] 3)).alloc (.cells #[] 3)).alloc (.cells #[.int .i64 1] 3)).alloc (.cells #[.int .i64 0, .int .i64 2] 3)).alloc (.cells #[.int .i64 1] 3)))
      (rows := [(w.heap.size, []), (w.heap.size + 1, []), (w.heap.size + 1 + 1, [1]), (w.heap.size + 1 + 1 + 1, [0, 2]), (w.heap.size + 1 + 1 + 1 + 1, [1])]) (fun r hr => by
        simp only [List.mem_cons, List.not_mem_nil, or_false] at hr
        rcases hr with rfl | rfl | rfl | rfl | rfl
        · exact (((a1.alloc' _).alloc' _).alloc' _).alloc' _
        · exact ((a2.alloc' _).alloc' _).alloc' _
        · exact (a3.alloc' _).alloc' _
        · exact a4.alloc' _
        · exact a5) (cs := #[.slice (some ⟨w.heap.size, 0, none⟩) 0 0, .slice (some ⟨w.heap.size + 1, 0, none⟩) 0 0, .slice (some ⟨w.heap.size + 1 + 1, 0, none⟩) 1 1, .slice (some ⟨w.heap.size + 1 + 1 + 1, 0, none⟩) 2 2, .slice (some ⟨w.heap.size + 1 + 1 + 1 + 1, 0, none⟩) 1 1]) rfl (ls := ex0) rfl (n := 5) rfl
    simpa only [World.size_alloc] using this
  have hx6 : Ext w ((((((w.alloc (.cells #[] 3)).alloc (.cells #[] 3)).alloc (.cells #[.int .i64 1] 3)).alloc (.cells #[.int .i64 0, .int .i64 2] 3)).alloc (.cells #[.int .i64 1] 3)).alloc
      (.cells #[.slice (some ⟨w.heap.size, 0, none⟩) 0 0, .slice (some ⟨w.heap.size + 1, 0, none⟩) 0 0, .slice (some ⟨w.heap.size + 1 + 1, 0, none⟩) 1 1, .slice (some ⟨w.heap.size + 1 + 1 + 1, 0, none⟩) 2 2, .slice (some ⟨w.heap.size + 1 + 1 + 1 + 1, 0, none⟩) 1 1] 23)) :=
    (((((Ext.rfl'.alloc (by simp) _).alloc (by first | (simp; done) | (simp; omega)) _).alloc (by first | (simp; done) | (simp; omega)) _).alloc (by first | (simp; done) | (simp; omega)) _).alloc (by first | (simp; done) | (simp; omega)) _).alloc (by first | (simp; done) | (simp; omega)) _
  refine (newW _ 5 5 ex0 _ hr5 (by omega) (by decide)).mono ?_
  rintro e w1 ⟨hx1, h | h | ⟨_, gb, rfl, hg⟩⟩
  · exact absurd h.1 (by rw [ok_ex0.1]; simp)
  · exact absurd ok_ex0.2 h.2.1
  have HM1 : Hid (KnownMid w w1 gb) := ⟨hx6.trans' hx1, hg⟩
  clear hx1 hx6 hr5 hg
  go_wp2_with fail
  have hr2 : RdLL (fun _ => True) ((w1.alloc (.cells #[.int .i64 0] 3)).alloc (.cells #[.slice (some ⟨w1.heap.size, 0, none⟩) 1 1] 23)) (some ⟨w1.heap.size + 1, 0, none⟩) 1 ex1 := by
    have a1 := rdI_lit w1 [0] (cs := #[.int .i64 0]) rfl (n := 1) rfl (by omega)
    have := rdLL_lit (w := w1.alloc (.cells #[.int .i64 0] 3)) (rows := [(w1.heap.size, [0])]) (fun r hr => by simp only [List.mem_singleton] at hr; subst hr; exact a1) (cs := #[.slice (some ⟨w1.heap.size, 0, none⟩) 1 1]) rfl (ls := ex1) rfl (n := 1) rfl
    simpa only [World.size_alloc] using this
  have hx2 : Ext w1 ((w1.alloc (.cells #[.int .i64 0] 3)).alloc (.cells #[.slice (some ⟨w1.heap.size, 0, none⟩) 1 1] 23)) := (Ext.rfl'.alloc (by simp) _).alloc (by simp) _
  refine (newW _ 1 1 ex1 _ hr2 (by omega) (by decide)).mono ?_
  rintro e w2 ⟨hx3, h | ⟨_, _, rfl⟩ | ⟨h, _⟩⟩
  · exact absurd h.1 (by decide)
  rotate_left
  · exact absurd h.2 (by rw [ord_ex1]; decide)
  have HM2 : Hid (KnownMid w w2 gb) := ⟨HM1.out.1.trans' (hx2.trans' hx3), HM1.out.2.ext (hx2.trans' hx3)⟩
  clear hx2 hx3 hr2 HM1
  go_wp2_with fail
  refine (orderG gb 5 _ _ _ w2 HM2.out.2 (by rw [ord_ex0]; decide)).mono ?_
  rintro e w3 ⟨v3, rfl, ho3, hx3⟩
  rw [ord_ex0] at ho3
  obtain ⟨A3, c3, rfl, _, hr3⟩ := ho3.slice
  have HR3 := Lib.hid hr3
  have HM3 : Hid (KnownMid w w3 gb) := ⟨HM2.out.1.trans' hx3, HM2.out.2.ext hx3⟩
  clear ho3 hr3 hx3 HM2
  go_wp2_with fail
  refine (refSameIT A3 (some ⟨w3.heap.size, 0, none⟩) 5 c3 5 5 [0, 1, 2, 3, 4] _ (HR3.out.alloc' _) (rdI_lit w3 [0, 1, 2, 3, 4] rfl rfl (by omega)) (by omega) (by omega)).mono ?_
  rintro e w4 ⟨rfl, hx4⟩
  have HX4 : Ext w3 w4 := Ext.trans' ((Ext.rfl' (w := w3)).alloc (Nat.le_refl _) _) hx4
  have HM4 : Hid (KnownMid w w4 gb) := ⟨HM3.out.1.trans' HX4, HM3.out.2.ext HX4⟩
  clear hx4 HX4 HM3 HR3
  go_wp2_with fail
  refine (levelsW gb 5 _ _ _ w4 HM4.out.2 (by omega) (by rw [bef_ex0]; exact rngs_ex0) (by rw [ord_ex0]; exact rng_ord) (by rw [ord_ex0]; decide)).mono ?_
  rintro e w5 ⟨A5, c5, rfl, hr5, hx5⟩
  rw [lev_ex0] at hr5
  have HR5 := Lib.hid hr5
  have HM5 : Hid (KnownMid w w5 gb) := ⟨HM4.out.1.trans' hx5, HM4.out.2.ext hx5⟩
  rw [lev_ex0]
  clear hr5 hx5 HM4
  go_wp2_with fail
  have hr6 : RdLL (fun _ => True) ((((w5.alloc (.cells #[.int .i64 0, .int .i64 1] 3)).alloc (.cells #[.int .i64 2, .int .i64 4] 3)).alloc (.cells #[.int .i64 3] 3)).alloc
      (.cells #[.slice (some ⟨w5.heap.size, 0, none⟩) 2 2, .slice (some ⟨w5.heap.size + 1, 0, none⟩) 2 2, .slice (some ⟨w5.heap.size + 1 + 1, 0, none⟩) 1 1] 23)) (some ⟨w5.heap.size + 1 + 1 + 1, 0, none⟩) 3 [[0, 1], [2, 4], [3]] := by
    have a1 := rdI_lit w5 [0, 1] (cs := #[.int .i64 0, .int .i64 1]) rfl (n := 2) rfl (by omega)
    have a2 := rdI_lit (w5.alloc (.cells #[.int .i64 0, .int .i64 1] 3)) [2, 4] (cs := #[.int .i64 2, .int .i64 4]) rfl (n := 2) rfl (by omega)
    have a3 := rdI_lit ((w5.alloc (.cells #[.int .i64 0, .int .i64 1] 3)).alloc (.cells #[.int .i64 2, .int .i64 4] 3)) [3] (cs := #[.int .i64 3]) rfl (n := 1) rfl (by omega)
    simp only [World.size_alloc] at a2 a3
    have := rdLL_lit (w := (((w5.alloc (.cells #[.int .i64 0, .int .i64 1] 3)).alloc (.cells #[.int .i64 2, .int .i64 4] 3)).alloc (.cells #[.int .i64 3] 3)))
      (rows := [(w5.heap.size, [0, 1]), (w5.heap.size + 1, [2, 4]), (w5.heap.size + 1 + 1, [3])]) (fun r hr => by
        simp only [List.mem_cons, List.not_mem_nil, or_false] at hr
        rcases hr with rfl | rfl | rfl
        · exact (a1.alloc' _).alloc' _
        · exact a2.alloc' _
        · exact a3) (cs := #[.slice (some ⟨w5.heap.size, 0, none⟩) 2 2, .slice (some ⟨w5.heap.size + 1, 0, none⟩) 2 2, .slice (some ⟨w5.heap.size + 1 + 1, 0, none⟩) 1 1]) rfl (ls := [[0, 1], [2, 4], [3]]) rfl (n := 3) rfl
    simpa only [World.size_alloc] using this
  have hx6 : Ext w5 ((((w5.alloc (.cells #[.int .i64 0, .int .i64 1] 3)).alloc (.cells #[.int .i64 2, .int .i64 4] 3)).alloc (.cells #[.int .i64 3] 3)).alloc
      (.cells #[.slice (some ⟨w5.heap.size, 0, none⟩) 2 2, .slice (some ⟨w5.heap.size + 1, 0, none⟩) 2 2, .slice (some ⟨w5.heap.size + 1 + 1, 0, none⟩) 1 1] 23)) :=
    (((Ext.rfl'.alloc (by simp) _).alloc (by first | (simp; done) | (simp; omega)) _).alloc (by first | (simp; done) | (simp; omega)) _).alloc (by first | (simp; done) | (simp; omega)) _
  refine (refSameLT A5 (some ⟨w5.heap.size + 1 + 1 + 1, 0, none⟩) 3 c5 3 [[0, 1], [2, 4], [3]] _ (HR5.out.ext hx6) hr6 (by omega) (by decide)).mono ?_
  rintro e w6 ⟨rfl, hx7⟩
  have HM6 : Hid (KnownMid w w6 gb) := ⟨HM5.out.1.trans' (hx6.trans' hx7), HM5.out.2.ext (hx6.trans' hx7)⟩
  clear hr6 hx6 hx7 HM5 HR5
  go_wp2_with fail
  have hx8 : Ext w6 (w6.alloc (.cells #[.int .i64 1] 3)) := Ext.rfl'.alloc (Nat.le_refl _) _
  refine (belowG gb 5 1 1 (some ⟨w6.heap.size, 0, none⟩) _ _ _ [1] _ (HM6.out.2.ext hx8) (rdI_lit w6 [1] rfl rfl (by omega)) (by omega) (by omega) (by rw [beh_ex0]; exact rngs_beh)).mono ?_
  rintro e w7 ⟨v7, rfl, ho7, hx9⟩
  rw [clo_ex0] at ho7
  obtain ⟨A7, c7, rfl, _, hr7⟩ := ho7.slice
  have HR7 := Lib.hid hr7
  have HM7 : Hid (KnownMid w w7 gb) := ⟨HM6.out.1.trans' (hx8.trans' hx9), HM6.out.2.ext (hx8.trans' hx9)⟩
  clear ho7 hr7 hx8 hx9 HM6
  go_wp2_with fail
  refine (refSameIT A7 (some ⟨w7.heap.size, 0, none⟩) 3 c7 3 3 [2, 3, 4] _ (HR7.out.alloc' _) (rdI_lit w7 [2, 3, 4] rfl rfl (by omega)) (by omega) (by omega)).mono ?_
  rintro e w8 ⟨rfl, hx4⟩
  have HX8 : Ext w7 w8 := Ext.trans' ((Ext.rfl' (w := w7)).alloc (Nat.le_refl _) _) hx4
  have HM8 : Hid (KnownMid w w8 gb) := ⟨HM7.out.1.trans' HX8, HM7.out.2.ext HX8⟩
  clear hx4 HX8 HM7 HR7
  go_wp2_with fail
  refine (lenNil w8).mono ?_
  rintro e w9 ⟨rfl, rfl⟩
  go_wp2
  (try rw [Exit.noGoto_ret])
  go_ret
  exact ⟨rfl, HM8.out.1⟩
end Go.Proofs.Ytmejjeeobhapfaa
