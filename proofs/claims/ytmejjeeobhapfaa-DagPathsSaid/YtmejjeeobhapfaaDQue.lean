/-
  Words for a row of numbers of one's own that is cut in front and appended to: a queue. Conditions: none.
-/
import Derived.Test.YtmejjeeobhapfaaDBfsP
import Derived.ArgAppend
import Derived.Laws.IdiomCopy
namespace Go.Proofs.Ytmejjeeobhapfaa
open Go.RowKit
set_option linter.unusedVariables false

/-- a queue of one's own, not in block N -/
def OQ (w : World) (base N : Nat) (v : Value) (T : List Int) : Prop :=
  ∃ g off cap, v = .slice (some ⟨g, off, none⟩) T.length cap ∧ base ≤ g ∧ g ≠ N ∧ T.length ≤ cap ∧ (∀ j x, T[j]? = some x → w.cell? ⟨g, off + j, none⟩ = some (.int .i64 x)) ∧
    ∀ j, j < cap → (w.cell? ⟨g, off + j, none⟩).isSome = true ∧ w.frozen? ⟨g, off + j, none⟩ = false
section
variable {S : List Nat} {w w' : World} {base N : Nat} {v : Value} {T : List Int}
theorem OQ.mod (h : OQ w base N v T) (m : Mod S w w') (hS : ∀ s ∈ S, s = N) : OQ w' base N v T := by
  obtain ⟨g, off, cap, hv, hb, hn, hl, hc, ht⟩ := h
  have hg : ∀ j, (w.cell? ⟨g, off + j, none⟩).isSome = true → w'.heap[g]? = w.heap[g]? := fun j hj => by
    obtain ⟨u, hu⟩ := Option.isSome_iff_exists.1 hj
    exact m.block g (World.block_lt_of_cell? w ⟨g, off + j, none⟩ hu) (fun hs => hn (hS g hs))
  refine ⟨g, off, cap, hv, hb, hn, hl, fun j x hx => ?_, fun j hj => ?_⟩
  · have h1 := hc j x hx
    exact (World.cell?_of_block (a := ⟨g, off + j, none⟩) (hg j (by rw [h1]; rfl))).trans h1
  · have h1 := ht j hj
    exact ⟨by rw [World.cell?_of_block (a := ⟨g, off + j, none⟩) (hg j h1.1)]; exact h1.1, (World.frozen?_of_block (a := ⟨g, off + j, none⟩) (hg j h1.1)).trans h1.2⟩
theorem OQ.of_own {k : Nat} {xs : List Value} (h : w.ownsRow base 3 1 v k xs) (hk : T.length = k) (h0 : 0 < k) (hx : xs = T.map (Value.int .i64)) (hN : N < base) : OQ w base N v T := by
  subst hk; subst hx
  rcases h.2 with ⟨_, h1⟩ | ⟨g, cap, cur, rfl, hb, hg, hn, hm, hs, ht⟩
  · omega
  refine ⟨g, 0, cap, rfl, hb, by omega, hn, fun j x hj => ?_, fun j hj => ?_⟩
  · have hjl : j < T.length := (List.getElem?_eq_some_iff.1 hj).1
    rw [Nat.zero_add, h.cellAt j (by omega), List.getElem?_map, hj]; rfl
  · refine ⟨?_, by rw [Nat.zero_add]; exact h.frozenAt j⟩
    rw [Nat.zero_add, cell_of_row w g j cur _ (0, 0) hg, Array.getElem?_eq_getElem (by omega)]; rfl
theorem OQ.room {g off q cap : Nat} {x : Int} (h : OQ w base N (.slice (some ⟨g, off, none⟩) q cap) T) (hq : T.length = q) (hr : q + 1 ≤ cap) : OQ (w.setCell ⟨g, off + q, none⟩ (.int .i64 x)) base N (.slice (some ⟨g, off, none⟩) (q + 1) cap) (T ++ [x]) := by
  obtain ⟨g', off', cap', hv, hb, hn, hl, hc, ht⟩ := h
  injection hv with h1 h2 h3
  injection h1 with h1
  injection h1 with h1 h4 _
  subst h1; subst h3; subst h4
  have hT := h2
  refine ⟨g, off, cap, by rw [List.length_append, hq]; rfl, hb, hn, by rw [List.length_append]; simp; omega, fun j y hj => ?_, fun j hj => ⟨?_, by rw [World.frozen?_setCell]; exact (ht j hj).2⟩⟩
  · by_cases he : j = q
    · subst he
      rw [List.getElem?_append_right (by omega), hq, Nat.sub_self] at hj
      simp at hj
      subst hj
      exact World.cell?_setCell_same' w _ _ (ht j (by omega)).1
    · have hjT : j < T.length := by
        have := (List.getElem?_eq_some_iff.1 hj).1
        rw [List.length_append] at this; simp at this; omega
      rw [List.getElem?_append_left hjT] at hj
      rw [World.cell?_setCell_other _ _ _ _ (by intro e; injection e with _ e _; omega)]
      exact hc j y hj
  · by_cases he : j = q
    · subst he; rw [World.cell?_setCell_same' w _ _ (ht j hj).1]; rfl
    · rw [World.cell?_setCell_other _ _ _ _ (by intro e; injection e with _ e _; omega)]; exact (ht j hj).1
theorem OQ.tail {g off q cap : Nat} {x : Int} (h : OQ w base N (.slice (some ⟨g, off, none⟩) q cap) (x :: T)) : OQ w base N (.slice (if cap = 1 then some ⟨g, off, none⟩ else some ⟨g, off + 1, none⟩) (q - 1) (cap - 1)) T := by
  obtain ⟨g', off', cap', hv, hb, hn, hl, hc, ht⟩ := h
  injection hv with h1 h2 h3
  injection h1 with h1
  injection h1 with h1 h4 _
  subst h1; subst h3; subst h4
  rw [List.length_cons] at h2 hl
  have e : q - 1 = T.length := by omega
  rw [e]
  by_cases hc1 : cap = 1
  · subst hc1
    rw [if_pos rfl]
    have : T = [] := List.length_eq_zero_iff.1 (by omega)
    subst this
    exact ⟨g, off, 0, rfl, hb, hn, Nat.le_refl _, fun j x hj => by simp at hj, fun j hj => by omega⟩
  · rw [if_neg hc1]
    refine ⟨g, off + 1, cap - 1, rfl, hb, hn, by omega, fun j y hj => ?_, fun j hj => ?_⟩
    · have := hc (j + 1) y (by simpa using hj)
      rwa [show off + (j + 1) = off + 1 + j by omega] at this
    · have := ht (j + 1) (by omega)
      rwa [show off + (j + 1) = off + 1 + j by omega] at this
theorem OQ.open_ (h : OQ w base N v T) : ∃ g off cap, v = .slice (some ⟨g, off, none⟩) T.length cap ∧ base ≤ g ∧ T.length ≤ cap ∧ (∀ j x, T[j]? = some x → w.cell? ⟨g, off + j, none⟩ = some (.int .i64 x)) ∧
    ∀ j, j < cap → (w.cell? ⟨g, off + j, none⟩).isSome = true ∧ w.frozen? ⟨g, off + j, none⟩ = false := by
  obtain ⟨g, off, cap, hv, hb, _, hl, hc, ht⟩ := h
  exact ⟨g, off, cap, hv, hb, hl, hc, ht⟩
theorem OQ.cells {g off q cap : Nat} (h : OQ w base N (.slice (some ⟨g, off, none⟩) q cap) T) : T.length = q ∧ q ≤ cap ∧ (∀ j x, T[j]? = some x → w.cell? ⟨g, off + j, none⟩ = some (.int .i64 x)) ∧
    ∀ j, j < cap → (w.cell? ⟨g, off + j, none⟩).isSome = true ∧ w.frozen? ⟨g, off + j, none⟩ = false := by
  obtain ⟨g', off', cap', hv, hb, _, hl, hc, ht⟩ := h
  injection hv with h1 h2 h3
  injection h1 with h1
  injection h1 with h1 h4 _
  subst h1; subst h3; subst h4; subst h2
  exact ⟨rfl, hl, hc, ht⟩
end
theorem OQ.lit (w : World) {base N : Nat} {x : Int} (hN : N < w.heap.size) (hb : base ≤ w.heap.size) : OQ (w.alloc (.cells #[.int .i64 x] 3)) base N (.slice (some ⟨w.heap.size, 0, none⟩) 1 1) [x] := by
  have h := own_lit w w.heap.size 3 1 1 1 w.heap.size #[.int .i64 x] [.int .i64 x] (Nat.le_refl _) rfl (by simp only [maxLen]; omega) rfl rfl rfl
  obtain ⟨g, off, cap, hv, hb', hn, hr⟩ := OQ.of_own (T := [x]) (N := N) h rfl (by omega) rfl hN
  exact ⟨g, off, cap, hv, Nat.le_trans hb hb', hn, hr⟩
/-- The memory of the search. -/
structure PSt (w wr : World) (N cF n : Nat) (F : List Int) (vT : Value) (T : List Int) : Prop where
  oF : OI wr w.heap.size (.slice (some ⟨N, 0, none⟩) n cF) F
  len : F.length = n
  oT : OQ wr w.heap.size N vT T
  ex : Ext w wr
section
variable {w wr w1 : World} {N cF n : Nat} {F : List Int} {vT : Value} {T : List Int}
theorem PSt.ext (h : PSt w wr N cF n F vT T) (hx : Ext wr w1) : PSt w w1 N cF n F vT T := ⟨h.oF.ext hx, h.len, h.oT.mod (Mod.of_ext (S := []) hx) (by simp), h.ex.trans' hx⟩
theorem PSt.mark (h : PSt w wr N cF n F vT T) (U : Nat) (z : Int) : PSt w (wr.setCell ⟨N, U, none⟩ (.int .i64 z)) N cF n (F.set U z) vT T :=
  ⟨h.oF.store2 h.len U z, by rw [List.length_set]; exact h.len, h.oT.mod ((Mod.refl [N] wr).setCell (.inl (by simp)) _) (by simp), h.ex.setCell (own_obj h.oF (g := N) rfl).1 _⟩
theorem PSt.tail {g off q cap : Nat} {x : Int} (h : PSt w wr N cF n F (.slice (some ⟨g, off, none⟩) q cap) (x :: T)) : PSt w wr N cF n F (.slice (if cap = 1 then some ⟨g, off, none⟩ else some ⟨g, off + 1, none⟩) (q - 1) (cap - 1)) T := ⟨h.oF, h.len, h.oT.tail, h.ex⟩
theorem PSt.room {g off q cap : Nat} {x : Int} (h : PSt w wr N cF n F (.slice (some ⟨g, off, none⟩) q cap) T) (hq : T.length = q) (hr : q + 1 ≤ cap) : PSt w (wr.setCells g (off + q * 1) [.int .i64 x]) N cF n F (.slice (some ⟨g, off, none⟩) (q + 1) cap) (T ++ [x]) := by
  have hgN : g ≠ N := by
    obtain ⟨g', _, _, hv, _, hn, _⟩ := h.oT
    injection hv with h1
    injection h1 with h1
    injection h1 with h1
    subst h1; exact hn
  have hgb : w.heap.size ≤ g := by
    obtain ⟨g', _, _, hv, hb, _⟩ := h.oT
    injection hv with h1
    injection h1 with h1
    injection h1 with h1
    subst h1; exact hb
  rw [Nat.mul_one]
  show PSt w (wr.setCell ⟨g, off + q, none⟩ (.int .i64 x)) _ _ _ _ _ _
  exact ⟨Mod.own ((Mod.refl [g] wr).setCell (p := ⟨g, off + q, none⟩) (.inl (by simp)) _) h.oF (fun s hs e => by
    have h1 : N = s := by injection hs
    have h2 : s = g := by simpa using e
    exact hgN (h2.symm.trans h1.symm)), h.len, h.oT.room hq hr, h.ex.setCell hgb _⟩
theorem PSt.grow {v' : Value} {k : Nat} {xs : List Value} {T' : List Int} (h : PSt w wr N cF n F vT T) (ho : w1.ownsRow wr.heap.size 3 1 v' k xs) (hk : T'.length = k) (h0 : 0 < k) (hx : xs = T'.map (Value.int .i64)) (hg : wr.grownBy w1 none) : PSt w w1 N cF n F v' T' := by
  have hm : Ext wr w1 := (Ext.rfl' (w := wr)).grown hg (Nat.le_refl _) (fun k hk => by cases hk)
  have hN : N < wr.heap.size := (own_obj h.oF (g := N) rfl).2.1
  have h1 := OQ.of_own ho hk h0 hx hN
  refine ⟨h.oF.ext hm, h.len, ?_, h.ex.trans' hm⟩
  obtain ⟨g, off, cap, hv, hb, hn, hr⟩ := h1
  exact ⟨g, off, cap, hv, Nat.le_trans h.ex.size hb, hn, hr⟩
end
theorem Bfs.le {ls : List (List Int)} {W : Nat} {F T : List Int} (b : Bfs ls W F T) (hr : inRg ls.length ls = true) {o : List Int} (s : Stands ls o) (ho : o.length = ls.length) (hW : W < ls.length) {u : Nat} (hu : u < ls.length) : F.getD u 0 ≤ ls.length := by
  rcases b.neg u hu with h | h
  · omega
  · have h1 := canK_le s hr _ _ (b.snd u hu h)
    have h2 : posO o W < o.length := List.idxOf_lt_length_of_mem (s.all W hW)
    omega
theorem getD_some {l : List Int} {i : Nat} (h : i < l.length) : l[i]? = some (l.getD i 0) := by rw [List.getD, List.getElem?_eq_getElem h]; rfl
/-- how many have not been found: told by the cells -/
def isM : Option Value → Bool
  | some (.int .i64 (-1)) => true
  | _ => false
def cntM (w : World) (N n : Nat) : Nat := (List.range n).countP fun i => isM (w.cell? ⟨N, i, none⟩)
theorem cntM_eq {w : World} {N n : Nat} {F : List Int} (hl : F.length = n) (h : ∀ j x, F[j]? = some x → w.cell? ⟨N, j, none⟩ = some (.int .i64 x)) : cntM w N n = F.count (-1) := by
  have e : F = (List.range n).map (fun i => F.getD i 0) := by
    apply List.ext_getElem
    · simp [hl]
    · intro i h1 h2; simp [List.getD, h1]
  rw [e, List.count_eq_countP, List.countP_map, cntM]
  refine List.countP_congr fun i hi => ?_
  have hi' : i < F.length := by rw [hl]; simpa using hi
  rw [h i F[i] (List.getElem?_eq_getElem hi')]
  simp only [Function.comp, List.getD, List.getElem?_eq_getElem hi', Option.getD]
  rw [beq_iff_eq]
  constructor
  · intro hm
    unfold isM at hm
    split at hm
    · rename_i hh; injection hh with hh; injection hh with _ hh
    · cases hm
  · intro hm; rw [hm]; rfl
theorem count_mark {F : List Int} {u : Nat} {z : Int} (h : F.getD u 0 = -1) (hz : 0 ≤ z) : (F.set u z).count (-1) + 1 = F.count (-1) := by
  induction F generalizing u with
  | nil => simp at h
  | cons a F ih =>
    cases u with
    | zero =>
      simp at h; subst h
      rw [List.set_cons_zero, List.count_cons, List.count_cons]
      simp; omega
    | succ u =>
      rw [List.set_cons_succ, List.count_cons, List.count_cons]
      have := ih (u := u) (by simpa [List.getD] using h)
      omega
end Go.Proofs.Ytmejjeeobhapfaa
