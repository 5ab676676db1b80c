/-
  The document's table of steps, row by row: plain; rows of a list of rows of truth values, read. Conditions: none.
-/
import Derived.Test.YtmejjeeobhapfaaDBfsP
import Derived.Test.YtmejjeeobhapfaaDReach
namespace Go.Proofs.Ytmejjeeobhapfaa
open Go.RowKit
set_option linter.unusedVariables false
set_option linter.unusedSimpArgs false
def rowC (ls : List (List Int)) (w n k : Nat) : List Bool := (List.range n).map fun u => canK ls w k u
def canT (ls : List (List Int)) (w n k : Nat) : List (List Bool) := (List.range (k + 1)).map fun k => rowC ls w n k
theorem rowC_len (ls : List (List Int)) (w n k : Nat) : (rowC ls w n k).length = n := by simp [rowC]
theorem rowC_at {ls : List (List Int)} {w n k u : Nat} (h : u < n) : (rowC ls w n k)[u]? = some (canK ls w k u) := by
  rw [rowC, List.getElem?_map, List.getElem?_range h]; rfl
theorem rowC_zero {ls : List (List Int)} {w n : Nat} (h : w < n) : (List.replicate n false).set w true = rowC ls w n 0 := by
  apply List.ext_getElem
  · simp [rowC]
  · intro i h1 h2
    rw [List.getElem_set]
    simp only [rowC, List.getElem_map, List.getElem_range, canK, List.getElem_replicate]
    by_cases e : w = i
    · subst e; simp
    · rw [if_neg e]; symm; rw [decide_eq_false_iff_not]; omega
theorem canT_at {ls : List (List Int)} {w n k i : Nat} (h : i ≤ k) : (canT ls w n k)[i]? = some (rowC ls w n i) := by
  rw [canT, List.getElem?_map, List.getElem?_range (by omega)]; rfl
theorem canT_succ (ls : List (List Int)) (w n k : Nat) : canT ls w n (k + 1) = canT ls w n k ++ [rowC ls w n (k + 1)] := by
  rw [canT, List.range_succ, List.map_append]; rfl
/-- the next row under construction: all of x's are told, of x's own those below j -/
def rowA (c : Nat → Bool) (ls : List (List Int)) (n x j : Nat) : List Bool :=
  (List.range n).map fun (u : Nat) => (List.range x).any (fun y => c y && decide ((u : Int) ∈ ls.getD y [])) || (decide (u < j) && (c x && decide ((u : Int) ∈ ls.getD x [])))
theorem rowA_len (c : Nat → Bool) (ls : List (List Int)) (n x j : Nat) : (rowA c ls n x j).length = n := by simp [rowA]
theorem rowA_zero (c : Nat → Bool) (ls : List (List Int)) (n : Nat) : rowA c ls n 0 0 = List.replicate n false := by
  apply List.ext_getElem
  · simp [rowA]
  · intro i h1 h2; simp [rowA]
theorem rowA_next (c : Nat → Bool) (ls : List (List Int)) (n x : Nat) : rowA c ls n x n = rowA c ls n (x + 1) 0 := by
  apply List.map_congr_left
  intro u hu
  have hu' : u < n := by simpa using hu
  rw [List.range_succ, List.any_append]
  simp [hu']
theorem rowA_all (ls : List (List Int)) (w k : Nat) : rowA (canK ls w k) ls ls.length ls.length 0 = rowC ls w ls.length (k + 1) := by
  apply List.map_congr_left
  intro u hu
  simp [canK]
theorem rowA_set {c : Nat → Bool} {ls : List (List Int)} {n x j : Nat} (hj : j < n) (h : (c x && decide ((j : Int) ∈ ls.getD x [])) = true) : (rowA c ls n x j).set j true = rowA c ls n x (j + 1) := by
  apply List.ext_getElem
  · simp [rowA]
  · intro i h1 h2
    rw [List.getElem_set]
    simp only [rowA, List.getElem_map, List.getElem_range]
    by_cases e : j = i
    · subst e; rw [if_pos rfl, h]; simp
    · rw [if_neg e]
      congr 2
      rw [decide_eq_decide]; omega
theorem rowA_keep {c : Nat → Bool} {ls : List (List Int)} {n x j : Nat} (h : (c x && decide ((j : Int) ∈ ls.getD x [])) = false) : rowA c ls n x j = rowA c ls n x (j + 1) := by
  apply List.map_congr_left
  intro u hu
  by_cases e : u = j
  · subst e; rw [h]; simp
  · congr 2
    rw [decide_eq_decide]; omega
/-- a row of the table, read -/
theorem OutB.rowK {w wr : World} {vO : Value} {n v q : Nat} {l : List Bool} {Or : List RowB} (h : OutB w wr vO Or) (hq : Or.length = q) (hv : (Or.map (·.2))[v]? = some l) (hl : l.length = n) (hn : 0 < n) :
    ∃ g4 c4 gv cv, vO = .slice (some ⟨g4, 0, none⟩) q c4 ∧ q ≤ c4 ∧ v < q ∧ wr.cell? ⟨g4, v, none⟩ = some (.slice (some ⟨gv, 0, none⟩) n cv) ∧ (∀ j x, l[j]? = some x → wr.cell? ⟨gv, j, none⟩ = some (.bool x)) := by
  subst hq
  rw [List.getElem?_map, Option.map_eq_some_iff] at hv
  obtain ⟨⟨x, l'⟩, hr, rfl⟩ := hv
  have hvl : v < Or.length := (List.getElem?_eq_some_iff.1 hr).1
  have ho := h.sep.at_ hr
  obtain ⟨gv, cv, hx, -, -, -, -, hc, hf⟩ := ho.at_ (i := 0) (by simp only at hl ⊢; omega)
  simp only at hx hc ho hl
  rw [hl] at hx
  subst hx
  rcases h.oo.2 with ⟨_, h0⟩ | ⟨g4, c4, cur, he, hb, hg, hle, hm, hs, ht⟩
  · omega
  subst he
  refine ⟨g4, c4, gv, cv, rfl, hle, hvl, ?_, hc⟩
  rw [World.ownsRow.cellAt h.oo v (by omega), List.getElem?_map, hr]; rfl
end Go.Proofs.Ytmejjeeobhapfaa
