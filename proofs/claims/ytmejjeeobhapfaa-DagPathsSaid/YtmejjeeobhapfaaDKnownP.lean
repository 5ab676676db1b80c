/-
  The chapter's example, reckoned. Conditions: none.
-/
import Derived.Test.YtmejjeeobhapfaaDMisc
namespace Go.Proofs.Ytmejjeeobhapfaa
open Go.RowKit

theorem tidyI_asc {l : List Int} (h : l.Pairwise (· < ·)) : tidyI l = l := by
  have h1 : sortI l = l := List.mergeSort_of_pairwise (h.imp (fun hab => by simp; omega))
  rw [tidyI, h1]
  refine Lib.compact_all l (fun j hj => ?_)
  rw [Lib.keeps, decide_eq_true_eq]
  rcases Nat.eq_zero_or_pos j with h0 | h0
  · exact .inl h0
  · right
    rw [getElem!_pos l.toArray j (by simpa using hj), getElem!_pos l.toArray (j - 1) (by simp; omega)]
    have := List.pairwise_iff_getElem.1 h (j - 1) j (by omega) hj (by omega)
    simp
    omega
def ex0 : List (List Int) := [[], [], [1], [0, 2], [1]]
def ex1 : List (List Int) := [[0]]
theorem bef_ex0 : befG ex0 = ex0 := by
  simp only [befG, ex0, List.map_cons, List.map_nil]
  rw [tidyI_asc (l := []) (by decide), tidyI_asc (l := [1]) (by decide), tidyI_asc (l := [0, 2]) (by decide)]
theorem bef_ex1 : befG ex1 = ex1 := by
  simp only [befG, ex1, List.map_cons, List.map_nil]
  rw [tidyI_asc (l := [0]) (by decide)]
theorem beh_ex0 : behG ex0 = [[3], [2, 4], [3], [], []] := by rw [behG, bef_ex0]; decide +kernel
theorem beh_ex1 : behG ex1 = [[0]] := by rw [behG, bef_ex1]; decide +kernel
theorem ord_ex0 : ordG ex0 = [0, 1, 2, 3, 4] := by rw [ordG, beh_ex0, bef_ex0]; decide +kernel
theorem ord_ex1 : ordG ex1 = [] := by rw [ordG, beh_ex1, bef_ex1]; decide +kernel
theorem ok_ex0 : okG ex0 := ⟨by decide +kernel, by rw [ord_ex0]; rfl⟩
theorem lev_ex0 : levelsG (befG ex0) (ordG ex0) = [[0, 1], [2, 4], [3]] := by rw [ord_ex0, bef_ex0]; decide +kernel
theorem clo_ex0 : cloG (behG ex0) [1] = [2, 3, 4] := by rw [beh_ex0]; decide +kernel
end Go.Proofs.Ytmejjeeobhapfaa
