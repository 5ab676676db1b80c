/-
  Plain law: times, rising, each once. Conditions: none.
-/
import Derived.Test.YtggfepphjaohiaaMem
namespace Go.Proofs.Ytggfepphjaohiaa
open Go.RowKit

def lmin (x : Int) (l : List Int) : Int := l.foldl min x
theorem fold_min_le (l : List Int) (x : Int) : l.foldl min x ≤ x ∧ ∀ y ∈ l, l.foldl min x ≤ y := by
  induction l generalizing x with
  | nil => simp
  | cons z l ih =>
    simp only [List.foldl_cons]
    have := ih (min x z)
    refine ⟨by omega, fun y hy => ?_⟩
    rcases List.mem_cons.1 hy with rfl | hy
    · omega
    · exact this.2 y hy
theorem fold_min_mem (l : List Int) (x : Int) : l.foldl min x ∈ x :: l := by
  induction l generalizing x with
  | nil => simp
  | cons z l ih =>
    simp only [List.foldl_cons]
    have := ih (min x z)
    rcases List.mem_cons.1 this with h | h
    · rw [h]
      rcases Int.le_total x z with h1 | h1
      · rw [Int.min_eq_left h1]; simp
      · rw [Int.min_eq_right h1]; simp
    · simp [h]
theorem filter_lt (l : List Int) (x : Int) (h : x ∈ l) : (l.filter (· != x)).length < l.length := by
  induction l with
  | nil => simp at h
  | cons y l ih =>
    by_cases e : y = x
    · subst e
      simp only [List.filter_cons, bne_self_eq_false, Bool.false_eq_true, if_false, List.length_cons]
      have := List.length_filter_le (· != y) l
      omega
    · have e' : (y != x) = true := by simpa using e
      simp only [List.filter_cons, e', if_true, List.length_cons]
      have := ih (by rcases List.mem_cons.1 h with h | h; exact absurd h.symm e; exact h)
      omega
theorem lmin_mem (l : List Int) (x : Int) : lmin x l ∈ x :: l := fold_min_mem l x
theorem lmin_le (l : List Int) (x : Int) : lmin x l ≤ x ∧ ∀ y ∈ l, lmin x l ≤ y := fold_min_le l x
/-- rising, each once -/
def rises : List Int → List Int
  | [] => []
  | x :: l => lmin x l :: rises ((x :: l).filter (· != lmin x l))
termination_by l => l.length
decreasing_by exact filter_lt _ _ (lmin_mem l x)
theorem rises_nil : rises [] = [] := by rw [rises]
theorem rises_cons (x : Int) (l : List Int) : rises (x :: l) = lmin x l :: rises ((x :: l).filter (· != lmin x l)) := by rw [rises]
theorem rises_mem (l : List Int) (y : Int) : y ∈ rises l ↔ y ∈ l := by
  generalize hn : l.length = n
  induction n using Nat.strongRecOn generalizing l with
  | ind n ih =>
    cases l with
    | nil => rw [rises_nil]
    | cons x l =>
      rw [rises_cons]
      have hm := lmin_mem l x
      have := ih _ (by rw [← hn]; exact filter_lt _ _ hm) ((x :: l).filter (· != lmin x l)) rfl
      rw [List.mem_cons, this, List.mem_filter]
      constructor
      · rintro (h | h)
        · rw [h]; exact hm
        · exact h.1
      · intro h
        by_cases e : y = lmin x l
        · exact .inl e
        · exact .inr ⟨h, by simpa using e⟩
theorem rises_asc (l : List Int) : (rises l).Pairwise (· < ·) := by
  generalize hn : l.length = n
  induction n using Nat.strongRecOn generalizing l with
  | ind n ih =>
    cases l with
    | nil => rw [rises_nil]; exact List.Pairwise.nil
    | cons x l =>
      rw [rises_cons]
      refine List.pairwise_cons.2 ⟨fun y hy => ?_, ih _ (by rw [← hn]; exact filter_lt _ _ (lmin_mem l x)) _ rfl⟩
      rw [rises_mem, List.mem_filter] at hy
      have h1 := lmin_le l x
      have h2 : y ≠ lmin x l := by simpa using hy.2
      rcases List.mem_cons.1 hy.1 with h | h
      · have := h1.1; omega
      · have := h1.2 y h; omega
end Go.Proofs.Ytggfepphjaohiaa
