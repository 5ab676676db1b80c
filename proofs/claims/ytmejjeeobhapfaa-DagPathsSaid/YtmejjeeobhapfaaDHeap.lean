/-
  The heap of the program, as lists: plain. Conditions: none.
-/
import Derived.Test.YtmejjeeobhapfaaDMem
namespace Go.Proofs.Ytmejjeeobhapfaa
open Go.RowKit

def swpI (l : List Int) (i j : Nat) : List Int := (l.set i (l.getD j 0)).set j (l.getD i 0)
theorem swpI_len (l : List Int) (i j : Nat) : (swpI l i j).length = l.length := by simp [swpI]
def upH : Nat → List Int → Nat → List Int
  | 0, l, _ => l
  | f + 1, l, i => if 0 < i ∧ l.getD i 0 < l.getD ((i - 1) / 2) 0 then upH f (swpI l ((i - 1) / 2) i) ((i - 1) / 2) else l
def hpush (l : List Int) (v : Int) : List Int := upH (l.length + 1) (l ++ [v]) l.length
def kidH (l : List Int) (i : Nat) : Nat := if 2 * i + 2 < l.length ∧ l.getD (2 * i + 2) 0 < l.getD (2 * i + 1) 0 then 2 * i + 2 else 2 * i + 1
def downH : Nat → List Int → Nat → List Int
  | 0, l, _ => l
  | f + 1, l, i => if 2 * i + 1 < l.length then if l.getD i 0 ≤ l.getD (kidH l i) 0 then l else downH f (swpI l i (kidH l i)) (kidH l i) else l
def hpop (l : List Int) : List Int := downH l.length ((l.set 0 (l.getD (l.length - 1) 0)).take (l.length - 1)) 0

theorem upH_go {f : Nat} {l : List Int} {i : Nat} (hi : i < f) (h : 0 < i ∧ l.getD i 0 < l.getD ((i - 1) / 2) 0) : ∃ f', (i - 1) / 2 < f' ∧ upH f l i = upH f' (swpI l ((i - 1) / 2) i) ((i - 1) / 2) := by
  obtain ⟨f', rfl⟩ : ∃ f', f = f' + 1 := ⟨f - 1, by omega⟩
  exact ⟨f', by omega, by rw [upH, if_pos h]⟩
theorem upH_stop {f : Nat} {l : List Int} {i : Nat} (h : ¬ (0 < i ∧ l.getD i 0 < l.getD ((i - 1) / 2) 0)) : upH f l i = l := by
  cases f with
  | zero => rfl
  | succ f => rw [upH, if_neg h]
theorem downH_go {f : Nat} {l : List Int} {i : Nat} (hi : l.length ≤ i + f) (h : 2 * i + 1 < l.length) (h2 : ¬ l.getD i 0 ≤ l.getD (kidH l i) 0) : ∃ f', l.length ≤ kidH l i + f' ∧ downH f l i = downH f' (swpI l i (kidH l i)) (kidH l i) := by
  obtain ⟨f', rfl⟩ : ∃ f', f = f' + 1 := ⟨f - 1, by omega⟩
  refine ⟨f', ?_, by rw [downH, if_pos h, if_neg h2]⟩
  have : i + 1 ≤ kidH l i := by unfold kidH; split <;> omega
  omega
theorem downH_stop {f : Nat} {l : List Int} {i : Nat} (h : ¬ (2 * i + 1 < l.length ∧ ¬ l.getD i 0 ≤ l.getD (kidH l i) 0)) : downH f l i = l := by
  cases f with
  | zero => rfl
  | succ f =>
    rw [downH]
    split
    · split
      · rfl
      · exact absurd ⟨‹_›, ‹_›⟩ h
    · rfl
theorem swpI_perm {l : List Int} {i j : Nat} (hi : i < l.length) (hj : j < l.length) : (swpI l i j).Perm l := by
  have h := List.set_set_perm hi hj
  have e1 : l.getD j 0 = l[j] := by simp [List.getD, hj]
  have e2 : l.getD i 0 = l[i] := by simp [List.getD, hi]
  rw [swpI, e1, e2]; exact h
theorem upH_perm : ∀ (f : Nat) (l : List Int) (i : Nat), i < l.length → (upH f l i).Perm l
  | 0, l, _, _ => List.Perm.refl _
  | f + 1, l, i, hi => by
    rw [upH]
    split
    · have hp : (i - 1) / 2 < l.length := by omega
      exact (upH_perm f _ _ (by rw [swpI_len]; exact hp)).trans (swpI_perm hp hi)
    · exact List.Perm.refl _
theorem hpush_perm (l : List Int) (v : Int) : (hpush l v).Perm (v :: l) :=
  (upH_perm _ _ _ (by simp)).trans (List.perm_append_comm (l₁ := l) (l₂ := [v]))
theorem kidH_lt {l : List Int} {i : Nat} (h : 2 * i + 1 < l.length) : kidH l i < l.length := by unfold kidH; split <;> omega
theorem downH_perm : ∀ (f : Nat) (l : List Int) (i : Nat), i < l.length → (downH f l i).Perm l
  | 0, l, _, _ => List.Perm.refl _
  | f + 1, l, i, hi => by
    rw [downH]
    split
    · rename_i h
      have hp := kidH_lt h
      split
      · exact List.Perm.refl _
      · exact (downH_perm f _ _ (by rw [swpI_len]; exact hp)).trans (swpI_perm hi hp)
    · exact List.Perm.refl _
theorem downH_perm0 (f : Nat) (l : List Int) : (downH f l 0).Perm l := by
  cases l with
  | nil => cases f <;> simp [downH]
  | cons x l => exact downH_perm _ _ _ (by simp)
theorem hpop_perm {x : Int} {l : List Int} : (x :: hpop (x :: l)).Perm (x :: l) := by
  refine List.Perm.cons x ((downH_perm0 _ _).trans ?_)
  rcases List.eq_nil_or_concat l with rfl | ⟨l, y, rfl⟩
  · simp
  · rw [List.concat_eq_append]
    have : ((x :: (l ++ [y])).set 0 ((x :: (l ++ [y])).getD ((x :: (l ++ [y])).length - 1) 0)).take ((x :: (l ++ [y])).length - 1) = y :: l := by
      simp [List.getD]
    rw [this]
    exact List.perm_append_comm (l₁ := [y]) (l₂ := l)
theorem hpush_len (l : List Int) (v : Int) : (hpush l v).length = l.length + 1 := by rw [(hpush_perm l v).length_eq]; rfl
theorem hpop_len (l : List Int) : (hpop l).length = l.length - 1 := by
  rw [hpop, (downH_perm0 _ _).length_eq]; simp
end Go.Proofs.Ytmejjeeobhapfaa
