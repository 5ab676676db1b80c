/-
  Plain: what a profile of steps is, and what is free at a time. Conditions: none.
-/
import Derived.Test.YtggfepphjaohiaaMem
namespace Go.Proofs.Ytggfepphjaohiaa

/-- a time? -/
def isT (t : Int) : Bool := decide (0 ≤ t) && decide (t ≤ 1099511627775)
theorem isT_iff (t : Int) : isT t = true ↔ 0 ≤ t ∧ t ≤ 1099511627775 := by simp [isT]
theorem isT_f (t : Int) : isT t = false ↔ t < 0 ∨ 1099511627775 < t := by
  rw [← Bool.not_eq_true, isT_iff]; omega

abbrev Stp := Int × Int
/-- step i is right, seen from the one ahead of it -/
def okAt (l : List Stp) (i : Nat) : Prop :=
  ∀ a f, l[i]? = some (a, f) → (0 ≤ a ∧ a ≤ 1099511627775) ∧ 0 ≤ f ∧ f ≤ 10000 ∧ (i = 0 ∨ ∀ a' f', l[i - 1]? = some (a', f') → a' < a ∧ f ≠ f')
/-- a profile? -/
def Prof (l : List Stp) : Prop := 0 < l.length ∧ l.length ≤ 20000 ∧ (∀ a f, l[0]? = some (a, f) → a = 0) ∧ ∀ i, i < l.length → okAt l i
open Classical in
noncomputable def chk (l : List Stp) : Bool := decide (Prof l)
theorem chk_iff (l : List Stp) : chk l = true ↔ Prof l := by simp [chk]
theorem chk_f (l : List Stp) : chk l = false ↔ ¬ Prof l := by simp [chk]
noncomputable def chkE (l : List Stp) : Int := if chk l = true then 0 else 2
theorem chkE_t {l : List Stp} (h : Prof l) : chkE l = 0 := by simp [chkE, chk_iff, h]
theorem chkE_f {l : List Stp} (h : ¬ Prof l) : chkE l = 2 := by simp [chkE, chk_iff, h]
theorem chkE_cases (l : List Stp) : (Prof l ∧ chkE l = 0) ∨ (¬ Prof l ∧ chkE l = 2) := by
  by_cases h : Prof l
  · exact .inl ⟨h, chkE_t h⟩
  · exact .inr ⟨h, chkE_f h⟩

/-- what is free at a time, of steps that rise -/
def freeT (l : List Stp) (t : Int) : Int := l.foldl (fun n s => if s.1 ≤ t then s.2 else n) 0
theorem freeT_snoc (l : List Stp) (s : Stp) (t : Int) : freeT (l ++ [s]) t = if s.1 ≤ t then s.2 else freeT l t := by simp [freeT]
end Go.Proofs.Ytggfepphjaohiaa
