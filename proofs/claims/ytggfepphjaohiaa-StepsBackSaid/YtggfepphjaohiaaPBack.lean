/-
  Plain law: adding, and taking back; two whiles that follow one another. Conditions: none.
-/
import Derived.Test.YtggfepphjaohiaaPAdd
namespace Go.Proofs.Ytggfepphjaohiaa
open Go.RowKit
set_option linter.unusedVariables false
set_option linter.unusedSimpArgs false

section
variable {l : List Stp} {a b c k : Int}
theorem addL_val (h : AddArg l a b k) {x : Int} (hx : 0 ≤ x) : freeT (addL l a b k) x = freeT l x + if a ≤ x ∧ x < b then k else 0 := addL_free h.1.starts hx 0
theorem AddArg.ge (h : AddArg l a b k) : 0 ≤ a ∧ 0 ≤ b ∧ a ≤ b := by
  have h1 := (isT_iff a).1 h.2.1
  have h2 := (isT_iff b).1 h.2.2.1
  exact ⟨h1.1, h2.1, h.2.2.2.1⟩
theorem add_eq_of (h : AddArg l a b k) {r : List Stp} (hr : Prof r) (hf : ∀ x, 0 ≤ x → freeT r x = freeT l x + if a ≤ x ∧ x < b then k else 0) : addL l a b k = r :=
  (addL_eq h.1 h.ge.1 h.ge.2.1 hr.norm hr.starts hf).symm
theorem back_arg (h : AddArg l a b k) (hr : Room l a b k) (hn : l.length ≤ 19000) : AddArg (addL l a b k) a b (-k) ∧ Room (addL l a b k) a b (-k) ∧ addL (addL l a b k) a b (-k) = l := by
  have hp := addL_prof h hr hn
  have ha : AddArg (addL l a b k) a b (-k) := ⟨hp, h.2.1, h.2.2.1, h.2.2.2.1, by have := h.2.2.2.2; omega, by have := h.2.2.2.2; omega⟩
  refine ⟨ha, fun x h1 h2 => ?_, add_eq_of ha h.1 fun x hx => ?_⟩
  · rw [addL_val h (by have := h.ge; omega), if_pos ⟨h1, h2⟩]
    have := h.1.free x
    omega
  · rw [addL_val h hx]
    split <;> omega
theorem join_arg (h : AddArg l a b k) (hr : Room l a b k) (hn : l.length ≤ 18000) (h' : AddArg (addL l a b k) b c k) (hr' : Room (addL l a b k) b c k) :
    (AddArg l a c k ∧ Room l a c k ∧ addL l a c k = addL (addL l a b k) b c k) ∧ (AddArg l b c k ∧ Room l b c k) ∧
    AddArg (addL l b c k) a b k ∧ Room (addL l b c k) a b k ∧ addL (addL l b c k) a b k = addL (addL l a b k) b c k := by
  have g := h.ge
  have g' := h'.ge
  have hp := addL_prof h' hr' (by have := addL_len (l := l) (f := a) (t := b) (k := k); omega)
  have ho : AddArg l a c k := ⟨h.1, h.2.1, h'.2.2.1, by omega, h.2.2.2.2⟩
  have hs : AddArg l b c k := ⟨h.1, h'.2.1, h'.2.2.1, by omega, h.2.2.2.2⟩
  have hso : Room l b c k := fun x h1 h2 => by
    have := hr' x h1 h2
    rwa [addL_val h (by omega), if_neg (by omega), Int.add_zero] at this
  have hsp := addL_prof hs hso (by omega)
  have hq : AddArg (addL l b c k) a b k := ⟨hsp, h.2.1, h.2.2.1, h.2.2.2⟩
  have hn : ∀ x, 0 ≤ x → freeT (addL (addL l a b k) b c k) x = freeT l x + if a ≤ x ∧ x < c then k else 0 := fun x hx => by
    rw [addL_val h' hx, addL_val h hx]
    split <;> split <;> split <;> omega
  refine ⟨⟨ho, fun x h1 h2 => ?_, add_eq_of ho hp hn⟩, ⟨hs, hso⟩, hq, fun x h1 h2 => ?_, add_eq_of hq hp fun x hx => ?_⟩
  · rcases Int.lt_or_le x b with h3 | h3
    · exact hr x h1 h3
    · exact hso x h3 h2
  · rw [addL_val hs (by omega), if_neg (by omega), Int.add_zero]
    exact hr x h1 h2
  · rw [hn x hx, addL_val hs hx]
    split <;> split <;> split <;> omega
theorem point_at (h : AddArg l a b k) (hr : Room l a b k) (hn : l.length ≤ 19000) {x : Int} (hx : isT x = true) : freeT (addL l a b k) x = freeT l x + if a ≤ x ∧ x < b then k else 0 := addL_val h ((isT_iff x).1 hx).1
end
end Go.Proofs.Ytggfepphjaohiaa
