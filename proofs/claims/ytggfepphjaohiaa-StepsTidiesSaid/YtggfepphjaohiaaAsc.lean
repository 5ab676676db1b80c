/-
  Plain: a profile's steps rise. Conditions: none.
-/
import Derived.Test.YtggfepphjaohiaaProf
namespace Go.Proofs.Ytggfepphjaohiaa

abbrev Asc (l : List Stp) : Prop := l.Pairwise fun x y => x.1 < y.1

theorem asc_of {l : List Stp} (h : ∀ i, i < l.length → okAt l i) : Asc l := by
  unfold Asc
  rw [List.pairwise_iff_getElem]
  intro i j hi hj hij
  have step : ∀ k (hk : k + 1 < l.length), (l[k]'(by omega)).1 < l[k + 1].1 := fun k hk => by
    have := (h (k + 1) hk l[k + 1].1 l[k + 1].2 (by rw [List.getElem?_eq_getElem hk])).2.2.2
    rcases this with h0 | h0
    · omega
    · exact (h0 (l[k]'(by omega)).1 (l[k]'(by omega)).2 (by rw [Nat.add_sub_cancel, List.getElem?_eq_getElem (by omega)])).1
  obtain ⟨d, rfl⟩ : ∃ d, j = i + 1 + d := ⟨j - i - 1, by omega⟩
  induction d with
  | zero => exact step i hj
  | succ d ih =>
    have h1 : l[i].1 < (l[i + 1 + d]'(by omega)).1 := ih (by omega) (by omega) step
    have h2 := step (i + 1 + d) (by omega)
    have e : i + 1 + (d + 1) = i + 1 + d + 1 := by omega
    simp only [e]
    omega
theorem Prof.asc {l : List Stp} (h : Prof l) : Asc l := asc_of h.2.2.2

theorem Prof.times {l : List Stp} (h : Prof l) : ∀ (i : Nat) (a f : Int), l[i]? = some (a, f) → 0 ≤ a ∧ a ≤ 1099511627775 := fun i a f hi =>
  (h.2.2.2 i (by have := (List.getElem?_eq_some_iff.1 hi).1; omega) a f hi).1
end Go.Proofs.Ytggfepphjaohiaa
