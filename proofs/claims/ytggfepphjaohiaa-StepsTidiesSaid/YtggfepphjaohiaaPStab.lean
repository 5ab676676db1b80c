/-
  Plain law: blocks in order, twice as long with each round. Conditions: none.
-/
import Derived.Test.YtggfepphjaohiaaPSort
namespace Go.Proofs.Ytggfepphjaohiaa
section
variable {α : Type} {cf : α → α → Int}
def BlksTo (cf : α → α → Int) (bs : Nat) (l : List α) (q0 : Nat) : Prop := ∀ q, q < q0 → Srt cf ((l.drop (q * bs)).take bs)
def BlksFrom (cf : α → α → Int) (bs : Nat) (l : List α) (a : Nat) : Prop := ∀ q, a ≤ q * bs → Srt cf ((l.drop (q * bs)).take bs)
theorem srt_nil : Srt cf ([] : List α) := List.Pairwise.nil
theorem cut3 (l : List α) {a b : Nat} (hab : a ≤ b) : l.take a ++ (l.drop a).take (b - a) ++ l.drop b = l := by
  rw [show l.drop b = (l.drop a).drop (b - a) by rw [List.drop_drop]; congr 1; omega, List.append_assoc, List.take_append_drop, List.take_append_drop]
theorem cut4 (l : List α) {a m b : Nat} (ham : a ≤ m) (hmb : m ≤ b) : l.take a ++ (l.drop a).take (m - a) ++ (l.drop m).take (b - m) ++ l.drop b = l := by
  rw [show l.drop b = (l.drop m).drop (b - m) by rw [List.drop_drop]; congr 1; omega, List.append_assoc, List.take_append_drop, cut3 l ham]
theorem blks_all {bs q : Nat} {l : List α} (h : BlksTo cf bs l q) (hq : l.length ≤ q * bs) : BlksFrom cf bs l 0 := fun q' _ => by
  rcases Nat.lt_or_ge q' q with k | k
  · exact h q' k
  · rw [List.drop_of_length_le (Nat.le_trans hq (Nat.mul_le_mul_right bs k))]; simpa using srt_nil
/-- one block more -/
theorem blk_step {bs q a b : Nat} {l r : List α} (ha : a = q * bs) (hab : a ≤ b) (hb : b ≤ l.length) (hbb : b = a + bs ∨ b = l.length) (h : BlksTo cf bs l q) (hr : r.length = b - a) (sr : Srt cf r) :
    BlksTo cf bs (l.take a ++ r ++ l.drop b) (q + 1) := fun q' hq' => by
  have hla : (l.take a).length = a := by rw [List.length_take]; omega
  rcases Nat.lt_or_ge q' q with k | k
  · have h1 : q' * bs + bs ≤ a := by rw [ha, ← Nat.succ_mul]; exact Nat.mul_le_mul_right bs k
    have e : (List.take bs (List.drop (q' * bs) (l.take a ++ r ++ l.drop b))) = (List.take bs (List.drop (q' * bs) l)) := by
      rw [List.append_assoc, List.drop_append_of_le_length (by omega), List.take_append_of_le_length (by rw [List.length_drop]; omega)]
      conv => rhs; rw [← List.take_append_drop a l, List.drop_append_of_le_length (by omega), List.take_append_of_le_length (by rw [List.length_drop]; omega)]
    rw [e]; exact h q' k
  · obtain rfl : q' = q := by omega
    rw [← ha, List.append_assoc, List.drop_append_of_le_length (by omega), List.drop_of_length_le (by omega), List.nil_append]
    rcases hbb with h1 | h1
    · rw [List.take_append_of_le_length (by omega), List.take_of_length_le (by omega)]; exact sr
    · rw [List.drop_of_length_le (by omega), List.append_nil]; exact srt_take sr _
theorem blks_far {bs a b : Nat} {l r : List α} (hab : a ≤ b) (hb : b ≤ l.length) (hr : r.length = b - a) {c : Nat} (h : BlksFrom cf bs l c) (hcb : c ≤ b) : BlksFrom cf bs (l.take a ++ r ++ l.drop b) b := fun q hq => by
  have hla : (l.take a ++ r).length = b := by rw [List.length_append, List.length_take]; omega
  have e : List.drop (q * bs) (l.take a ++ r ++ l.drop b) = List.drop (q * bs) l := by
    rw [List.drop_append, hla, List.drop_of_length_le (by omega), List.nil_append, List.drop_drop]
    congr 1; omega
  rw [e]; exact h q (by omega)
theorem merged_len {p s u l' : List α} (h : ∃ r, l' = p ++ r ++ s ∧ Stab cf u r ∧ Srt cf r) : ∃ r, l' = p ++ r ++ s ∧ r.length = u.length ∧ Stab cf (p ++ u ++ s) l' ∧ Srt cf r := by
  obtain ⟨r, rfl, st, sr⟩ := h
  exact ⟨r, rfl, st.len, st.in_ p s, sr⟩
theorem ins_step {bs q a b : Nat} {l0 l l' : List α} (h : ∃ r, l' = l.take a ++ r ++ l.drop b ∧ Stab cf ((l.drop a).take (b - a)) r ∧ Srt cf r) (ha : a = q * bs) (hab : a ≤ b) (hb : b ≤ l.length) (hbb : b = a + bs ∨ b = l.length)
    (hB : BlksTo cf bs l q) (st : Stab cf l0 l) : Stab cf l0 l' ∧ BlksTo cf bs l' (q + 1) := by
  obtain ⟨r, hl, hr, hs, sr⟩ := merged_len h
  rw [cut3 l hab] at hs
  have hr' : r.length = b - a := by rw [hr, List.length_take, List.length_drop]; omega
  exact ⟨st.trans hs, by rw [hl]; exact blk_step ha hab hb hbb hB hr' sr⟩
theorem sym_step {bs q a m b : Nat} {l0 l l' : List α} (h : ∃ r, l' = l.take a ++ r ++ l.drop b ∧ Stab cf ((l.drop a).take (m - a) ++ (l.drop m).take (b - m)) r ∧ Srt cf r) (ha : a = q * (2 * bs)) (ham : a ≤ m) (hmb : m ≤ b) (hb : b ≤ l.length) (hbb : b = a + 2 * bs ∨ b = l.length)
    (hB : BlksTo cf (2 * bs) l q) (hF : BlksFrom cf bs l a) (st : Stab cf l0 l) : Stab cf l0 l' ∧ BlksTo cf (2 * bs) l' (q + 1) ∧ BlksFrom cf bs l' b := by
  obtain ⟨r, hl, hr, hs, sr⟩ := merged_len h
  rw [← List.append_assoc, cut4 l ham hmb] at hs
  have hr' : r.length = b - a := by rw [hr, List.length_append, List.length_take, List.length_drop, List.length_take, List.length_drop]; omega
  exact ⟨st.trans hs, by rw [hl]; exact blk_step ha (by omega) hb hbb hB hr' sr, by rw [hl]; exact blks_far (by omega) hb hr' hF (by omega)⟩
/-- what is left is no longer than one block -/
theorem short_step {bs q a : Nat} {l : List α} (ha : a = q * (2 * bs)) (hs : l.length ≤ a + bs) (hB : BlksTo cf (2 * bs) l q) (hF : BlksFrom cf bs l a) : BlksFrom cf (2 * bs) l 0 := by
  refine blks_all (q := q + 1) (fun q' hq' => ?_) (by rw [Nat.succ_mul]; omega)
  rcases Nat.lt_or_ge q' q with k | k
  · exact hB q' k
  · obtain rfl : q' = q := by omega
    have e1 : 2 * q' * bs = a := by rw [ha, Nat.mul_comm 2 q', Nat.mul_assoc]
    have := hF (2 * q') (by omega)
    rw [e1] at this
    rw [← ha, List.take_of_length_le (by rw [List.length_drop]; omega)]
    rwa [List.take_of_length_le (by rw [List.length_drop]; omega)] at this
theorem blk_at {bs q a : Nat} {l : List α} (ha : a = q * (2 * bs)) (h : BlksFrom cf bs l a) : Srt cf ((l.drop a).take bs) ∧ Srt cf ((l.drop (a + bs)).take bs) := by
  have e1 : 2 * q * bs = a := by rw [ha, Nat.mul_comm 2 q, Nat.mul_assoc]
  have e2 : (2 * q + 1) * bs = a + bs := by rw [Nat.add_mul, Nat.one_mul, e1]
  have h1 := h (2 * q) (by omega)
  have h2 := h (2 * q + 1) (by omega)
  rw [e1] at h1
  rw [e2] at h2
  exact ⟨h1, h2⟩
theorem blks_srt {bs : Nat} {l : List α} (h : BlksFrom cf bs l 0) (hl : l.length ≤ bs) : Srt cf l := by
  have := h 0 (by omega)
  rwa [Nat.zero_mul, List.drop_zero, List.take_of_length_le hl] at this
end
end Go.Proofs.Ytggfepphjaohiaa
