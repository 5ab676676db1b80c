/-
  The way's length says who waits for whom: plain. Conditions: none.
-/
import Derived.Test.YtmejjeeobhapfaaDBfsP
namespace Go.Proofs.Ytmejjeeobhapfaa
open Go.RowKit
set_option linter.unusedVariables false
set_option linter.unusedSimpArgs false
theorem canK_way {ls : List (List Int)} (hr : inRg ls.length ls = true) {w : Nat} : ∀ k u, canK ls w (k + 1) u = true → Way (edge ls ls.length) w u
  | 0, u, h => by
    obtain ⟨x, hx, hc, hu⟩ := canK_succ.1 h
    obtain rfl : x = w := by simpa [canK] using hc
    exact .one ⟨hx, by have := getD_rng hr x _ hu; omega, hu⟩
  | k + 1, u, h => by
    obtain ⟨x, hx, hc, hu⟩ := canK_succ.1 h
    exact (canK_way hr k x hc).trans (.one ⟨hx, by have := getD_rng hr x _ hu; omega, hu⟩)
theorem way_canK {ls : List (List Int)} {w x u : Nat} (h : Way (edge ls ls.length) x u) : ∀ j, canK ls w j x = true → ∃ k, canK ls w (k + 1) u = true := by
  induction h with
  | one e => exact fun j hj => ⟨j, canK_succ.2 ⟨_, e.1, hj, e.2.2⟩⟩
  | more e _ ih => exact fun j hj => ih (j + 1) (canK_succ.2 ⟨_, e.1, hj, e.2.2⟩)
theorem path_len {ls : List (List Int)} (hr : inRg ls.length ls = true) {o : List Int} (s : Stands ls o) (ho : o.length = ls.length) {v w : Nat} (hv : v < ls.length) (hw : w < ls.length) :
    (1 < (pathT ls v w).length ↔ Way (edge ls ls.length) w v) ∧ ((pathT ls v w).length = 1 ↔ v = w) ∧ (pathT ls v w).length ≤ ls.length + 1 := by
  rw [pathT, if_pos ⟨⟨by omega, by omega⟩, by omega, by omega⟩, Int.toNat_natCast, Int.toNat_natCast]
  cases hf : (List.range (ls.length + 1)).find? (fun k => canK ls w k v) with
  | none =>
    rw [List.find?_eq_none] at hf
    have hno : ∀ k, canK ls w k v ≠ true := fun k hk => by
      have h1 := canK_le s hr k v hk
      have h2 : posO o w < o.length := List.idxOf_lt_length_of_mem (s.all w hw)
      exact hf k (by simp; omega) hk
    refine ⟨⟨fun h => by simp at h, fun h => ?_⟩, ⟨fun h => by simp at h, fun h => ?_⟩, by simp⟩
    · obtain ⟨k, hk⟩ := way_canK (w := w) h 0 (by simp [canK])
      exact absurd hk (hno _)
    · subst h; exact absurd (by simp [canK]) (hno 0)
  | some k =>
    have hk := List.find?_some hf
    have hkl := List.mem_of_find?_eq_some hf
    rw [List.mem_range] at hkl
    simp only [List.length_cons, restP_len]
    have hpos := canK_le s hr k v hk
    refine ⟨⟨fun h => ?_, fun h => ?_⟩, ⟨fun h => ?_, fun h => ?_⟩, by omega⟩
    · obtain ⟨k', rfl⟩ : ∃ k', k = k' + 1 := ⟨k - 1, by omega⟩
      exact canK_way hr k' v hk
    · rcases Nat.eq_zero_or_pos k with h0 | h0
      · subst h0
        obtain rfl : v = w := by simpa [canK] using hk
        exact absurd h (s.no_self v)
      · omega
    · obtain rfl : k = 0 := by omega
      simpa [canK] using hk
    · subst h; omega
theorem above_iff {ls : List (List Int)} (hr : inRg ls.length ls = true) (he : ∀ r ∈ befG ls, r.length ≤ 100 ∧ Rng ls.length r) {v w : Nat} (hv : v < ls.length) (hw : w < ls.length) : (v : Int) ∈ cloG (befG ls) [(w : Int)] ↔ Way (edge ls ls.length) w v := by
  rw [far_above hr he, farT, numsK_mem]
  constructor
  · rintro ⟨i, hi, hin, hp⟩
    obtain rfl : v = i := by omega
    rw [List.any_cons, List.any_nil, Bool.or_false, Bool.and_eq_true, if_pos rfl, Int.toNat_natCast, reach_iff hw hin] at hp
    exact hp.2
  · intro h
    refine ⟨v, rfl, hv, ?_⟩
    rw [List.any_cons, List.any_nil, Bool.or_false, Bool.and_eq_true, if_pos rfl, Int.toNat_natCast, reach_iff hw hv, decide_eq_true_eq]
    exact ⟨⟨by omega, by omega⟩, h⟩
theorem below_iff {ls : List (List Int)} (hr : inRg ls.length ls = true) (he : ∀ r ∈ behG ls, r.length ≤ 100 ∧ Rng ls.length r) {v w : Nat} (hv : v < ls.length) (hw : w < ls.length) : (w : Int) ∈ cloG (behG ls) [(v : Int)] ↔ Way (edge ls ls.length) w v := by
  rw [far_below hr he, farT, numsK_mem]
  constructor
  · rintro ⟨i, hi, hin, hp⟩
    obtain rfl : w = i := by omega
    rw [List.any_cons, List.any_nil, Bool.or_false, Bool.and_eq_true, if_neg (by simp), Int.toNat_natCast, reach_iff hin hv] at hp
    exact hp.2
  · intro h
    refine ⟨w, rfl, hw, ?_⟩
    rw [List.any_cons, List.any_nil, Bool.or_false, Bool.and_eq_true, if_neg (by simp), Int.toNat_natCast, reach_iff hw hv, decide_eq_true_eq]
    exact ⟨⟨by omega, by omega⟩, h⟩
end Go.Proofs.Ytmejjeeobhapfaa
