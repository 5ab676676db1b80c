/-
  What one waits for, without what it waits for over others: plain. Conditions: none.
-/
import Derived.Test.YtmejjeeobhapfaaDKahn
namespace Go.Proofs.Ytmejjeeobhapfaa
open Go.RowKit
set_option linter.unusedVariables false
set_option linter.unusedSimpArgs false

/-- the program's answer -/
def bareRow (bs : List (List Int)) (v : Nat) : List Int := (bs.getD v []).filter fun u => !decide (u ∈ cloG bs (bs.getD v []))
def bareG (bs : List (List Int)) : List (List Int) := (List.range bs.length).map (bareRow bs)
/-- the document's answer -/
def bareRowR (ls : List (List Int)) (v : Nat) : List Int := (befR ls v).filter fun u => !(befR ls v).any fun w => mget (reachT ls) w.toNat u.toNat
def bareR (ls : List (List Int)) : List (List Int) := (List.range ls.length).map (bareRowR ls)
theorem bef_befR {ls : List (List Int)} (h : inRg ls.length ls = true) {v : Nat} (hv : v < ls.length) : (befG ls).getD v [] = befR ls v := by
  have := before_near h (v : Int)
  rw [if_pos ⟨by omega, by omega⟩, Int.toNat_natCast] at this
  exact this
theorem clo_mem {ls : List (List Int)} (h : inRg ls.length ls = true) (he : ∀ r ∈ befG ls, r.length ≤ 100 ∧ Rng ls.length r) (l : List Int) (u : Int) : u ∈ cloG (befG ls) l ↔ ∃ v ∈ l, (0 ≤ v ∧ v < (ls.length : Int)) ∧ 0 ≤ u ∧ Way (edge ls ls.length) v.toNat u.toNat := by
  rw [cloG, numsK_mem]
  constructor
  · rintro ⟨i, rfl, hi, hp⟩
    obtain ⟨v, hv, hvn, hw⟩ := (cloS_iff (befG_len ls) he l i).1 hp
    exact ⟨v, hv, hvn, by omega, by rw [Int.toNat_natCast]; exact hw.mono (fun a b => (edge_bef a b).1)⟩
  · rintro ⟨v, hv, hvn, hu, hw⟩
    refine ⟨u.toNat, by omega, by rw [befG_len]; exact (way_lt hw).2, ?_⟩
    exact (cloS_iff (befG_len ls) he l u.toNat).2 ⟨v, hv, hvn, hw.mono (fun a b => (edge_bef a b).2)⟩
theorem bare_eq {ls : List (List Int)} (h : inRg ls.length ls = true) (he : ∀ r ∈ befG ls, r.length ≤ 100 ∧ Rng ls.length r) : bareG (befG ls) = bareR ls := by
  rw [bareG, bareR, befG_len]
  refine List.map_congr_left (fun v hv => ?_)
  have hv' : v < ls.length := by simpa using hv
  rw [bareRow, bareRowR, bef_befR h hv']
  refine List.filter_congr (fun u hu => ?_)
  have hrg : Rng ls.length (befR ls v) := fun x hx => by
    rw [befR] at hx
    split at hx
    · obtain ⟨i, rfl, hi, _⟩ := (numsK_mem _ _ _).1 hx; omega
    · simp at hx
  have hur := hrg u hu
  congr 1
  rw [Bool.eq_iff_iff, decide_eq_true_eq, clo_mem h he, List.any_eq_true]
  constructor
  · rintro ⟨w, hw, hwn, _, hway⟩
    exact ⟨w, hw, (reach_iff (by omega) (by omega)).2 hway⟩
  · rintro ⟨w, hw, hm⟩
    have hwr := hrg w hw
    exact ⟨w, hw, hwr, by omega, (reach_iff (by omega) (by omega)).1 hm⟩
theorem bareG_len (bs : List (List Int)) : (bareG bs).length = bs.length := by simp [bareG]
theorem bareG_getD {bs : List (List Int)} {v : Nat} (hv : v < bs.length) : (bareG bs).getD v [] = bareRow bs v := by
  rw [bareG, List.getD, List.getElem?_map, List.getElem?_range hv]; rfl
theorem bareG_sub {bs : List (List Int)} (v : Nat) : ∀ u ∈ (bareG bs).getD v [], u ∈ bs.getD v [] := fun u hu => by
  rcases Nat.lt_or_ge v bs.length with h | h
  · rw [bareG_getD h] at hu; exact (List.mem_filter.1 hu).1
  · rw [List.getD, List.getElem?_eq_none (by rw [bareG_len]; exact h)] at hu; simp at hu
theorem tot_map_le {f : Nat → List Int} {g : Nat → List Int} (h : ∀ v, (f v).length ≤ (g v).length) : ∀ n, tot ((List.range n).map f) ≤ tot ((List.range n).map g)
  | 0 => by simp [tot]
  | n + 1 => by
    rw [List.range_succ, List.map_append, List.map_append]
    have := tot_map_le h n
    have h2 := h n
    simp only [List.map_cons, List.map_nil, tot_snoc]; omega
theorem map_getD (bs : List (List Int)) : (List.range bs.length).map (fun v => bs.getD v []) = bs := by
  apply List.ext_getElem
  · simp
  · intro i h1 h2; simp [List.getD, h2]
theorem tot_bare (bs : List (List Int)) : tot (bareG bs) ≤ tot bs := by
  have := tot_map_le (f := bareRow bs) (g := fun v => bs.getD v []) (fun v => List.length_filter_le _ _) bs.length
  rw [map_getD] at this
  exact this
section
variable {ls : List (List Int)}
/-- the bare graph's things -/
abbrev brs (ls : List (List Int)) : List (List Int) := bareG (befG ls)
theorem brs_len : (brs ls).length = ls.length := by rw [bareG_len, befG_len]
theorem brs_sub (v : Nat) : ∀ u ∈ (brs ls).getD v [], u ∈ ls.getD v [] := fun u hu => by
  have := bareG_sub v u hu
  rw [befG_getD, (tidyI_ok _).2] at this; exact this
theorem brs_rng (h : inRg ls.length ls = true) : inRg (brs ls).length (brs ls) = true := by
  rw [brs_len, inRg, List.all_eq_true]
  intro l hl
  rw [List.all_eq_true]
  intro x hx
  obtain ⟨v, hv, rfl⟩ := List.mem_map.1 hl
  have h1 := (List.mem_filter.1 hx).1
  rw [befG_getD, (tidyI_ok _).2] at h1
  have := getD_rng h v x h1
  simp; omega
theorem brs_edge {a b : Nat} (e : edge (brs ls) ls.length a b) : edge ls ls.length a b := ⟨e.1, e.2.1, brs_sub a _ e.2.2⟩
theorem brs_asc (v : Nat) : ((brs ls).getD v []).Pairwise (· < ·) := by
  rcases Nat.lt_or_ge v (befG ls).length with h | h
  · rw [bareG_getD h, bareRow]
    refine List.Pairwise.sublist List.filter_sublist ?_
    rw [befG_getD]; exact (tidyI_ok _).1
  · rw [List.getD, List.getElem?_eq_none (by rw [bareG_len]; exact h)]; simp
theorem brs_tidy (v : Nat) : (befG (brs ls)).getD v [] = (brs ls).getD v [] := by rw [befG_getD, tidyI_asc (brs_asc v)]
theorem brs_bef : befG (brs ls) = brs ls := by
  apply List.ext_getElem?
  intro i
  have h := brs_tidy (ls := ls) i
  rcases Nat.lt_or_ge i (brs ls).length with hi | hi
  · have h1 : i < (befG (brs ls)).length := by rw [befG_len]; exact hi
    rw [List.getD, List.getD, List.getElem?_eq_getElem h1, List.getElem?_eq_getElem hi] at h
    rw [List.getElem?_eq_getElem h1, List.getElem?_eq_getElem hi]
    exact congrArg some h
  · rw [List.getElem?_eq_none (by rw [befG_len]; exact hi), List.getElem?_eq_none hi]
/-- a way stays a way -/
theorem brs_way (h : inRg ls.length ls = true) (he : ∀ r ∈ befG ls, r.length ≤ 100 ∧ Rng ls.length r) {o : List Int} (s : Stands ls o) : ∀ (m v u : Nat), posO o v - posO o u ≤ m → Way (edge ls ls.length) v u → Way (edge (brs ls) ls.length) v u
  | m, v, u, hm, hw => by
    have key : ∀ a b : Nat, posO o a - posO o b ≤ m → edge ls ls.length a b → Way (edge (brs ls) ls.length) a b := fun a b hab e => by
      by_cases hc : (b : Int) ∈ (brs ls).getD a []
      · exact .one ⟨e.1, e.2.1, hc⟩
      · rw [bareG_getD (by rw [befG_len]; exact e.1), bareRow, List.mem_filter] at hc
        have hin : (b : Int) ∈ (befG ls).getD a [] := by rw [befG_getD, (tidyI_ok _).2]; exact e.2.2
        have hcl : (b : Int) ∈ cloG (befG ls) ((befG ls).getD a []) := Classical.byContradiction (fun hn => hc ⟨hin, by rw [Bool.not_eq_true', decide_eq_false_iff_not]; exact hn⟩)
        obtain ⟨w, hw1, hwn, _, hw2⟩ := (clo_mem h he _ _).1 hcl
        rw [Int.toNat_natCast] at hw2
        have hwv : ((w.toNat : Nat) : Int) = w := by omega
        have e2 : edge ls ls.length a w.toNat := ⟨e.1, by omega, by rw [hwv, ← (tidyI_ok _).2, ← befG_getD]; exact hw1⟩
        have p1 := s.edge_lt e2
        have p2 := s.way_lt hw2
        cases m with
        | zero => omega
        | succ m => exact (brs_way h he s m a w.toNat (by omega) (.one e2)).trans (brs_way h he s m w.toNat b (by omega) hw2)
    cases hw with
    | one e => exact key _ _ hm e
    | @more a b c e k =>
      have p1 := s.edge_lt e
      have p2 := s.way_lt k
      cases m with
      | zero => omega
      | succ m =>
        exact (key v b (by omega) e).trans (brs_way h he s m b u (by omega) k)
theorem brs_ok (h : okG ls) (ht : tot ls ≤ 100) : okG (brs ls) := by
  have s := stands h ht
  have h1 := brs_rng h.1
  have h2 : tot (brs ls) ≤ 100 := by have := tot_bare (befG ls); have := tot_bef ls; show tot (bareG (befG ls)) ≤ 100; omega
  refine ⟨h1, ?_⟩
  have hg := graphOk h1 h2
  have := kahn_full hg (posO (ordG ls)) (fun v u hv hu => s.edge_lt ⟨by rw [brs_len] at hv; exact hv, by
      have := getD_rng h1 v u (by rw [befG_getD, (tidyI_ok _).2] at hu; exact hu)
      rw [brs_len] at this; omega, brs_sub v _ (by rw [befG_getD, (tidyI_ok _).2] at hu; exact hu)⟩) (fun i => by
    rw [befG_getD]; intro x hx; exact getD_rng h1 i x (((tidyI_ok _).2 x).1 hx))
  exact this
theorem brs_far (h : okG ls) (ht : tot ls ≤ 100) (he : ∀ r ∈ befG ls, r.length ≤ 100 ∧ Rng ls.length r) (l : List Int) : cloG (befG (brs ls)) l = cloG (befG ls) l := by
  have s := stands h ht
  have he2 : ∀ r ∈ befG (brs ls), r.length ≤ 100 ∧ Rng (brs ls).length r := by
    rw [brs_bef]
    intro r hr
    obtain ⟨v, hv, rfl⟩ := List.mem_map.1 hr
    have hv' : v < (befG ls).length := by simpa using hv
    have h3 := he ((befG ls)[v]) (List.getElem_mem hv')
    have h4 : (befG ls).getD v [] = (befG ls)[v] := by rw [List.getD, List.getElem?_eq_getElem hv']; rfl
    refine ⟨?_, fun x hx => ?_⟩
    · have := List.length_filter_le (fun u => !decide (u ∈ cloG (befG ls) ((befG ls).getD v []))) ((befG ls).getD v [])
      rw [bareRow]; rw [h4] at this ⊢; omega
    · rw [brs_len]
      have := (List.mem_filter.1 hx).1
      rw [h4] at this
      exact h3.2 x this
  refine asc_ext (numsK_asc _ _) (numsK_asc _ _) (fun u => ?_)
  show u ∈ cloG _ _ ↔ u ∈ cloG _ _
  rw [clo_mem (brs_rng h.1) he2, clo_mem h.1 he, brs_len]
  constructor
  · rintro ⟨v, hv, hvn, hu, hw⟩
    exact ⟨v, hv, hvn, hu, hw.mono (fun a b => brs_edge)⟩
  · rintro ⟨v, hv, hvn, hu, hw⟩
    exact ⟨v, hv, hvn, hu, brs_way h.1 he s _ _ _ (Nat.le_refl _) hw⟩
theorem brs_twice (h : okG ls) (ht : tot ls ≤ 100) (he : ∀ r ∈ befG ls, r.length ≤ 100 ∧ Rng ls.length r) : bareG (befG (brs ls)) = brs ls := by
  apply List.ext_getElem
  · rw [bareG_len, befG_len]
  · intro i h1 h2
    have hi : i < (befG (brs ls)).length := by rw [bareG_len] at h1; exact h1
    have hi2 : i < (befG ls).length := by rw [befG_len, brs_len] at hi; rw [befG_len]; exact hi
    have e1 : (bareG (befG (brs ls)))[i] = bareRow (befG (brs ls)) i := by have := bareG_getD hi; rw [List.getD, List.getElem?_eq_getElem h1] at this; exact this
    have e2 : (brs ls)[i] = (brs ls).getD i [] := by rw [List.getD, List.getElem?_eq_getElem h2]; rfl
    rw [e1, e2, bareRow, brs_tidy]
    refine List.filter_eq_self.2 (fun u hu => ?_)
    rw [brs_far h ht he]
    have h3 : u ∈ bareRow (befG ls) i := by rw [← bareG_getD hi2]; exact hu
    have h4 := (List.mem_filter.1 h3).2
    rw [Bool.not_eq_true', decide_eq_false_iff_not] at h4 ⊢
    intro hc
    refine h4 ?_
    obtain ⟨w, hw, hwn, hu0, hway⟩ := (clo_mem h.1 he _ _).1 hc
    exact (clo_mem h.1 he _ _).2 ⟨w, bareG_sub i w hw, hwn, hu0, hway⟩
end
end Go.Proofs.Ytmejjeeobhapfaa
