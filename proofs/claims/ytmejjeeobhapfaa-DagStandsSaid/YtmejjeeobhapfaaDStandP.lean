/-
  The levels stand: plain. Conditions: none.
-/
import Derived.Test.YtmejjeeobhapfaaDKahn
namespace Go.Proofs.Ytmejjeeobhapfaa
open Go.RowKit
set_option linter.unusedVariables false
set_option linter.unusedSimpArgs false

theorem lvIns_spec {v : Nat} : ∀ (l : List Int) (lv : List Int), v < lv.length → (∀ u ∈ l, u.toNat ≠ v) →
    (∀ i : Nat, i ≠ v → (l.foldl (lvIn v) lv).getD i 0 = lv.getD i 0) ∧ lv.getD v 0 ≤ (l.foldl (lvIn v) lv).getD v 0 ∧ ∀ u ∈ l, lv.getD u.toNat 0 + 1 ≤ (l.foldl (lvIn v) lv).getD v 0
  | [], lv, _, _ => ⟨fun _ _ => rfl, Int.le_refl _, by simp⟩
  | x :: l, lv, hv, h => by
    have h1 : ∀ i : Nat, i ≠ v → (lvIn v lv x).getD i 0 = lv.getD i 0 := fun i hi => by
      rw [lvIn, List.getD, List.getElem?_set_ne (fun e => hi e.symm), List.getD]
    have h2 : (lvIn v lv x).getD v 0 = max (lv.getD v 0) (lv.getD x.toNat 0 + 1) := by
      rw [lvIn, List.getD, List.getElem?_set_self hv]; rfl
    obtain ⟨k1, k2, k3⟩ := lvIns_spec l (lvIn v lv x) (by rw [lvIn, List.length_set]; exact hv) (fun u hu => h u (List.mem_cons_of_mem _ hu))
    rw [List.foldl_cons]
    refine ⟨fun i hi => by rw [k1 i hi, h1 i hi], by omega, fun u hu => ?_⟩
    rcases List.mem_cons.1 hu with rfl | hu
    · omega
    · have := k3 u hu
      rw [h1 _ (h u (List.mem_cons_of_mem _ hu))] at this
      exact this
theorem nodup_at {o : List Int} (h : o.Nodup) {i j : Nat} {x : Int} (hi : o[i]? = some x) (hj : o[j]? = some x) : i = j := by
  obtain ⟨hi1, hi2⟩ := List.getElem?_eq_some_iff.1 hi
  obtain ⟨hj1, hj2⟩ := List.getElem?_eq_some_iff.1 hj
  rcases Nat.lt_trichotomy i j with h1 | h1 | h1
  · have := List.pairwise_iff_getElem.1 h i j hi1 hj1 h1; rw [hi2, hj2] at this; exact absurd rfl this
  · exact h1
  · have := List.pairwise_iff_getElem.1 h j i hj1 hi1 h1; rw [hi2, hj2] at this; exact absurd rfl this
theorem levs_lt {ls : List (List Int)} {o : List Int} (s : Stands ls o) (hin : inRg ls.length ls = true) (hb : ∀ l ∈ befG ls, l.length ≤ 100) : ∀ k, k ≤ o.length → ∀ i, i < k → ∀ v, o[i]? = some v → ∀ u ∈ ls.getD v.toNat [],
    ((o.take k).foldl (lvOut (befG ls)) (List.replicate (befG ls).length 0)).getD u.toNat 0 + 1 ≤ ((o.take k).foldl (lvOut (befG ls)) (List.replicate (befG ls).length 0)).getD v.toNat 0
  | 0, _, i, hi, _, _, _, _ => by omega
  | k + 1, hk, i, hi, v, hv, u, hu => by
    have hok : o[k]? = some o[k] := List.getElem?_eq_getElem (by omega)
    have hlen := (levs_ok hb o k (by omega)).2
    rw [take_snoc' hok, List.foldl_append]
    obtain ⟨lv, hlv⟩ : ∃ lv, (o.take k).foldl (lvOut (befG ls)) (List.replicate (befG ls).length 0) = lv := ⟨_, rfl⟩
    have ih := levs_lt s hin hb k (by omega)
    rw [hlv] at ih hlen ⊢
    simp only [List.foldl_cons, List.foldl_nil, lvOut, befG_getD]
    have hokr := s.rg o[k] (List.getElem_mem (by omega))
    have hmem : ∀ x, x ∈ tidyI (ls.getD o[k].toNat []) ↔ x ∈ ls.getD o[k].toNat [] := (tidyI_ok _).2
    have hself : ∀ x ∈ tidyI (ls.getD o[k].toNat []), x.toNat ≠ o[k].toNat := fun x hx e => by
      have h1 := s.tp k _ hok x ((hmem x).1 hx)
      have hxr := getD_rng hin _ x ((hmem x).1 hx)
      have : x = o[k] := by omega
      subst this
      obtain ⟨j, hj, hjx⟩ := List.getElem_of_mem h1
      have hjk : j < k := by simp at hj; omega
      rw [List.getElem_take] at hjx
      have := nodup_at s.nd (i := j) (j := k) (x := o[k]) (by rw [List.getElem?_eq_getElem (by omega), hjx]) hok
      omega
    obtain ⟨k1, k2, k3⟩ := lvIns_spec (v := o[k].toNat) (tidyI (ls.getD o[k].toNat [])) lv (by rw [hlen, befG_len]; omega) hself
    have hur := getD_rng hin _ u hu
    rcases Nat.lt_or_ge i k with h | h
    · have h2 := ih i h v hv u hu
      have hvr := s.rg v (List.mem_of_getElem? hv)
      have hvk : v.toNat ≠ o[k].toNat := fun e => by
        have : v = o[k] := by omega
        have := nodup_at s.nd (i := i) (j := k) (by rw [hv, this]) hok; omega
      have huk : u.toNat ≠ o[k].toNat := fun e => by
        have h3 := s.tp i v hv u hu
        obtain ⟨j, hj, hjx⟩ := List.getElem_of_mem h3
        have hji : j < i := by simp at hj; omega
        rw [List.getElem_take] at hjx
        have : u = o[k] := by omega
        have := nodup_at s.nd (i := j) (j := k) (by rw [List.getElem?_eq_getElem (by omega), hjx, this]) hok
        omega
      rw [k1 _ huk, k1 _ hvk]
      exact h2
    · obtain rfl : i = k := by omega
      rw [hok] at hv
      cases hv
      have huk := hself u ((hmem u).2 hu)
      rw [k1 _ huk]
      exact k3 u ((hmem u).2 hu)
def levT (ls : List (List Int)) : List Int := levs (befG ls) (ordG ls)
theorem levT_lt {ls : List (List Int)} (s : Stands ls (ordG ls)) (hin : inRg ls.length ls = true) (hb : ∀ l ∈ befG ls, l.length ≤ 100) {v : Nat} (hv : v < ls.length) {u : Int} (hu : u ∈ ls.getD v []) : (levT ls).getD u.toNat 0 < (levT ls).getD v 0 := by
  have hm := s.all v hv
  obtain ⟨i, hi, hiv⟩ := List.getElem_of_mem hm
  have h := levs_lt s hin hb (ordG ls).length (Nat.le_refl _) i hi (v : Int) (by rw [List.getElem?_eq_getElem hi, hiv]) u (by rw [Int.toNat_natCast]; exact hu)
  rw [List.take_length, Int.toNat_natCast] at h
  show (levs _ _).getD _ _ < (levs _ _).getD _ _
  rw [levs]; omega
theorem padO_getD (out : List (List Int)) (k j : Nat) : (padO out k).getD j [] = out.getD j [] := by
  rw [padO, List.getD, List.getD]
  rcases Nat.lt_or_ge j out.length with h | h
  · rw [List.getElem?_append_left h]
  · rw [List.getElem?_append_right h, List.getElem?_replicate, List.getElem?_eq_none h]
    split <;> rfl
theorem putO_getD (out : List (List Int)) (v k j : Nat) : (putO out v k).getD j [] = out.getD j [] ++ if j = k then [(v : Int)] else [] := by
  have hk : k < (padO out k).length := by rw [padO_len]; omega
  by_cases h : j = k
  · subst h
    rw [putO, List.getD, List.getElem?_set_self hk, if_pos rfl, Option.getD, padO_getD]
  · rw [putO, List.getD, List.getElem?_set_ne (fun e => h e.symm), if_neg h, List.append_nil]
    exact padO_getD out k j
theorem lvlK_getD {lv : List Int} (h0 : ∀ x ∈ lv, 0 ≤ x) (j : Nat) : ∀ k, (lvlK lv k).getD j [] = numsK (fun v => decide ((lv.getD v 0).toNat = j)) k
  | 0 => by simp [lvlK, numsK]
  | k + 1 => by
    rw [lvlK, putO_getD, lvlK_getD h0 j k, numsK_succ]
    by_cases h : j = (lv.getD k 0).toNat
    · rw [if_pos h, if_pos (by simp [h])]
    · rw [if_neg h, if_neg (by simp; exact fun e => h e.symm)]
theorem tot_set {rows : List (List Int)} {k : Nat} {r : List Int} (hk : rows[k]? = some r) (x : Int) : tot (rows.set k (r ++ [x])) = tot rows + 1 := by
  induction rows generalizing k with
  | nil => simp at hk
  | cons a rows ih =>
    cases k with
    | zero => simp at hk; subst hk; simp [tot]; omega
    | succ k => simp at hk; have := ih hk; simp only [tot, List.set_cons_succ, List.map_cons, List.sum_cons] at this ⊢; omega
theorem tot_lvlK (lv : List Int) : ∀ k, tot (lvlK lv k) = k
  | 0 => rfl
  | k + 1 => by
    have hk : (lv.getD k 0).toNat < (padO (lvlK lv k) (lv.getD k 0).toNat).length := by rw [padO_len]; omega
    have h1 : tot (padO (lvlK lv k) (lv.getD k 0).toNat) = k := by
      have : ∀ n, ((List.replicate n ([] : List Int)).map List.length).sum = 0 := fun n => by induction n with
        | zero => rfl
        | succ n ih => simp only [List.replicate_succ, List.map_cons, List.sum_cons, ih]; rfl
      have h2 := tot_lvlK lv k
      unfold tot at h2 ⊢
      rw [padO, List.map_append, List.sum_append, this, h2]; rfl
    rw [lvlK, putO]
    have h3 := List.getElem?_eq_getElem hk
    rw [RdLL.getD_ h3, tot_set h3, h1]
end Go.Proofs.Ytmejjeeobhapfaa
