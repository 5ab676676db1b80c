/-
  What one waits for, and what waits for it: the program's and the document's are one: plain. Conditions: none.
-/
import Derived.Test.YtmejjeeobhapfaaDKnownP
namespace Go.Proofs.Ytmejjeeobhapfaa
open Go.RowKit
set_option linter.unusedVariables false
set_option linter.unusedSimpArgs false

theorem asc_ext : ∀ {a b : List Int}, a.Pairwise (· < ·) → b.Pairwise (· < ·) → (∀ x, x ∈ a ↔ x ∈ b) → a = b
  | [], [], _, _, _ => rfl
  | [], y :: b, _, _, h => by have := (h y).2 (List.mem_cons_self ..); simp at this
  | x :: a, [], _, _, h => by have := (h x).1 (List.mem_cons_self ..); simp at this
  | x :: a, y :: b, ha, hb, h => by
    have ha' := List.pairwise_cons.1 ha
    have hb' := List.pairwise_cons.1 hb
    have hxy : x = y := by
      rcases List.mem_cons.1 ((h x).1 (List.mem_cons_self ..)) with h1 | h1
      · exact h1
      · rcases List.mem_cons.1 ((h y).2 (List.mem_cons_self ..)) with h2 | h2
        · exact h2.symm
        · have := hb'.1 x h1; have := ha'.1 y h2; omega
    subst hxy
    rw [asc_ext ha'.2 hb'.2 (fun z => ?_)]
    constructor
    · intro hz
      rcases List.mem_cons.1 ((h z).1 (List.mem_cons_of_mem _ hz)) with h1 | h1
      · have := ha'.1 z hz; omega
      · exact h1
    · intro hz
      rcases List.mem_cons.1 ((h z).2 (List.mem_cons_of_mem _ hz)) with h1 | h1
      · have := hb'.1 z hz; omega
      · exact h1
theorem numsK_mem (p : Nat → Bool) (k : Nat) (x : Int) : x ∈ numsK p k ↔ ∃ i : Nat, x = (i : Int) ∧ i < k ∧ p i = true := by
  simp only [numsK, List.mem_map, List.mem_filter, List.mem_range]
  exact ⟨fun ⟨i, h, e⟩ => ⟨i, e.symm, h⟩, fun ⟨i, e, h⟩ => ⟨i, h, e.symm⟩⟩
theorem numsK_asc (p : Nat → Bool) : ∀ k, (numsK p k).Pairwise (· < ·)
  | 0 => by simp [numsK]
  | k + 1 => by
    rw [numsK_succ]
    split
    · rw [List.pairwise_append]
      refine ⟨numsK_asc p k, by simp, fun a ha b hb => ?_⟩
      obtain ⟨i, rfl, hi, _⟩ := (numsK_mem p k a).1 ha
      simp at hb; subst hb; omega
    · simpa using numsK_asc p k
theorem sortI_sorted (l : List Int) : (sortI l).Pairwise (· ≤ ·) := by
  have := List.pairwise_mergeSort (le := fun x y : Int => decide (x ≤ y)) (fun a b c => by simp; omega) (fun a b => by simp; omega) l
  exact this.imp (fun h => by simpa using h)
theorem compact_ok {d : Array Int} (hd : ∀ i j, i < j → j < d.size → d[i]! ≤ d[j]!) : ∀ m, m ≤ d.size → (Lib.compactUpTo d m).Pairwise (· < ·) ∧ (∀ x ∈ Lib.compactUpTo d m, x ≤ d[m - 1]!) ∧ ∀ i, i < m → d[i]! ∈ Lib.compactUpTo d m
  | 0, _ => by simp [Lib.compactUpTo]
  | m + 1, hm => by
    obtain ⟨h1, h2, h3⟩ := compact_ok hd m (by omega)
    rw [Lib.compactUpTo_succ]
    by_cases hk : Lib.keeps d m = true
    · rw [if_pos hk]
      have hlt : ∀ x ∈ Lib.compactUpTo d m, x < d[m]! := fun x hx => by
        rw [Lib.keeps, decide_eq_true_eq] at hk
        rcases hk with h0 | hne
        · subst h0; simp [Lib.compactUpTo] at hx
        · have h4 := h2 x hx
          rcases Nat.eq_zero_or_pos m with h0 | h0
          · subst h0; simp [Lib.compactUpTo] at hx
          · have := hd (m - 1) m (by omega) (by omega); omega
      refine ⟨?_, fun x hx => ?_, fun i hi => ?_⟩
      · rw [List.pairwise_append]
        exact ⟨h1, by simp, fun a ha b hb => by simp at hb; subst hb; exact hlt a ha⟩
      · rw [Nat.add_sub_cancel]
        rcases List.mem_append.1 hx with h | h
        · exact Int.le_of_lt (hlt x h)
        · simp at h; subst h; exact Int.le_refl _
      · rcases Nat.lt_or_ge i m with h | h
        · exact List.mem_append.2 (.inl (h3 i h))
        · obtain rfl : i = m := by omega
          exact List.mem_append.2 (.inr (by simp))
    · rw [if_neg hk, List.append_nil]
      have hk' : ¬ (m = 0 ∨ d[m]! ≠ d[m - 1]!) := by rw [Lib.keeps, decide_eq_true_eq] at hk; exact hk
      have hm0 : m ≠ 0 := fun h => hk' (.inl h)
      have he : d[m]! = d[m - 1]! := Classical.byContradiction fun h => hk' (.inr h)
      refine ⟨h1, fun x hx => ?_, fun i hi => ?_⟩
      · rw [Nat.add_sub_cancel, he]; exact h2 x hx
      · rcases Nat.lt_or_ge i m with h | h
        · exact h3 i h
        · obtain rfl : i = m := by omega
          rw [he]; exact h3 (i - 1) (by omega)
theorem tidyI_ok (l : List Int) : (tidyI l).Pairwise (· < ·) ∧ ∀ x, x ∈ tidyI l ↔ x ∈ l := by
  have hs := sortI_sorted l
  have hd : ∀ i j, i < j → j < (sortI l).toArray.size → (sortI l).toArray[i]! ≤ (sortI l).toArray[j]! := fun i j hij hj => by
    have hj' : j < (sortI l).length := by simpa using hj
    rw [getElem!_pos _ i (by simp; omega), getElem!_pos _ j hj]
    simpa using List.pairwise_iff_getElem.1 hs i j (by omega) hj' hij
  have h := compact_ok hd (sortI l).length (by simp)
  refine ⟨h.1, fun x => ⟨tidyI_mem_sub, fun hx => ?_⟩⟩
  have hx' : x ∈ sortI l := (List.mergeSort_perm l _).mem_iff.2 hx
  obtain ⟨i, hi, rfl⟩ := List.getElem_of_mem hx'
  have := h.2.2 i hi
  rw [getElem!_pos _ i (by simpa using hi)] at this
  simpa [tidyI, Lib.compact] using this
theorem inRg_at {n : Nat} {ls : List (List Int)} (h : inRg n ls = true) {l : List Int} (hl : l ∈ ls) : Rng n l := fun x hx => by
  simp only [inRg, List.all_eq_true, Bool.and_eq_true, decide_eq_true_eq] at h
  exact h l hl x hx
theorem getD_rng {n : Nat} {ls : List (List Int)} (h : inRg n ls = true) (i : Nat) : Rng n (ls.getD i []) := by
  rw [List.getD]
  cases hh : ls[i]? with
  | none => simp [Rng]
  | some l => exact inRg_at h (List.mem_of_getElem? hh)
theorem befG_getD (ls : List (List Int)) (i : Nat) : (befG ls).getD i [] = tidyI (ls.getD i []) := by
  rw [befG, List.getD, List.getElem?_map, List.getD]
  cases ls[i]? with
  | none => simp [tidyI, sortI, Lib.compact, Lib.compactUpTo]
  | some l => rfl
theorem tidy_nums {n : Nat} {l : List Int} (h : Rng n l) : tidyI l = numsK (fun u => decide ((u : Int) ∈ l)) n := by
  refine asc_ext (tidyI_ok l).1 (numsK_asc _ n) (fun x => ?_)
  rw [(tidyI_ok l).2, numsK_mem]
  constructor
  · intro hx
    have := h x hx
    exact ⟨x.toNat, by omega, by omega, by rw [decide_eq_true_eq, show ((x.toNat : Nat) : Int) = x by omega]; exact hx⟩
  · rintro ⟨i, rfl, _, hi⟩
    simpa using hi
theorem before_near {ls : List (List Int)} (h : inRg ls.length ls = true) (v : Int) : (if 0 ≤ v ∧ v < ls.length then (befG ls).getD v.toNat [] else []) = befR ls v := by
  rw [befR]
  split
  · rw [befG_getD, tidy_nums (getD_rng h _)]
  · rfl
theorem pushes_at {k v : Nat} : ∀ (l : List Int) (hs : List (List Int)), l.Pairwise (· < ·) → (∀ x ∈ l, 0 ≤ x) → v < hs.length → (l.foldl (pushB k) hs).getD v [] = hs.getD v [] ++ if (v : Int) ∈ l then [(k : Int)] else []
  | [], hs, _, _, _ => by simp
  | x :: l, hs, hp, h0, hv => by
    have hp' := List.pairwise_cons.1 hp
    rw [List.foldl_cons, pushes_at l (pushB k hs x) hp'.2 (fun y hy => h0 y (List.mem_cons_of_mem _ hy)) (by rw [pushB, List.length_set]; exact hv)]
    have hx0 := h0 x (List.mem_cons_self ..)
    by_cases hxv : x = (v : Int)
    · subst hxv
      have h1 : (pushB k hs (v : Int)).getD v [] = hs.getD v [] ++ [(k : Int)] := by
        rw [pushB, Int.toNat_natCast, List.getD, List.getElem?_set_self (by exact hv)]; rfl
      rw [h1, if_pos (List.mem_cons_self ..), if_neg (fun hm => by have := hp'.1 _ hm; omega), List.append_nil]
    · have h1 : (pushB k hs x).getD v [] = hs.getD v [] := by
        rw [pushB, List.getD, List.getElem?_set_ne (by omega), List.getD]
      rw [h1]
      by_cases hm : (v : Int) ∈ l
      · rw [if_pos hm, if_pos (List.mem_cons_of_mem _ hm)]
      · rw [if_neg hm, if_neg (fun h => by rcases List.mem_cons.1 h with h | h; exact hxv h.symm; exact hm h)]
theorem behK_at {bs : List (List Int)} {n v : Nat} (hb : ∀ l ∈ bs, l.Pairwise (· < ·) ∧ ∀ x ∈ l, 0 ≤ x) (hv : v < n) : ∀ k, (behK bs n k).getD v [] = numsK (fun u => decide ((v : Int) ∈ bs.getD u [])) k
  | 0 => by rw [behK, List.getD, List.getElem?_replicate, if_pos hv]; rfl
  | k + 1 => by
    have h1 : (bs.getD k []).Pairwise (· < ·) ∧ ∀ x ∈ bs.getD k [], 0 ≤ x := by
      rw [List.getD]
      cases hh : bs[k]? with
      | none => simp
      | some l => exact hb l (List.mem_of_getElem? hh)
    rw [behK, pushes_at _ _ h1.1 h1.2 (by rw [behK_len]; exact hv), behK_at hb hv k, numsK_succ]
    by_cases hm : (v : Int) ∈ bs.getD k []
    · simp [hm]
    · simp [hm]
theorem befG_ok {ls : List (List Int)} (h : inRg ls.length ls = true) : ∀ l ∈ befG ls, l.Pairwise (· < ·) ∧ ∀ x ∈ l, 0 ≤ x := fun l hl => by
  obtain ⟨r, hr, rfl⟩ := List.mem_map.1 hl
  exact ⟨(tidyI_ok r).1, fun x hx => (inRg_at h hr x (((tidyI_ok r).2 x).1 hx)).1⟩
theorem behG_at {ls : List (List Int)} (h : inRg ls.length ls = true) {v : Nat} (hv : v < ls.length) : (behG ls).getD v [] = numsK (fun u => decide ((v : Int) ∈ ls.getD u [])) ls.length := by
  rw [behG, behK_at (befG_ok h) hv]
  congr 1
  funext u
  rw [befG_getD, decide_eq_decide]
  exact (tidyI_ok _).2 _
theorem behind_near {ls : List (List Int)} (h : inRg ls.length ls = true) (v : Int) : (if 0 ≤ v ∧ v < ls.length then (behG ls).getD v.toNat [] else []) = behR ls v := by
  rw [behR]
  by_cases h0 : 0 ≤ v
  · by_cases h1 : v < ls.length
    · rw [if_pos ⟨h0, h1⟩, if_pos h0, behG_at h (by omega), show ((v.toNat : Nat) : Int) = v by omega]
    · rw [if_neg (fun hh => h1 hh.2), if_pos h0]
      refine (List.eq_nil_iff_forall_not_mem.2 (fun x hx => ?_)).symm
      obtain ⟨i, _, _, hi⟩ := (numsK_mem _ _ _).1 hx
      have := getD_rng h i v (by simpa using hi)
      omega
  · rw [if_neg (fun hh => h0 hh.1), if_neg h0]
end Go.Proofs.Ytmejjeeobhapfaa
