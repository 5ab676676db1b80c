/-
  All that one comes to, by the program's search and by the document's table: plain. Conditions: none.
-/
import Derived.Test.YtmejjeeobhapfaaDWarP
import Derived.Test.YtmejjeeobhapfaaDNear
namespace Go.Proofs.Ytmejjeeobhapfaa
open Go.RowKit
set_option linter.unusedVariables false
set_option linter.unusedSimpArgs false

theorem set_true {s : List Bool} {i v : Nat} (h : s[i]? = some true) : (s.set v true)[i]? = some true := by
  rw [List.getElem?_set]
  split
  · rename_i e; subst e; rw [if_pos (List.getElem?_eq_some_iff.1 h).1]
  · exact h
theorem cloL_sem {n : Nat} {es : List (List Int)} (he : ∀ r ∈ es, r.length ≤ 100 ∧ Rng n r) {G : Nat → Prop} (hG : ∀ i j : Nat, G i → (j : Int) ∈ es.getD i [] → G j) :
    ∀ (f : Nat) (seen : List Bool) (todo : List Int), meas (seen, todo) ≤ f → seen.length = n → Rng n todo → (∀ i, seen[i]? = some true → G i) → (∀ x ∈ todo, G x.toNat) →
      (∀ i : Nat, seen[i]? = some true → ∀ x ∈ es.getD i [], seen[x.toNat]? = some true ∨ x ∈ todo) →
      (∀ i, (cloL es f (seen, todo))[i]? = some true → G i) ∧ (∀ i : Nat, seen[i]? = some true → (cloL es f (seen, todo))[i]? = some true) ∧ (∀ x ∈ todo, (cloL es f (seen, todo))[x.toNat]? = some true) ∧
      (∀ i : Nat, (cloL es f (seen, todo))[i]? = some true → ∀ x ∈ es.getD i [], (cloL es f (seen, todo))[x.toNat]? = some true) := by
  have done : ∀ (f : Nat) (seen : List Bool), (∀ i, seen[i]? = some true → G i) → (∀ i : Nat, seen[i]? = some true → ∀ x ∈ es.getD i [], seen[x.toNat]? = some true ∨ x ∈ ([] : List Int)) →
      (∀ i, (cloL es f (seen, []))[i]? = some true → G i) ∧ (∀ i : Nat, seen[i]? = some true → (cloL es f (seen, []))[i]? = some true) ∧ (∀ x ∈ ([] : List Int), (cloL es f (seen, []))[x.toNat]? = some true) ∧
      (∀ i : Nat, (cloL es f (seen, []))[i]? = some true → ∀ x ∈ es.getD i [], (cloL es f (seen, []))[x.toNat]? = some true) := fun f seen h1 h3 => by
    rw [cloL_nil (s := (seen, [])) rfl]
    exact ⟨h1, fun _ h => h, by simp, fun i hi x hx => (h3 i hi x hx).elim id (fun h => by simp at h)⟩
  have hrng : ∀ i, Rng n (es.getD i []) := fun i => by
    rw [List.getD]
    cases hh : es[i]? with
    | none => simp [Rng]
    | some r => exact (he r (List.mem_of_getElem? hh)).2
  have hlen : ∀ i, (es.getD i []).length ≤ 100 := fun i => by
    rw [List.getD]
    cases hh : es[i]? with
    | none => simp
    | some r => exact (he r (List.mem_of_getElem? hh)).1
  intro f
  induction f with
  | zero =>
    intro seen todo hm hl hr h1 h2 h3
    have : todo = [] := by unfold meas at hm; simp only at hm; exact List.length_eq_zero_iff.1 (by omega)
    subst this
    exact done 0 seen h1 h3
  | succ f ih =>
    intro seen todo hm hl hr h1 h2 h3
    rcases List.eq_nil_or_concat todo with rfl | ⟨dl, v, rfl⟩
    · exact done _ seen h1 h3
    rw [List.concat_eq_append] at hm hr h2 h3 ⊢
    have hv := hr v (by simp)
    have hvn : v.toNat < seen.length := by omega
    have hlast : (dl ++ [v]).getLast? = some v := by simp
    have hdl : (dl ++ [v]).dropLast = dl := by simp
    have hrd : Rng n dl := fun x hx => hr x (List.mem_append.2 (.inl hx))
    have hmm : meas (seen, dl) ≤ f := by unfold meas at hm ⊢; simp only [List.length_append, List.length_singleton] at hm ⊢; omega
    obtain ⟨b, hb⟩ : ∃ b, seen[v.toNat]? = some b := ⟨_, List.getElem?_eq_getElem hvn⟩
    cases b with
    | true =>
      have e : cloL es (f + 1) (seen, dl ++ [v]) = cloL es f (seen, dl) := by
        rw [cloL]; simp only [hlast, hdl, List.getD, hb, Option.getD, if_true]
      rw [e]
      obtain ⟨k1, k2, k3, k4⟩ := ih seen dl hmm hl hrd h1 (fun x hx => h2 x (List.mem_append.2 (.inl hx))) (fun i hi x hx => by
        rcases h3 i hi x hx with h | h
        · exact .inl h
        · rcases List.mem_append.1 h with h | h
          · exact .inr h
          · simp at h; subst h; exact .inl hb)
      refine ⟨k1, k2, fun x hx => ?_, k4⟩
      rcases List.mem_append.1 hx with h | h
      · exact k3 x h
      · simp at h; subst h; exact k2 _ hb
    | false =>
      have e : cloL es (f + 1) (seen, dl ++ [v]) = cloL es f (seen.set v.toNat true, dl ++ es.getD v.toNat []) := by
        rw [cloL]; simp only [hlast, hdl, List.getD, hb, Option.getD]; simp
      rw [e]
      have hc := count_set hb
      have hself : (seen.set v.toNat true)[v.toNat]? = some true := List.getElem?_set_self hvn
      obtain ⟨k1, k2, k3, k4⟩ := ih (seen.set v.toNat true) (dl ++ es.getD v.toNat []) (by
          have := hlen v.toNat
          unfold meas at hm ⊢; simp only [List.length_append, List.length_singleton] at hm ⊢; omega) (by rw [List.length_set, hl]) (fun x hx => (List.mem_append.1 hx).elim (hrd x) (hrng _ x)) (fun i hi => by
          by_cases hiv : i = v.toNat
          · subst hiv; exact h2 v (by simp)
          · rw [List.getElem?_set_ne (fun e => hiv e.symm)] at hi; exact h1 i hi) (fun x hx => by
          rcases List.mem_append.1 hx with h | h
          · exact h2 x (List.mem_append.2 (.inl h))
          · have hx0 := hrng _ x h
            exact hG v.toNat x.toNat (h2 v (by simp)) (by rw [show ((x.toNat : Nat) : Int) = x by omega]; exact h)) (fun i hi x hx => by
          by_cases hiv : i = v.toNat
          · subst hiv; exact .inr (List.mem_append.2 (.inr hx))
          · rw [List.getElem?_set_ne (fun e => hiv e.symm)] at hi
            rcases h3 i hi x hx with h | h
            · exact .inl (set_true h)
            · rcases List.mem_append.1 h with h | h
              · exact .inr (List.mem_append.2 (.inl h))
              · simp at h; subst h; exact .inl hself)
      refine ⟨k1, fun i hi => k2 i (set_true hi), fun x hx => ?_, k4⟩
      rcases List.mem_append.1 hx with h | h
      · exact k3 x (List.mem_append.2 (.inl h))
      · simp at h; subst h; exact k2 _ hself
theorem rev_ind' {α : Type} {P : List α → Prop} (nil : P []) (snoc : ∀ l x, P l → P (l ++ [x])) (l : List α) : P l := by
  have : ∀ n (l : List α), l.length = n → P l := by
    intro n
    induction n with
    | zero => intro l hl; rw [List.length_eq_zero_iff.1 hl]; exact nil
    | succ n ih =>
      intro l hl
      rcases List.eq_nil_or_concat l with rfl | ⟨l', x, rfl⟩
      · simp at hl
      · rw [List.concat_eq_append] at hl ⊢
        exact snoc l' x (ih l' (by simpa using hl))
  exact this _ l rfl
theorem way_lt' {ls : List (List Int)} {n v u : Nat} (h : Way (edge ls n) v u) : v < n ∧ u < n := way_lt h
theorem tod0_mem {es : List (List Int)} (x : Int) : ∀ l : List Int, x ∈ tod0 es l ↔ ∃ v ∈ l, (0 ≤ v ∧ v < es.length) ∧ x ∈ es.getD v.toNat [] := by
  intro l
  induction l using rev_ind' with
  | nil => simp [tod0]
  | snoc l v ih =>
    rw [tod0_snoc]
    split
    · rename_i hv
      rw [List.mem_append, ih]
      constructor
      · rintro (⟨u, hu, h⟩ | h)
        · exact ⟨u, List.mem_append.2 (.inl hu), h⟩
        · exact ⟨v, by simp, hv, h⟩
      · rintro ⟨u, hu, h⟩
        rcases List.mem_append.1 hu with h1 | h1
        · exact .inl ⟨u, h1, h⟩
        · simp at h1; subst h1; exact .inr h.2
    · rename_i hv
      rw [ih]
      constructor
      · rintro ⟨u, hu, h⟩; exact ⟨u, List.mem_append.2 (.inl hu), h⟩
      · rintro ⟨u, hu, h⟩
        rcases List.mem_append.1 hu with h1 | h1
        · exact ⟨u, h1, h⟩
        · simp at h1; subst h1; exact absurd h.1 hv
/-- THE SEARCH FINDS ALL THAT THERE IS A WAY TO. -/
theorem cloS_iff {n : Nat} {es : List (List Int)} (hn : es.length = n) (he : ∀ r ∈ es, r.length ≤ 100 ∧ Rng n r) (l : List Int) (u : Nat) : (cloS es l).getD u false = true ↔ ∃ v ∈ l, (0 ≤ v ∧ v < (n : Int)) ∧ Way (edge es n) v.toNat u := by
  have hrng : ∀ i, Rng n (es.getD i []) := fun i => by
    rw [List.getD]
    cases hh : es[i]? with
    | none => simp [Rng]
    | some r => exact (he r (List.mem_of_getElem? hh)).2
  have hT : Rng n (tod0 es l) := by
    have := (tod0_ok he l l.length (Nat.le_refl _)).2
    rwa [List.take_length] at this
  have h := cloL_sem he (G := fun u => ∃ v ∈ l, (0 ≤ v ∧ v < (n : Int)) ∧ Way (edge es n) v.toNat u) (fun i j ⟨v, hv, h1, h2⟩ hj => ⟨v, hv, h1, h2.trans (.one ⟨(way_lt' h2).2, by have := hrng i j hj; omega, hj⟩)⟩)
    (es.length * 101 + (tod0 es l).length) (List.replicate es.length false) (tod0 es l) (by simp [meas]) (by simp [hn]) hT (fun i hi => by
      rw [List.getElem?_replicate] at hi; split at hi <;> simp at hi) (fun x hx => by
      obtain ⟨v, hv, h1, h2⟩ := (tod0_mem x l).1 hx
      have h3 := hrng _ x h2
      rw [hn] at h1
      exact ⟨v, hv, h1, .one ⟨by omega, by omega, by rw [show ((x.toNat : Nat) : Int) = x by omega]; exact h2⟩⟩) (fun i hi => by
      rw [List.getElem?_replicate] at hi; split at hi <;> simp at hi)
  obtain ⟨h1, _, h3, h4⟩ := h
  replace h4 : ∀ i : Nat, (cloS es l)[i]? = some true → ∀ x ∈ es.getD i [], (cloS es l)[x.toNat]? = some true := h4
  have hS : ∀ i, (cloS es l).getD i false = true ↔ (cloS es l)[i]? = some true := fun i => by
    rw [List.getD]
    cases (cloS es l)[i]? with
    | none => simp
    | some b => simp
  rw [hS]
  constructor
  · intro hu; exact h1 u hu
  · rintro ⟨v, hv, hvn, hw⟩
    have hbase : ∀ x ∈ es.getD v.toNat [], (cloS es l)[x.toNat]? = some true := fun x hx => h3 x ((tod0_mem x l).2 ⟨v, hv, by rw [hn]; exact hvn, hx⟩)
    have go : ∀ {a b : Nat}, Way (edge es n) a b → (∀ x ∈ es.getD a [], (cloS es l)[x.toNat]? = some true) → (cloS es l)[b]? = some true := by
      intro a b hw
      induction hw with
      | one e => intro hx; have := hx _ e.2.2; simpa using this
      | more e _ ih => intro hx; exact ih (h4 _ (by have := hx _ e.2.2; simpa using this))
    exact go hw hbase
def farT (ls : List (List Int)) (l : List Int) (above : Bool) : List Int := numsK (fun u => l.any fun v => decide (0 ≤ v ∧ v < (ls.length : Int)) && if above then mget (reachT ls) v.toNat u else mget (reachT ls) u v.toNat) ls.length
theorem edge_bef {ls : List (List Int)} (a b : Nat) : edge (befG ls) ls.length a b ↔ edge ls ls.length a b := by
  unfold edge; rw [befG_getD, (tidyI_ok _).2]
theorem edge_beh {ls : List (List Int)} (h : inRg ls.length ls = true) (a b : Nat) : edge (behG ls) ls.length a b ↔ edge ls ls.length b a := by
  unfold edge
  constructor
  · rintro ⟨h1, h2, h3⟩
    rw [behG_at h h1] at h3
    obtain ⟨i, hi, _, hp⟩ := (numsK_mem _ _ _).1 h3
    obtain rfl : b = i := by omega
    exact ⟨h2, h1, by simpa using hp⟩
  · rintro ⟨h1, h2, h3⟩
    exact ⟨h2, h1, by rw [behG_at h h2]; exact (numsK_mem _ _ _).2 ⟨b, rfl, h1, by simpa using h3⟩⟩
theorem befG_len (ls : List (List Int)) : (befG ls).length = ls.length := by simp [befG]
theorem behG_len (ls : List (List Int)) : (behG ls).length = ls.length := by rw [behG, behK_len]
theorem far_eq {n : Nat} {es : List (List Int)} {l : List Int} (hn : es.length = n) {p : Nat → Bool} (h : ∀ u, u < n → ((cloS es l).getD u false = true ↔ p u = true)) : cloG es l = numsK p n := by
  rw [cloG, hn, numsK, numsK]
  congr 1
  refine List.filter_congr (fun u hu => ?_)
  have := h u (by simpa using hu)
  rw [Bool.eq_iff_iff]; exact this
theorem far_above {ls : List (List Int)} (h : inRg ls.length ls = true) (he : ∀ r ∈ befG ls, r.length ≤ 100 ∧ Rng ls.length r) (l : List Int) : cloG (befG ls) l = farT ls l true := by
  refine far_eq (befG_len ls) (fun u hu => ?_)
  rw [cloS_iff (befG_len ls) he, List.any_eq_true]
  constructor
  · rintro ⟨v, hv, hvn, hw⟩
    refine ⟨v, hv, ?_⟩
    rw [Bool.and_eq_true, decide_eq_true_eq]
    exact ⟨hvn, by rw [if_pos rfl, reach_iff (by omega) hu]; exact hw.mono (fun a b => (edge_bef a b).1)⟩
  · rintro ⟨v, hv, h1⟩
    rw [Bool.and_eq_true, decide_eq_true_eq, if_pos rfl] at h1
    refine ⟨v, hv, h1.1, ?_⟩
    have := h1.2
    rw [reach_iff (by omega) hu] at this
    exact this.mono (fun a b => (edge_bef a b).2)
theorem far_below {ls : List (List Int)} (h : inRg ls.length ls = true) (he : ∀ r ∈ behG ls, r.length ≤ 100 ∧ Rng ls.length r) (l : List Int) : cloG (behG ls) l = farT ls l false := by
  refine far_eq (behG_len ls) (fun u hu => ?_)
  rw [cloS_iff (behG_len ls) he, List.any_eq_true]
  constructor
  · rintro ⟨v, hv, hvn, hw⟩
    refine ⟨v, hv, ?_⟩
    rw [Bool.and_eq_true, decide_eq_true_eq]
    exact ⟨hvn, by rw [if_neg (by simp), reach_iff hu (by omega)]; exact hw.flip (fun a b => (edge_beh h a b).1)⟩
  · rintro ⟨v, hv, h1⟩
    rw [Bool.and_eq_true, decide_eq_true_eq, if_neg (by simp)] at h1
    refine ⟨v, hv, h1.1, ?_⟩
    have := h1.2
    rw [reach_iff hu (by omega)] at this
    exact this.flip (fun a b => (edge_beh h b a).2)
end Go.Proofs.Ytmejjeeobhapfaa
