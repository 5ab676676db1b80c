/-
  Plain law: the sum of two profiles, at each time. Conditions: none.
-/
import Derived.Test.YtggfepphjaohiaaPAdd2
namespace Go.Proofs.Ytggfepphjaohiaa
open Go.RowKit
set_option linter.unusedVariables false
set_option linter.unusedSimpArgs false

def gSum (l m : List Stp) (x : Int) : Int := freeT l x + freeT m x
def sumL (l m : List Stp) : List Stp := tid (samp (gSum l m) (timesR l m 0 0))
def SumArg (l m : List Stp) : Prop := Prof l ∧ Prof m
def SumRoom (l m : List Stp) : Prop := ∀ x, 0 ≤ x → gSum l m x ≤ 10000
open Classical in
noncomputable def sumE (l m : List Stp) : Int := if SumArg l m ∧ SumRoom l m then 0 else 2
open Classical in
noncomputable def sumR (l m : List Stp) : List Stp := if SumArg l m ∧ SumRoom l m then sumL l m else []
theorem sum_ok {l m : List Stp} (h : SumArg l m) (h2 : SumRoom l m) : sumE l m = 0 ∧ sumR l m = sumL l m := by unfold sumE sumR; rw [if_pos ⟨h, h2⟩, if_pos ⟨h, h2⟩]; exact ⟨rfl, rfl⟩
theorem sum_bad {l m : List Stp} (h : ¬ (SumArg l m ∧ SumRoom l m)) : sumE l m = 2 ∧ sumR l m = [] := by unfold sumE sumR; rw [if_neg h, if_neg h]; exact ⟨rfl, rfl⟩
theorem gSum_const {l m : List Stp} {x y : Int} (h : ∀ s ∈ timesR l m 0 0, s ≤ x ↔ s ≤ y) : gSum l m x = gSum l m y := by
  obtain ⟨h1, h2, _, _⟩ := timesR_le h
  unfold gSum
  rw [h1, h2]
section
variable {l m : List Stp}
theorem zero_times2 : (0 : Int) ∈ timesR l m 0 0 := (timesR_mem _ _ _ _ _).2 (.inl rfl)
theorem times_nonneg2 (h : SumArg l m) : ∀ x ∈ timesR l m 0 0, 0 ≤ x := fun x hx => by
  rcases (timesR_mem _ _ _ _ _).1 hx with h1 | h1 | ⟨u, h1⟩ | ⟨u, h1⟩
  · omega
  · omega
  · exact (h.1.bound _ h1).1.1
  · exact (h.2.bound _ h1).1.1
theorem sumL_free {x : Int} (hx : 0 ≤ x) (n : Int) : freeG n (sumL l m) x = gSum l m x := by
  have ha := timesR_asc l m 0 0
  have := (tid_spec _ (samp_asc (g := gSum l m) ha)).2.2.2 n x
  unfold sumL
  rw [this]
  exact samp_free ha (fun x y h => gSum_const h) ⟨0, zero_times2, hx⟩ n
theorem sumL_norm : Norm (sumL l m) := (tid_spec _ (samp_asc (timesR_asc l m 0 0))).1
theorem sumL_starts (h : SumArg l m) : Starts (sumL l m) := by
  refine ⟨gSum l m 0, ?_⟩
  unfold sumL
  rw [(tid_spec _ (samp_asc (timesR_asc l m 0 0))).2.2.1]
  exact samp_head (head_zero (timesR_asc l m 0 0) zero_times2 (times_nonneg2 h))
theorem sumL_len : (sumL l m).length ≤ l.length + m.length + 2 := by
  have h1 := tid_len (samp (gSum l m) (timesR l m 0 0))
  have h2 := timesR_len l m 0 0
  rw [samp_len] at h1
  unfold sumL
  omega
theorem sumL_eq (h : SumArg l m) {r : List Stp} (hr : Norm r) (h0 : Starts r) (hf : ∀ x, 0 ≤ x → freeT r x = gSum l m x) : r = sumL l m :=
  norm_eq hr sumL_norm h0 (sumL_starts h) fun x hx => by rw [hf x hx]; exact (sumL_free hx 0).symm
theorem sum_room_times : SumRoom l m ↔ ∀ x ∈ timesR l m 0 0, 0 ≤ x → gSum l m x ≤ 10000 := by
  constructor
  · intro h x _ hx; exact h x hx
  · intro h x hx
    obtain ⟨τ, a1, a2, a3⟩ := last_le (x := x) ⟨0, zero_times2 (l := l) (m := m), hx⟩
    rw [gSum_const (x := x) (y := τ) fun s hs => ⟨fun h => a3 s hs h, fun h => by omega⟩]
    exact h τ a1 (a3 0 zero_times2 hx)
theorem sum_comm : sumL l m = sumL m l ∧ (SumArg l m ↔ SumArg m l) ∧ (SumRoom l m ↔ SumRoom m l) := by
  have hg : ∀ x, gSum l m x = gSum m l x := fun x => Int.add_comm _ _
  refine ⟨?_, ⟨fun h => ⟨h.2, h.1⟩, fun h => ⟨h.2, h.1⟩⟩, ⟨fun h x hx => by rw [← hg]; exact h x hx, fun h x hx => by rw [hg]; exact h x hx⟩⟩
  have hh : ∀ l m : List Stp, (∀ x ∈ timesR l m 0 0, x ∈ timesR m l 0 0) := fun l m x hx => by
    rw [timesR_mem] at hx ⊢
    rcases hx with h | h | h | h
    · exact .inl h
    · exact .inr (.inl h)
    · exact .inr (.inr (.inr h))
    · exact .inr (.inr (.inl h))
  have asc_ext : ∀ a b : List Int, a.Pairwise (· < ·) → b.Pairwise (· < ·) → (∀ x, x ∈ a ↔ x ∈ b) → a = b := fun a => by
    induction a with
    | nil =>
      intro b _ _ h
      cases b with
      | nil => rfl
      | cons y b => exact absurd ((h y).2 (by simp)) (by simp)
    | cons x a ih =>
      intro b ha hb h
      cases b with
      | nil => exact absurd ((h x).1 (by simp)) (by simp)
      | cons y b =>
        have h1 := List.pairwise_cons.1 ha
        have h2 := List.pairwise_cons.1 hb
        have hxy : x = y := by
          have e1 := (h x).1 (by simp)
          have e2 := (h y).2 (by simp)
          rcases List.mem_cons.1 e1 with e1 | e1
          · exact e1
          · rcases List.mem_cons.1 e2 with e2 | e2
            · exact e2.symm
            · have := h1.1 y e2; have := h2.1 x e1; omega
        subst hxy
        rw [ih b h1.2 h2.2 fun z => ?_]
        have hz := h z
        simp only [List.mem_cons] at hz
        constructor
        · intro hza
          rcases hz.1 (.inr hza) with e | e
          · subst e; have := h1.1 z hza; omega
          · exact e
        · intro hzb
          rcases hz.2 (.inr hzb) with e | e
          · subst e; have := h2.1 z hzb; omega
          · exact e
  unfold sumL
  rw [asc_ext _ _ (timesR_asc l m 0 0) (timesR_asc m l 0 0) fun x => ⟨hh l m x, hh m l x⟩]
  congr 1
  unfold samp
  exact List.map_congr_left fun x _ => by rw [hg]
theorem sum_swap : sumE m l = sumE l m ∧ sumR m l = sumR l m := by
  obtain ⟨h1, h2, h3⟩ := sum_comm (l := l) (m := m)
  by_cases h : SumArg l m ∧ SumRoom l m
  · have h' : SumArg m l ∧ SumRoom m l := ⟨h2.1 h.1, h3.1 h.2⟩
    exact ⟨(sum_ok h'.1 h'.2).1.trans (sum_ok h.1 h.2).1.symm, ((sum_ok h'.1 h'.2).2.trans h1.symm).trans (sum_ok h.1 h.2).2.symm⟩
  · have h' : ¬ (SumArg m l ∧ SumRoom m l) := fun k => h ⟨h2.2 k.1, h3.2 k.2⟩
    exact ⟨(sum_bad h').1.trans (sum_bad h).1.symm, (sum_bad h').2.trans (sum_bad h).2.symm⟩

/-- so far merged -/
structure Merge (l m O : List Stp) (i j : Nat) : Prop where
  il : i ≤ l.length
  jm : j ≤ m.length
  asc : Asc O
  sep : ∀ s, s ∈ O ∨ s ∈ l.take i ∨ s ∈ m.take j → ∀ r, r ∈ l.drop i ∨ r ∈ m.drop j → s.1 < r.1
  fr : ∀ x, freeT O x = freeT (l.take i) x + freeT (m.take j) x
  len : O.length ≤ i + j
  st : (i = 0 ∧ j = 0 ∧ O = []) ∨ (1 ≤ i ∧ 1 ≤ j ∧ Starts O)
  bd : ∀ s ∈ O, 0 ≤ s.2 ∧ s.2 ≤ 20000
theorem merge_start (h : SumArg l m) : Merge l m [] 0 0 :=
  ⟨Nat.zero_le _, Nat.zero_le _, List.Pairwise.nil, fun s hs => by simp at hs, fun x => rfl, Nat.le_refl _, .inl ⟨rfl, rfl, rfl⟩, fun s hs => by simp at hs⟩
/-- which one is next -/
def NextAt (l : List Stp) (i i' : Nat) (at_ : Int) : Prop := (i' = i + 1 ∧ ∃ u, l[i]? = some (at_, u)) ∨ (i' = i ∧ ∀ a u, l[i]? = some (a, u) → at_ < a)
theorem free_take_next (hl : Asc l) {i i' : Nat} {at_ : Int} (hn : NextAt l i i' at_) (h1 : 1 ≤ i') (hi : i ≤ l.length) (hs : ∀ s ∈ l.take i, s.1 < at_) :
    ∃ a u, l[i' - 1]? = some (a, u) ∧ a ≤ at_ ∧ ∀ x, freeT (l.take i') x = if at_ ≤ x then u else freeT (l.take i) x := by
  rcases hn with ⟨rfl, u, hu⟩ | ⟨rfl, hn⟩
  · refine ⟨at_, u, hu, Int.le_refl _, fun x => ?_⟩
    rw [take_snoc' hu, freeT_snoc]
  · obtain ⟨q, rfl⟩ : ∃ q, i' = q + 1 := ⟨i' - 1, by omega⟩
    have hx : l[q]? = some ((l[q]'(by omega)).1, (l[q]'(by omega)).2) := List.getElem?_eq_getElem (by omega)
    have ht : (l.take (q + 1)) = l.take q ++ [((l[q]'(by omega)).1, (l[q]'(by omega)).2)] := take_snoc' hx
    have hq := hs _ (by rw [ht]; simp : ((l[q]'(by omega)).1, (l[q]'(by omega)).2) ∈ l.take (q + 1))
    refine ⟨_, _, hx, Int.le_of_lt hq, fun x => ?_⟩
    by_cases hxx : at_ ≤ x
    · rw [if_pos hxx, ht, freeT_snoc, if_pos (by simp only at hq; omega)]
    · rw [if_neg hxx]
theorem drop_next (hl : Asc l) {i i' : Nat} {at_ : Int} (hn : NextAt l i i' at_) : ∀ r ∈ l.drop i', at_ < r.1 := fun r hr => by
  obtain ⟨q, h1, h2⟩ := mem_drop.1 hr
  rcases hn with ⟨rfl, u, hu⟩ | ⟨rfl, hn⟩
  · exact (asc_get hl hu (a' := r.1) (u' := r.2) h2).1 (by omega)
  · rcases Nat.lt_or_ge i' q with h | h
    · have hlt : i' < l.length := by have := (List.getElem?_eq_some_iff.1 h2).1; omega
      have hx : l[i']? = some (l[i'].1, l[i'].2) := List.getElem?_eq_getElem hlt
      have := hn _ _ hx
      have := (asc_get hl hx (a' := r.1) (u' := r.2) h2).1 h
      omega
    · obtain rfl : q = i' := by omega
      exact hn r.1 r.2 h2
theorem take_next {i i' : Nat} {at_ : Int} (hn : NextAt l i i' at_) {s : Stp} (hs : s ∈ l.take i') : s ∈ l.take i ∨ s.1 = at_ := by
  rcases hn with ⟨rfl, u, hu⟩ | ⟨rfl, hn⟩
  · rw [take_snoc' hu] at hs
    rcases List.mem_append.1 hs with hs | hs
    · exact .inl hs
    · simp at hs; subst hs; exact .inr rfl
  · exact .inl hs
theorem merge_next (h : SumArg l m) {O : List Stp} {i j i' j' : Nat} {at_ : Int} (hm : Merge l m O i j) (hi : NextAt l i i' at_) (hj : NextAt m j j' at_) (hd : i < i' ∨ j < j') :
    ∃ a u b v, l[i' - 1]? = some (a, u) ∧ m[j' - 1]? = some (b, v) ∧ 1 ≤ i' ∧ 1 ≤ j' ∧ Merge l m (O ++ [(at_, u + v)]) i' j' := by
  have hla := h.1.asc
  have hma := h.2.asc
  have hi0 : i ≤ i' := by rcases hi with h | h <;> omega
  have hj0 : j ≤ j' := by rcases hj with h | h <;> omega
  have key : ∀ s, s ∈ O ∨ s ∈ l.take i ∨ s ∈ m.take j → s.1 < at_ := fun s hs => by
    rcases hi with ⟨rfl, u, hu⟩ | ⟨rfl, hi⟩
    · exact hm.sep s hs (at_, u) (.inl (mem_drop.2 ⟨i, Nat.le_refl _, hu⟩))
    · rcases hj with ⟨rfl, u, hu⟩ | ⟨rfl, hj⟩
      · exact hm.sep s hs (at_, u) (.inr (mem_drop.2 ⟨j, Nat.le_refl _, hu⟩))
      · omega
  have hone : 1 ≤ i' ∧ 1 ≤ j' := by
    rcases hm.st with ⟨rfl, rfl, _⟩ | ⟨h1, h2, _⟩
    · obtain ⟨u0, e0⟩ := h.1.starts
      obtain ⟨v0, e1⟩ := h.2.starts
      rw [List.head?_eq_getElem?] at e0 e1
      rcases hi with ⟨rfl, u, hu⟩ | ⟨rfl, hi⟩
      · rw [e0] at hu; injection hu with hu; injection hu with hu _
        rcases hj with ⟨rfl, _⟩ | ⟨rfl, hj⟩
        · omega
        · have := hj _ _ e1; omega
      · have h0 := hi _ _ e0
        rcases hj with ⟨rfl, u, hu⟩ | ⟨rfl, hj⟩
        · rw [e1] at hu; injection hu with hu; injection hu with hu _; omega
        · omega
    · omega
  have hil : i' ≤ l.length := by
    rcases hi with ⟨rfl, u, hu⟩ | ⟨rfl, hi⟩
    · exact (List.getElem?_eq_some_iff.1 hu).1
    · exact hm.il
  have hjm : j' ≤ m.length := by
    rcases hj with ⟨rfl, u, hu⟩ | ⟨rfl, hj⟩
    · exact (List.getElem?_eq_some_iff.1 hu).1
    · exact hm.jm
  obtain ⟨a, u, e1, e2, e3⟩ := free_take_next hla hi hone.1 hm.il fun s hs => key s (.inr (.inl hs))
  obtain ⟨b, v, g1, g2, g3⟩ := free_take_next hma hj hone.2 hm.jm fun s hs => key s (.inr (.inr hs))
  refine ⟨a, u, b, v, e1, g1, hone.1, hone.2, ⟨hil, hjm, ?_, ?_, ?_, ?_, ?_, ?_⟩⟩
  · refine List.pairwise_append.2 ⟨hm.asc, List.pairwise_singleton _ _, fun s hs z hz => ?_⟩
    simp at hz; subst hz
    exact key s (.inl hs)
  · intro s hs r hr
    have hr' : at_ < r.1 := by
      rcases hr with hr | hr
      · exact drop_next hla hi r hr
      · exact drop_next hma hj r hr
    rcases hs with hs | hs | hs
    · rcases List.mem_append.1 hs with hs | hs
      · have := key s (.inl hs); omega
      · simp at hs; subst hs; exact hr'
    · rcases take_next hi hs with hs | hs
      · have := key s (.inr (.inl hs)); omega
      · omega
    · rcases take_next hj hs with hs | hs
      · have := key s (.inr (.inr hs)); omega
      · omega
  · intro x
    rw [freeT_snoc, e3, g3, hm.fr]
    split <;> rfl
  · have := hm.len; simp; omega
  · right
    refine ⟨hone.1, hone.2, ?_⟩
    rcases hm.st with ⟨rfl, rfl, rfl⟩ | ⟨_, _, z, hz⟩
    · have h0 : at_ = 0 := by
        obtain ⟨u0, e0⟩ := h.1.starts
        rw [List.head?_eq_getElem?] at e0
        rcases hi with ⟨rfl, u, hu⟩ | ⟨rfl, hi⟩
        · rw [e0] at hu; injection hu with hu; injection hu with hu _; exact hu.symm
        · omega
      subst h0
      exact ⟨_, rfl⟩
    · refine ⟨z, ?_⟩
      cases O with
      | nil => simp at hz
      | cons y O => simpa using hz
  · intro s hs
    rcases List.mem_append.1 hs with hs | hs
    · exact hm.bd s hs
    · simp at hs; subst hs
      have b1 := (h.1.bound _ (List.mem_of_getElem? e1)).2
      have b2 := (h.2.bound _ (List.mem_of_getElem? g1)).2
      simp only at b1 b2 ⊢
      omega
theorem merge_end (h : SumArg l m) {O : List Stp} (hm : Merge l m O l.length m.length) : Asc O ∧ Starts O ∧ tid O = sumL l m ∧ O.length ≤ l.length + m.length ∧ 1 ≤ O.length ∧ (SumRoom l m ↔ ∀ s ∈ O, s.2 ≤ 10000) := by
  have hf : ∀ x, freeT O x = gSum l m x := fun x => by rw [hm.fr, List.take_length, List.take_length]; rfl
  have hst : Starts O := by
    rcases hm.st with ⟨h1, _, _⟩ | ⟨_, _, h1⟩
    · have := h.1.1; omega
    · exact h1
  have hs := tid_spec _ hm.asc
  obtain ⟨z, hz⟩ := hst
  have h1 : 1 ≤ O.length := by
    cases O with
    | nil => simp at hz
    | cons y O => simp
  refine ⟨hm.asc, ⟨z, hz⟩, sumL_eq h hs.1 ⟨z, by rw [hs.2.2.1]; exact hz⟩ (fun x hx => by rw [freeT_G, hs.2.2.2]; exact hf x), hm.len, h1, ?_⟩
  constructor
  · intro hr s hs'
    have hnn : 0 ≤ s.1 := by
      cases O with
      | nil => simp at hz
      | cons y O =>
        simp at hz; subst hz
        rcases List.mem_cons.1 hs' with rfl | hs'
        · exact Int.le_refl _
        · have := (List.pairwise_cons.1 hm.asc).1 s hs'; simp only at this; omega
    have := hr s.1 hnn
    rw [← hf, freeT_at hm.asc (v := s.2) hs'] at this
    exact this
  · intro hr x hx
    rw [← hf]
    have hm0 : (0, z) ∈ O := by
      cases O with
      | nil => simp at hz
      | cons y O => simp at hz; subst hz; simp
    obtain ⟨τ, a1, a2, a3⟩ := last_le (ts := O.map (·.1)) (x := x) ⟨0, List.mem_map.2 ⟨_, hm0, rfl⟩, hx⟩
    obtain ⟨⟨τ', v⟩, a4, rfl⟩ := List.mem_map.1 a1
    rw [freeT_last hm.asc a4 a2 fun s hs hsx => a3 s.1 (List.mem_map.2 ⟨s, hs, rfl⟩) hsx]
    exact hr _ a4
end
end Go.Proofs.Ytggfepphjaohiaa
