/-
  Plain law: steps tidied: of each time the last one, by rising times. Conditions: none.
-/
import Derived.Test.YtggfepphjaohiaaPAdd2
import Derived.Test.YtggfepphjaohiaaWTidy
namespace Go.Proofs.Ytggfepphjaohiaa
open Go.RowKit
set_option linter.unusedVariables false
set_option linter.unusedSimpArgs false

def lastW (v : Int) (l : List Stp) (t : Int) : Int := l.foldl (fun v s => if s.1 = t then s.2 else v) v
theorem lastW_snoc (v : Int) (l : List Stp) (s : Stp) (t : Int) : lastW v (l ++ [s]) t = if s.1 = t then s.2 else lastW v l t := by simp [lastW]
theorem lastW_append (v : Int) (l m : List Stp) (t : Int) : lastW v (l ++ m) t = lastW (lastW v l t) m t := by unfold lastW; rw [List.foldl_append]
theorem lastW_none {l : List Stp} {t : Int} (h : ∀ s ∈ l, s.1 ≠ t) (v : Int) : lastW v l t = v := by
  induction l generalizing v with
  | nil => rfl
  | cons x l ih =>
    show lastW (if x.1 = t then x.2 else v) l t = v
    rw [if_neg (h x (by simp))]
    exact ih (fun s hs => h s (List.mem_cons_of_mem _ hs)) v
theorem lastW_some {l : List Stp} {t : Int} (h : ∃ s ∈ l, s.1 = t) (v v' : Int) : lastW v l t = lastW v' l t := by
  induction l generalizing v v' with
  | nil => obtain ⟨s, hs, _⟩ := h; simp at hs
  | cons x l ih =>
    show lastW (if x.1 = t then x.2 else v) l t = lastW (if x.1 = t then x.2 else v') l t
    by_cases hx : x.1 = t
    · rw [if_pos hx, if_pos hx]
    · rw [if_neg hx, if_neg hx]
      obtain ⟨s, hs, he⟩ := h
      rcases List.mem_cons.1 hs with rfl | hs
      · exact absurd he hx
      · exact ih ⟨s, hs, he⟩ v v'
theorem lastW_filter (v : Int) (l : List Stp) (t : Int) : lastW v (l.filter fun s => decide (s.1 = t)) t = lastW v l t := by
  induction l generalizing v with
  | nil => rfl
  | cons x l ih =>
    by_cases hx : x.1 = t
    · rw [List.filter_cons_of_pos (by simpa using hx)]
      show lastW (if x.1 = t then x.2 else v) _ t = lastW (if x.1 = t then x.2 else v) l t
      exact ih _
    · rw [List.filter_cons_of_neg (by simpa using hx)]
      show _ = lastW (if x.1 = t then x.2 else v) l t
      rw [if_neg hx]
      exact ih v
theorem lastW_stab {l r : List Stp} (h : Stab cfAt l r) (v t : Int) : lastW v r t = lastW v l t := by
  rw [← lastW_filter v r, ← lastW_filter v l]
  have e : (fun s : Stp => decide (s.1 = t)) = cls cfAt (t, 0) := by
    funext s
    rw [Bool.eq_iff_iff, cls_true, cfAt_neg, cfAt_neg, decide_eq_true_eq]
    simp only
    omega
  rw [e, h.filt order_at]
theorem asc_ext (a : List Int) : ∀ b : List Int, a.Pairwise (· < ·) → b.Pairwise (· < ·) → (∀ x, x ∈ a ↔ x ∈ b) → a = b := by
  induction a with
  | nil =>
    intro b _ _ h
    cases b with
    | nil => rfl
    | cons y b => exact absurd ((h y).2 (by simp)) (by simp)
  | cons x a ih =>
    intro b ha hb h
    cases b with
    | nil => exact absurd ((h x).1 (by simp)) (by simp)
    | cons y b =>
      have h1 := List.pairwise_cons.1 ha
      have h2 := List.pairwise_cons.1 hb
      have hxy : x = y := by
        have e1 := (h x).1 (by simp)
        have e2 := (h y).2 (by simp)
        rcases List.mem_cons.1 e1 with e1 | e1
        · exact e1
        · rcases List.mem_cons.1 e2 with e2 | e2
          · exact e2.symm
          · have := h1.1 y e2; have := h2.1 x e1; omega
      subst hxy
      rw [ih b h1.2 h2.2 fun z => ?_]
      have hz := h z
      simp only [List.mem_cons] at hz
      constructor
      · intro hza
        rcases hz.1 (.inr hza) with e | e
        · subst e; have := h1.1 z hza; omega
        · exact e
      · intro hzb
        rcases hz.2 (.inr hzb) with e | e
        · subst e; have := h2.1 z hzb; omega
        · exact e

/-- the last ones of each time, of the first k -/
def lastsTo (r : List Stp) : Nat → List Stp
  | 0 => []
  | k + 1 => match r[k]?, r[k + 1]? with
    | some x, some y => if y.1 = x.1 then lastsTo r k else lastsTo r k ++ [x]
    | some x, none => lastsTo r k ++ [x]
    | none, _ => lastsTo r k
theorem tidyTo_lasts (r : List Stp) (k : Nat) : tidyTo r k = tid (lastsTo r k) := by
  induction k with
  | zero => rfl
  | succ k ih =>
    unfold tidyTo lastsTo
    cases r[k]? with
    | none => exact ih
    | some x =>
      cases r[k + 1]? with
      | none => simp only [tid_snoc, ih]
      | some y =>
        by_cases h : y.1 = x.1
        · simp only [h, if_true, ih]
        · simp only [h, if_false, tid_snoc, ih]
theorem lastsTo_spec {r : List Stp} (hs : Srt cfAt r) (k : Nat) (hk : k ≤ r.length) : Asc (lastsTo r k) ∧
    (∀ s ∈ lastsTo r k, ∃ i, i < k ∧ r[i]? = some s ∧ ∀ (j : Nat) (z : Stp), r[j]? = some z → i < j → s.1 < z.1) ∧
    (∀ i, i < k → (∀ (z : Stp), r[i + 1]? = some z → z.1 ≠ (r[i]?.getD (0, 0)).1) → (r[i]?.getD (0, 0)) ∈ lastsTo r k) := by
  have mono : ∀ (i j : Nat) (x z : Stp), r[i]? = some x → r[j]? = some z → i < j → x.1 ≤ z.1 := fun i j x z hx hz hij => by
    obtain ⟨h1, h2⟩ := List.getElem?_eq_some_iff.1 hx
    obtain ⟨h3, h4⟩ := List.getElem?_eq_some_iff.1 hz
    have := List.pairwise_iff_getElem.1 hs i j h1 h3 hij
    rw [h2, h4, cfAt_neg] at this
    omega
  induction k with
  | zero => exact ⟨List.Pairwise.nil, fun s hs => by simp [lastsTo] at hs, fun i hi => by omega⟩
  | succ k ih =>
    obtain ⟨h1, h2, h3⟩ := ih (by omega)
    have hx : r[k]? = some (r[k]'(by omega)) := List.getElem?_eq_getElem (by omega)
    have more : (∀ z : Stp, r[k + 1]? = some z → z.1 ≠ (r[k]'(by omega)).1) → Asc (lastsTo r k ++ [r[k]'(by omega)]) ∧
        (∀ s ∈ lastsTo r k ++ [r[k]'(by omega)], ∃ i, i < k + 1 ∧ r[i]? = some s ∧ ∀ (j : Nat) (z : Stp), r[j]? = some z → i < j → s.1 < z.1) ∧
        (∀ i, i < k + 1 → (∀ (z : Stp), r[i + 1]? = some z → z.1 ≠ (r[i]?.getD (0, 0)).1) → (r[i]?.getD (0, 0)) ∈ lastsTo r k ++ [r[k]'(by omega)]) := fun hne => by
      refine ⟨List.pairwise_append.2 ⟨h1, List.pairwise_singleton _ _, fun a ha b hb => ?_⟩, fun s hs => ?_, fun i hi hn => ?_⟩
      · rw [List.mem_singleton] at hb
        subst hb
        obtain ⟨i, hi, e1, e2⟩ := h2 a ha
        exact e2 k _ hx hi
      · rcases List.mem_append.1 hs with hs | hs
        · obtain ⟨i, hi, e1, e2⟩ := h2 s hs
          exact ⟨i, by omega, e1, e2⟩
        · rw [List.mem_singleton] at hs
          subst hs
          refine ⟨k, by omega, hx, fun j z hz hkj => ?_⟩
          have hlt : k + 1 < r.length := by have := (List.getElem?_eq_some_iff.1 hz).1; omega
          have hy : r[k + 1]? = some r[k + 1] := List.getElem?_eq_getElem hlt
          have e1 := mono k (k + 1) _ _ hx hy (by omega)
          have e2 := hne _ hy
          rcases Nat.lt_or_ge (k + 1) j with h | h
          · have := mono (k + 1) j _ _ hy hz h; omega
          · obtain rfl : j = k + 1 := by omega
            rw [hy] at hz; injection hz with hz; subst hz; omega
      · rcases Nat.lt_or_ge i k with h | h
        · exact List.mem_append_left _ (h3 i h hn)
        · obtain rfl : i = k := by omega
          rw [hx]; simp
    unfold lastsTo
    rw [hx]
    cases hy : r[k + 1]? with
    | none =>
      exact more fun z hz => by rw [hy] at hz; cases hz
    | some y =>
      by_cases h : y.1 = (r[k]'(by omega)).1
      · simp only [h, if_true]
        refine ⟨h1, fun s hs => ?_, fun i hi hn => ?_⟩
        · obtain ⟨i, hi, e1, e2⟩ := h2 s hs
          exact ⟨i, by omega, e1, e2⟩
        · rcases Nat.lt_or_ge i k with h' | h'
          · exact h3 i h' hn
          · obtain rfl : i = k := by omega
            exact absurd h (by have := hn y hy; rwa [hx] at this)
      · simp only [h, if_false]
        exact more fun z hz => by rw [hy] at hz; injection hz with hz; subst hz; exact h
/-- tidied -/
def tidL (l : List Stp) : List Stp := tid (samp (lastW 0 l) (rises (l.map (·.1))))
theorem tidyTo_tidL {l r : List Stp} (st : Stab cfAt l r) (sr : Srt cfAt r) : tidyTo r r.length = tidL l := by
  rw [tidyTo_lasts]
  unfold tidL
  congr 1
  obtain ⟨h1, h2, h3⟩ := lastsTo_spec sr r.length (Nat.le_refl _)
  have hv : ∀ s ∈ lastsTo r r.length, s.2 = lastW 0 l s.1 := fun s hs => by
    obtain ⟨i, hi, e1, e2⟩ := h2 s hs
    rw [← lastW_stab st]
    conv => rhs; rw [← List.take_append_drop (i + 1) r, lastW_append, take_snoc' e1, lastW_snoc, if_pos rfl]
    rw [lastW_none fun z hz => ?_]
    obtain ⟨q, g1, g2⟩ := mem_drop.1 hz
    have := e2 q z g2 (by omega)
    omega
  have ht : (lastsTo r r.length).map (·.1) = rises (l.map (·.1)) := by
    refine asc_ext _ _ (List.pairwise_map.2 h1) (rises_asc _) fun x => ?_
    rw [rises_mem, List.mem_map, List.mem_map]
    constructor
    · rintro ⟨s, hs, rfl⟩
      obtain ⟨i, _, e1, _⟩ := h2 s hs
      exact ⟨s, st.perm.mem_iff.1 (List.mem_of_getElem? e1), rfl⟩
    · rintro ⟨s, hs, rfl⟩
      obtain ⟨i, hi⟩ := List.mem_iff_getElem?.1 (st.perm.mem_iff.2 hs)
      have hil := (List.getElem?_eq_some_iff.1 hi).1
      -- the last one of its time
      have key : ∀ d i : Nat, i + d + 1 = r.length → ∀ s : Stp, r[i]? = some s → ∃ z ∈ lastsTo r r.length, z.1 = s.1 := fun d => by
        induction d with
        | zero =>
          intro i hi s hs
          refine ⟨s, ?_, rfl⟩
          have := h3 i (by omega) fun z hz => by have := (List.getElem?_eq_some_iff.1 hz).1; omega
          rwa [hs] at this
        | succ d ih =>
          intro i hi s hs
          have hy : r[i + 1]? = some (r[i + 1]'(by omega)) := List.getElem?_eq_getElem (by omega)
          by_cases h : (r[i + 1]'(by omega)).1 = s.1
          · obtain ⟨z, hz, he⟩ := ih (i + 1) (by omega) _ hy
            exact ⟨z, hz, he.trans h⟩
          · refine ⟨s, ?_, rfl⟩
            have := h3 i (by omega) fun z hz => by
              rw [hy] at hz; injection hz with hz; subst hz; rw [hs]; exact h
            rwa [hs] at this
      exact key (r.length - i - 1) i (by omega) s hi
  rw [← ht]
  unfold samp
  rw [List.map_map]
  have : (lastsTo r r.length) = (lastsTo r r.length).map id := by simp
  conv => lhs; rw [this]
  refine List.map_congr_left fun s hs => ?_
  simp only [id, Function.comp_apply]
  rw [← hv s hs]
theorem tidL_norm (l : List Stp) : Norm (tidL l) := (tid_spec _ (samp_asc (rises_asc _))).1
theorem tidL_len (l : List Stp) : (tidL l).length ≤ l.length := by
  have h1 := tid_len (samp (lastW 0 l) (rises (l.map (·.1))))
  have h2 := rises_len (l.map (·.1))
  rw [samp_len] at h1
  rw [List.length_map] at h2
  unfold tidL
  omega
theorem tidL_same {l : List Stp} (h : Norm l) : tidL l = l := by
  have hs : Srt cfAt l := List.Pairwise.imp (fun {x y} hxy => by rw [cfAt_neg]; omega) h.asc
  rw [← tidyTo_tidL (.refl _) hs, tidyTo_tid h.asc, tid_norm h]

/-- the document's: which ones are done -/
structure DoneInv (l : List Stp) (P : List Int) (D : List Int) : Prop where
  mem : ∀ (i : Nat) (s : Stp), l[i]? = some s → ((i : Int) ∈ D ↔ s.1 ∈ P)
  len : D.length = (l.filter fun s => decide (s.1 ∈ P)).length
theorem done_start (l : List Stp) : DoneInv l [] [] := ⟨fun i s _ => by simp, by rw [List.filter_eq_nil_iff.2 (fun s _ => by simp)]; rfl⟩
theorem filter_lt_iff {l : List Stp} {p : Stp → Bool} : (l.filter p).length < l.length ↔ ∃ s ∈ l, p s = false := by
  induction l with
  | nil => simp
  | cons x l ih =>
    have hle := List.length_filter_le p l
    cases hx : p x with
    | true =>
      rw [List.filter_cons_of_pos hx]
      simp only [List.length_cons, List.mem_cons]
      rw [Nat.add_lt_add_iff_right, ih]
      constructor
      · rintro ⟨s, h1, h2⟩; exact ⟨s, .inr h1, h2⟩
      · rintro ⟨s, rfl | h1, h2⟩
        · rw [hx] at h2; cases h2
        · exact ⟨s, h1, h2⟩
    | false =>
      rw [List.filter_cons_of_neg (by simp [hx])]
      simp only [List.length_cons, List.mem_cons]
      exact ⟨fun _ => ⟨x, .inl rfl, hx⟩, fun _ => by omega⟩
theorem filter_add {l : List Stp} {P : List Int} {t : Int} (ht : t ∉ P) : (l.filter fun s => decide (s.1 ∈ P ++ [t])).length = (l.filter fun s => decide (s.1 ∈ P)).length + (l.filter fun s => decide (s.1 = t)).length := by
  induction l with
  | nil => rfl
  | cons x l ih =>
    simp only [List.filter_cons, List.mem_append, List.mem_singleton]
    by_cases h1 : x.1 = t
    · have h2 : x.1 ∉ P := by rw [h1]; exact ht
      simp only [h1, ht, or_true, decide_true, if_true, decide_false, Bool.false_eq_true, if_false, List.length_cons]
      simp only [List.mem_append, List.mem_singleton] at ih
      omega
    · by_cases h2 : x.1 ∈ P
      · simp only [h1, h2, or_false, decide_true, if_true, decide_false, Bool.false_eq_true, if_false, List.length_cons]
        simp only [List.mem_append, List.mem_singleton] at ih
        omega
      · simp only [h1, h2, or_false, decide_false, Bool.false_eq_true, if_false]
        simpa only [List.mem_append, List.mem_singleton] using ih
section
variable {l : List Stp} {T : List Int} {q : Nat} {D : List Int}
theorem done_end (hT : T = rises (l.map (·.1))) (hd : DoneInv l (T.take q) D) (h : ¬ D.length < l.length) : T.take q = T := by
  refine List.take_of_length_le ?_
  rcases Nat.lt_or_ge q T.length with h1 | h1
  · exfalso
    have hm : T[q] ∈ l.map (·.1) := by rw [← rises_mem, ← hT]; exact List.getElem_mem h1
    obtain ⟨s, hs, he⟩ := List.mem_map.1 hm
    have hn : s.1 ∉ T.take q := fun hc => by
      obtain ⟨i, hi⟩ := List.mem_iff_getElem?.1 hc
      have hlt : i < q := by have := (List.getElem?_eq_some_iff.1 hi).1; simp at this; omega
      rw [List.getElem?_take_of_lt hlt] at hi
      obtain ⟨h2, h3⟩ := List.getElem?_eq_some_iff.1 hi
      have ha : T.Pairwise (· < ·) := by rw [hT]; exact rises_asc _
      have := List.pairwise_iff_getElem.1 ha i q h2 h1 hlt
      omega
    rw [hd.len] at h
    exact h (filter_lt_iff.2 ⟨s, hs, by simpa using hn⟩)
  · exact h1
/-- the best one so far -/
def BestInv (l : List Stp) (P : List Int) (i : Nat) (b : Int) : Prop :=
  (b = -1 ∧ ∀ (j : Nat) (s : Stp), l[j]? = some s → j < i → s.1 ∈ P) ∨
  ∃ (c : Nat) (x : Stp), b = c ∧ c < i ∧ l[c]? = some x ∧ x.1 ∉ P ∧ ∀ (j : Nat) (s : Stp), l[j]? = some s → j < i → s.1 ∉ P → x.1 ≤ s.1
theorem best_skip {P : List Int} {i : Nat} {b : Int} (h : BestInv l P i b) {s : Stp} (hs : l[i]? = some s) (hn : s.1 ∈ P ∨ ∃ (c : Nat) (x : Stp), b = c ∧ l[c]? = some x ∧ x.1 ≤ s.1) : BestInv l P (i + 1) b := by
  rcases h with ⟨h1, h2⟩ | ⟨c, x, h1, h2, h3, h4, h5⟩
  · rcases hn with hn | ⟨c, x, e1, _⟩
    · refine .inl ⟨h1, fun j s' hj hji => ?_⟩
      rcases Nat.lt_or_ge j i with h | h
      · exact h2 j s' hj h
      · obtain rfl : j = i := by omega
        rw [hs] at hj; injection hj with hj; subst hj; exact hn
    · omega
  · refine .inr ⟨c, x, h1, by omega, h3, h4, fun j s' hj hji hsn => ?_⟩
    rcases Nat.lt_or_ge j i with h | h
    · exact h5 j s' hj h hsn
    · obtain rfl : j = i := by omega
      rw [hs] at hj; injection hj with hj; subst hj
      rcases hn with hn | ⟨c', x', e1, e2, e3⟩
      · exact absurd hn hsn
      · obtain rfl : c' = c := by omega
        rw [h3] at e2; injection e2 with e2; subst e2; exact e3
theorem best_take {P : List Int} {i : Nat} {b : Int} (h : BestInv l P i b) {s : Stp} (hs : l[i]? = some s) (hn : s.1 ∉ P) (hb : b < 0 ∨ ∃ (c : Nat) (x : Stp), b = c ∧ l[c]? = some x ∧ s.1 < x.1) : BestInv l P (i + 1) (i : Int) := by
  refine .inr ⟨i, s, rfl, by omega, hs, hn, fun j s' hj hji hsn => ?_⟩
  rcases Nat.lt_or_ge j i with h1 | h1
  · rcases h with ⟨e1, e2⟩ | ⟨c, x, e1, e2, e3, e4, e5⟩
    · exact absurd (e2 j s' hj h1) hsn
    · rcases hb with hb | ⟨c', x', g1, g2, g3⟩
      · omega
      · obtain rfl : c' = c := by omega
        rw [e3] at g2; injection g2 with g2; subst g2
        have := e5 j s' hj h1 hsn
        omega
  · obtain rfl : j = i := by omega
    rw [hs] at hj; injection hj with hj; subst hj; exact Int.le_refl _
theorem best_end (hT : T = rises (l.map (·.1))) (hd : DoneInv l (T.take q) D) (h : D.length < l.length) {b : Int} (hb : BestInv l (T.take q) l.length b) :
    ∃ (c : Nat) (u t : Int), b = c ∧ l[c]? = some (t, u) ∧ T[q]? = some t ∧ t ∉ T.take q := by
  rw [hd.len] at h
  obtain ⟨s, hs, hp⟩ := filter_lt_iff.1 h
  have hp' : s.1 ∉ T.take q := by simpa using hp
  obtain ⟨i, hi⟩ := List.mem_iff_getElem?.1 hs
  have hil := (List.getElem?_eq_some_iff.1 hi).1
  have ha : T.Pairwise (· < ·) := by rw [hT]; exact rises_asc _
  have hmem : ∀ z ∈ l, z.1 ∈ T := fun z hz => by rw [hT, rises_mem]; exact List.mem_map.2 ⟨z, hz, rfl⟩
  rcases hb with ⟨e1, e2⟩ | ⟨c, x, e1, e2, e3, e4, e5⟩
  · exact absurd (e2 i s hi hil) hp'
  · obtain ⟨p, hp1⟩ := List.mem_iff_getElem?.1 (hmem x (List.mem_of_getElem? e3))
    obtain ⟨hp2, hp3⟩ := List.getElem?_eq_some_iff.1 hp1
    have hqp : q ≤ p := by
      rcases Nat.lt_or_ge p q with h1 | h1
      · exact absurd (List.mem_of_getElem? (i := p) (by rw [List.getElem?_take_of_lt h1]; exact hp1)) e4
      · exact h1
    have hq : q < T.length := by omega
    have hTq : T[q] ∈ l.map (·.1) := by rw [← rises_mem, ← hT]; exact List.getElem_mem hq
    obtain ⟨z, hz, hze⟩ := List.mem_map.1 hTq
    obtain ⟨iz, hiz⟩ := List.mem_iff_getElem?.1 hz
    have hzn : z.1 ∉ T.take q := fun hc => by
      obtain ⟨i', hi'⟩ := List.mem_iff_getElem?.1 hc
      have hlt : i' < q := by have := (List.getElem?_eq_some_iff.1 hi').1; simp at this; omega
      rw [List.getElem?_take_of_lt hlt] at hi'
      obtain ⟨h2, h3⟩ := List.getElem?_eq_some_iff.1 hi'
      have := List.pairwise_iff_getElem.1 ha i' q h2 hq hlt
      omega
    have hle := e5 iz z hiz (List.getElem?_eq_some_iff.1 hiz).1 hzn
    have hpq : p = q := by
      rcases Nat.lt_or_ge q p with h1 | h1
      · have := List.pairwise_iff_getElem.1 ha q p hq hp2 h1
        omega
      · omega
    subst hpq
    exact ⟨c, x.2, x.1, e1, e3, hp1, e4⟩
/-- one time more is done -/
def MoreInv (l : List Stp) (D0 : List Int) (t : Int) (i : Nat) (D : List Int) : Prop :=
  (∀ (j : Nat) (s : Stp), l[j]? = some s → ((j : Int) ∈ D ↔ (j : Int) ∈ D0 ∨ (j < i ∧ s.1 = t))) ∧ D.length = D0.length + ((l.take i).filter fun s => decide (s.1 = t)).length
theorem more_start (D0 : List Int) (t : Int) : MoreInv l D0 t 0 D0 := ⟨fun j s _ => ⟨.inl, fun h => h.elim id fun h => by omega⟩, by simp⟩
theorem more_skip {D0 : List Int} {t : Int} {i : Nat} (h : MoreInv l D0 t i D) {s : Stp} (hs : l[i]? = some s) (hn : s.1 ≠ t) : MoreInv l D0 t (i + 1) D := by
  refine ⟨fun j s' hj => ?_, ?_⟩
  · rw [h.1 j s' hj]
    constructor
    · rintro (h1 | h1)
      · exact .inl h1
      · exact .inr ⟨by omega, h1.2⟩
    · rintro (h1 | h1)
      · exact .inl h1
      · right
        rcases Nat.lt_or_ge j i with h2 | h2
        · exact ⟨h2, h1.2⟩
        · obtain rfl : j = i := by omega
          rw [hs] at hj; injection hj with hj; subst hj; exact absurd h1.2 hn
  · rw [take_snoc' hs, List.filter_append, h.2]
    simp [hn]
theorem more_take {D0 : List Int} {t : Int} {i : Nat} (h : MoreInv l D0 t i D) {s : Stp} (hs : l[i]? = some s) (hn : s.1 = t) : MoreInv l D0 t (i + 1) (D ++ [(i : Int)]) := by
  refine ⟨fun j s' hj => ?_, ?_⟩
  · rw [List.mem_append, h.1 j s' hj, List.mem_singleton]
    constructor
    · rintro ((h1 | h1) | h1)
      · exact .inl h1
      · exact .inr ⟨by omega, h1.2⟩
      · obtain rfl : j = i := by omega
        rw [hs] at hj; injection hj with hj; subst hj; exact .inr ⟨by omega, hn⟩
    · rintro (h1 | h1)
      · exact .inl (.inl h1)
      · rcases Nat.lt_or_ge j i with h2 | h2
        · exact .inl (.inr ⟨h2, h1.2⟩)
        · exact .inr (by omega)
  · rw [take_snoc' hs, List.filter_append, List.length_append, h.2]
    simp [hn]
    omega
theorem more_end {D0 : List Int} {t : Int} (hd : DoneInv l (T.take q) D0) (h : MoreInv l D0 t l.length D) (ht : T[q]? = some t) (hn : t ∉ T.take q) (hex : ∃ s ∈ l, s.1 = t) : DoneInv l (T.take (q + 1)) D ∧ D0.length < D.length := by
  have ht' : T.take (q + 1) = T.take q ++ [t] := take_snoc' ht
  have hlen := h.2
  rw [List.take_length] at hlen
  refine ⟨⟨fun j s hj => ?_, ?_⟩, ?_⟩
  · rw [h.1 j s hj, hd.mem j s hj, ht', List.mem_append, List.mem_singleton]
    constructor
    · rintro (h1 | h1)
      · exact .inl h1
      · exact .inr h1.2
    · rintro (h1 | h1)
      · exact .inl h1
      · exact .inr ⟨(List.getElem?_eq_some_iff.1 hj).1, h1⟩
  · rw [ht', filter_add hn, hlen, hd.len]
  · obtain ⟨s, hs, he⟩ := hex
    have : 0 < (l.filter fun s => decide (s.1 = t)).length := List.length_pos_of_mem (a := s) (List.mem_filter.2 ⟨hs, by simpa using he⟩)
    omega
theorem done_le {P : List Int} (hd : DoneInv l P D) : D.length ≤ l.length := by rw [hd.len]; exact List.length_filter_le _ _
theorem more_le {D0 : List Int} {t : Int} {i : Nat} (h : MoreInv l D0 t i D) : D.length ≤ D0.length + i := by
  have h1 := List.length_filter_le (fun s : Stp => decide (s.1 = t)) (l.take i)
  have h2 := List.length_take_le i l
  have := h.2
  omega
end
end Go.Proofs.Ytggfepphjaohiaa
