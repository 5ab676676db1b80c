/-
  Plain law: steps that rise, none as the one ahead, are told by what is free at each time. Conditions: none.
-/
import Derived.Test.YtggfepphjaohiaaAsc
import Derived.Test.YtggfepphjaohiaaPRises
namespace Go.Proofs.Ytggfepphjaohiaa
open Go.RowKit

def freeG (n : Int) (l : List Stp) (t : Int) : Int := l.foldl (fun n s => if s.1 ≤ t then s.2 else n) n
theorem freeT_G (l : List Stp) (t : Int) : freeT l t = freeG 0 l t := rfl
theorem freeG_cons (n : Int) (x : Stp) (l : List Stp) (t : Int) : freeG n (x :: l) t = freeG (if x.1 ≤ t then x.2 else n) l t := rfl
theorem freeG_append (n : Int) (l m : List Stp) (t : Int) : freeG n (l ++ m) t = freeG (freeG n l t) m t := by unfold freeG; rw [List.foldl_append]
theorem freeG_far (l : List Stp) (t n : Int) (h : ∀ s ∈ l, t < s.1) : freeG n l t = n := by
  induction l generalizing n with
  | nil => rfl
  | cons x l ih =>
    rw [freeG_cons, if_neg (by have := h x List.mem_cons_self; omega)]
    exact ih n fun s hs => h s (List.mem_cons_of_mem _ hs)
theorem freeG_congr (l : List Stp) (t u n : Int) (h : ∀ s ∈ l, s.1 ≤ t ↔ s.1 ≤ u) : freeG n l t = freeG n l u := by
  induction l generalizing n with
  | nil => rfl
  | cons x l ih =>
    rw [freeG_cons, freeG_cons, ih _ fun s hs => h s (List.mem_cons_of_mem _ hs)]
    have := h x List.mem_cons_self
    by_cases hx : x.1 ≤ t
    · rw [if_pos hx, if_pos (this.1 hx)]
    · rw [if_neg hx, if_neg fun k => hx (this.2 k)]
theorem freeT_congr (l : List Stp) (t u : Int) (h : ∀ s ∈ l, s.1 ≤ t ↔ s.1 ≤ u) : freeT l t = freeT l u := freeG_congr l t u 0 h
/-- the last one that is no later -/
theorem freeG_last {l : List Stp} (ha : Asc l) {τ v t : Int} (hm : (τ, v) ∈ l) (hτ : τ ≤ t) (hl : ∀ s ∈ l, s.1 ≤ t → s.1 ≤ τ) (n : Int) : freeG n l t = v := by
  induction l generalizing n with
  | nil => simp at hm
  | cons x l ih =>
    rw [freeG_cons]
    have hc := List.pairwise_cons.1 ha
    rcases List.mem_cons.1 hm with h | h
    · subst h
      rw [if_pos hτ]
      refine freeG_far _ _ _ fun s hs => ?_
      have h1 : τ < s.1 := hc.1 s hs
      rcases Int.lt_or_le t s.1 with h2 | h2
      · exact h2
      · have := hl s (List.mem_cons_of_mem _ hs) h2; omega
    · exact ih hc.2 h (fun s hs => hl s (List.mem_cons_of_mem _ hs)) _
theorem freeT_last {l : List Stp} (ha : Asc l) {τ v t : Int} (hm : (τ, v) ∈ l) (hτ : τ ≤ t) (hl : ∀ s ∈ l, s.1 ≤ t → s.1 ≤ τ) : freeT l t = v := freeG_last ha hm hτ hl 0
theorem freeT_at {l : List Stp} (ha : Asc l) {τ v : Int} (hm : (τ, v) ∈ l) : freeT l τ = v := freeT_last ha hm (Int.le_refl _) fun _ _ h => h

/-- rising, none as the one ahead -/
def Norm : List Stp → Prop
  | [] => True
  | [_] => True
  | x :: y :: l => x.1 < y.1 ∧ x.2 ≠ y.2 ∧ Norm (y :: l)
theorem Norm.tail {x : Stp} {l : List Stp} (h : Norm (x :: l)) : Norm l := by
  cases l with
  | nil => trivial
  | cons y l => exact h.2.2
theorem Norm.asc {l : List Stp} (h : Norm l) : Asc l := by
  induction l with
  | nil => exact List.Pairwise.nil
  | cons x l ih =>
    have ht := ih h.tail
    refine List.pairwise_cons.2 ⟨fun s hs => ?_, ht⟩
    cases l with
    | nil => simp at hs
    | cons y l =>
      have h1 := h.1
      rcases List.mem_cons.1 hs with rfl | hs
      · exact h1
      · have := (List.pairwise_cons.1 ht).1 s hs; omega
theorem norm_ext (l m : List Stp) (hl : Norm l) (hm : Norm m) (x y : Stp) (hx : l.head? = some x) (hy : m.head? = some y) (hxy : x.1 = y.1) (n : Int)
    (h : ∀ t, x.1 ≤ t → freeG n l t = freeG n m t) : l = m := by
  induction l generalizing m x y n with
  | nil => simp at hx
  | cons a l ih =>
    cases m with
    | nil => simp at hy
    | cons b m =>
      simp at hx hy
      subst hx
      subst hy
      have hal := List.pairwise_cons.1 hl.asc
      have hbm := List.pairwise_cons.1 hm.asc
      have h0 := h a.1 (Int.le_refl _)
      rw [freeG_cons, freeG_cons, if_pos (Int.le_refl _), if_pos (by omega), freeG_far l _ _ hal.1, freeG_far m _ _ (fun s hs => by have := hbm.1 s hs; omega)] at h0
      have hab : a = b := Prod.ext hxy h0
      subst hab
      have h' : ∀ t, a.1 ≤ t → freeG a.2 l t = freeG a.2 m t := fun t ht => by
        have := h t ht
        rwa [freeG_cons, freeG_cons, if_pos ht] at this
      congr 1
      have key : ∀ (p : Stp) (l m : List Stp), Norm (a :: p :: l) → Norm (a :: m) → (∀ t, a.1 ≤ t → freeG a.2 (p :: l) t = freeG a.2 m t) → ∃ q m', m = q :: m' ∧ q.1 ≤ p.1 := fun p l m hl hm h => by
        have h1 := h p.1 (by have := hl.1; omega)
        rw [freeG_cons, if_pos (Int.le_refl _), freeG_far l _ _ (List.pairwise_cons.1 hl.2.2.asc).1] at h1
        cases m with
        | nil => exact absurd h1.symm (by simpa [freeG] using hl.2.1)
        | cons q m =>
          refine ⟨q, m, rfl, ?_⟩
          rcases Int.lt_or_le p.1 q.1 with h2 | h2
          · rw [freeG_far (q :: m) _ _ (fun s hs => by
              rcases List.mem_cons.1 hs with rfl | hs
              · exact h2
              · have := (List.pairwise_cons.1 hm.2.2.asc).1 s hs; omega)] at h1
            exact absurd h1.symm hl.2.1
          · exact h2
      cases l with
      | nil =>
        cases m with
        | nil => rfl
        | cons q m =>
          obtain ⟨_, _, h1, _⟩ := key q m [] hm hl (fun t ht => (h' t ht).symm)
          cases h1
      | cons p l =>
        obtain ⟨q, m', rfl, h1⟩ := key p l m hl hm h'
        obtain ⟨_, _, h2, h3⟩ := key q m' (p :: l) hm hl (fun t ht => (h' t ht).symm)
        injection h2 with h2 _
        subst h2
        exact ih (q :: m') hl.2.2 hm.2.2 p q rfl rfl (by omega) a.2 fun t ht => h' t (by have := hl.1; omega)

theorem norm_snoc {o : List Stp} {x : Stp} (h : Norm o) (hx : ∀ y, o.getLast? = some y → y.1 < x.1 ∧ y.2 ≠ x.2) : Norm (o ++ [x]) := by
  induction o with
  | nil => trivial
  | cons a o ih =>
    cases o with
    | nil => have := hx a rfl; exact ⟨this.1, this.2, trivial⟩
    | cons b o =>
      refine ⟨h.1, h.2.1, ih h.2.2 fun y hy => hx y ?_⟩
      rw [List.getLast?_cons_cons]
      exact hy

/-- one step more, if it is another one -/
def pushT (o : List (Int × Int)) (x : Int × Int) : List (Int × Int) := match o.getLast? with
  | some y => if y.2 = x.2 then o else o ++ [x]
  | none => o ++ [x]
theorem pushT_same {o : List (Int × Int)} {a u a' u' : Int} (h : o.getLast? = some (a', u')) (e : u' = u) : pushT o (a, u) = o := by unfold pushT; rw [h]; simp [e]
theorem pushT_more {o : List (Int × Int)} {a u a' u' : Int} (h : o.getLast? = some (a', u')) (e : ¬ u' = u) : pushT o (a, u) = o ++ [(a, u)] := by unfold pushT; rw [h]; simp [e]
theorem pushT_len (o : List (Int × Int)) (x : Int × Int) : (pushT o x).length ≤ o.length + 1 := by
  unfold pushT; split
  · split <;> simp
  · simp
/-- in one form -/
def tid (l : List Stp) : List Stp := l.foldl pushT []
theorem tid_nil : tid [] = [] := rfl
theorem tid_snoc (l : List Stp) (x : Stp) : tid (l ++ [x]) = pushT (tid l) x := by simp [tid]
theorem rev_ind {α : Type} {P : List α → Prop} (h0 : P []) (hs : ∀ l x, P l → P (l ++ [x])) (l : List α) : P l := by
  have key : ∀ m : List α, P m.reverse := fun m => by
    induction m with
    | nil => exact h0
    | cons x m ih => rw [List.reverse_cons]; exact hs _ _ ih
  have h := key l.reverse
  rwa [List.reverse_reverse] at h
theorem tid_len (l : List Stp) : (tid l).length ≤ l.length := by
  induction l using rev_ind with
  | h0 => simp [tid]
  | hs l x ih => rw [tid_snoc]; have := pushT_len (tid l) x; simp; omega
theorem asc_snoc {l : List Stp} {x : Stp} (h : Asc (l ++ [x])) : Asc l ∧ ∀ s ∈ l, s.1 < x.1 := by
  have := List.pairwise_append.1 h
  exact ⟨this.1, fun s hs => this.2.2 s hs x (by simp)⟩
theorem getLast_form {α : Type} {o : List α} {y : α} (h : o.getLast? = some y) : ∃ p, o = p ++ [y] := by
  induction o using rev_ind with
  | h0 => simp at h
  | hs o z _ => rw [List.getLast?_concat] at h; injection h with h; subst h; exact ⟨o, rfl⟩
theorem asc_last {o : List Stp} (h : Asc o) {y : Stp} (hy : o.getLast? = some y) : y ∈ o ∧ ∀ s ∈ o, s.1 ≤ y.1 := by
  obtain ⟨p, rfl⟩ := getLast_form hy
  refine ⟨by simp, fun s hs => ?_⟩
  rcases List.mem_append.1 hs with hs | hs
  · have := (asc_snoc h).2 s hs; omega
  · simp at hs; subst hs; exact Int.le_refl _
theorem tid_spec (l : List Stp) (ha : Asc l) : Norm (tid l) ∧ (∀ y ∈ tid l, y ∈ l) ∧ (tid l).head? = l.head? ∧ ∀ n t, freeG n (tid l) t = freeG n l t := by
  induction l using rev_ind with
  | h0 => exact ⟨trivial, fun _ h => h, rfl, fun _ _ => rfl⟩
  | hs l x ih =>
    obtain ⟨hal, hlx⟩ := asc_snoc ha
    obtain ⟨h1, h2, h3, h4⟩ := ih hal
    rw [tid_snoc]
    unfold pushT
    split
    · rename_i y hy
      obtain ⟨hym, hyl⟩ := asc_last h1.asc hy
      have hyx := hlx y (h2 y hym)
      have hne : tid l ≠ [] := by intro e; rw [e] at hym; simp at hym
      have hnl : l ≠ [] := by intro e; subst e; exact hne rfl
      have hh : (tid l).head? = (l ++ [x]).head? := by
        rw [h3]
        cases l with
        | nil => exact absurd rfl hnl
        | cons z l => rfl
      split
      · rename_i e
        refine ⟨h1, fun s hs => List.mem_append_left _ (h2 s hs), hh, fun n t => ?_⟩
        rw [freeG_append, ← h4, freeG_cons]
        by_cases hx : x.1 ≤ t
        · rw [if_pos hx, freeG_last h1.asc (τ := y.1) (v := y.2) hym (by omega) (fun s hs _ => hyl s hs)]
          exact e
        · rw [if_neg hx]; rfl
      · rename_i e
        refine ⟨norm_snoc h1 fun z hz => ?_, fun s hs => ?_, ?_, fun n t => ?_⟩
        · rw [hy] at hz; injection hz with hz; subst hz; exact ⟨hyx, e⟩
        · rcases List.mem_append.1 hs with hs | hs
          · exact List.mem_append_left _ (h2 s hs)
          · exact List.mem_append_right _ hs
        · rw [← hh]
          cases hq : tid l with
          | nil => exact absurd hq hne
          | cons z q => rfl
        · rw [freeG_append, freeG_append, h4]
    · rename_i hy
      have he : tid l = [] := List.getLast?_eq_none_iff.1 hy
      have hl : l = [] := by
        cases l with
        | nil => rfl
        | cons z l => rw [he] at h3; simp at h3
      subst hl
      rw [he]
      exact ⟨trivial, fun _ h => h, rfl, fun _ _ => rfl⟩
theorem tid_norm {l : List Stp} (h : Norm l) : tid l = l := by
  cases l with
  | nil => rfl
  | cons x l =>
    obtain ⟨h1, _, h3, h4⟩ := tid_spec (x :: l) h.asc
    exact norm_ext _ _ h1 h x x (by rw [h3]; rfl) rfl rfl 0 fun t _ => h4 0 t

/-- so much at some times -/
def samp (g : Int → Int) (ts : List Int) : List Stp := ts.map fun t => (t, g t)
theorem samp_asc {g : Int → Int} {ts : List Int} (h : ts.Pairwise (· < ·)) : Asc (samp g ts) := by
  unfold samp Asc
  rw [List.pairwise_map]
  exact h
theorem samp_snoc (g : Int → Int) (ts : List Int) (t : Int) : samp g (ts ++ [t]) = samp g ts ++ [(t, g t)] := by simp [samp]
theorem samp_len (g : Int → Int) (ts : List Int) : (samp g ts).length = ts.length := by simp [samp]
theorem last_le {ts : List Int} {x : Int} (h : ∃ s ∈ ts, s ≤ x) : ∃ τ ∈ ts, τ ≤ x ∧ ∀ s ∈ ts, s ≤ x → s ≤ τ := by
  induction ts with
  | nil => obtain ⟨s, h, _⟩ := h; simp at h
  | cons t ts ih =>
    by_cases h' : ∃ s ∈ ts, s ≤ x
    · obtain ⟨τ, h1, h2, h3⟩ := ih h'
      by_cases ht : t ≤ x ∧ τ < t
      · refine ⟨t, by simp, ht.1, fun s hs hx => ?_⟩
        rcases List.mem_cons.1 hs with rfl | hs
        · omega
        · have := h3 s hs hx; omega
      · refine ⟨τ, by simp [h1], h2, fun s hs hx => ?_⟩
        rcases List.mem_cons.1 hs with rfl | hs
        · omega
        · exact h3 s hs hx
    · obtain ⟨s, h1, h2⟩ := h
      rcases List.mem_cons.1 h1 with rfl | h1
      · refine ⟨s, by simp, h2, fun s' hs hx => ?_⟩
        rcases List.mem_cons.1 hs with rfl | hs
        · omega
        · exact absurd ⟨s', hs, hx⟩ h'
      · exact absurd ⟨s, h1, h2⟩ h'
theorem samp_free {ts : List Int} (ha : ts.Pairwise (· < ·)) {g : Int → Int} (hg : ∀ x y, (∀ s ∈ ts, s ≤ x ↔ s ≤ y) → g x = g y) {x : Int} (hx : ∃ s ∈ ts, s ≤ x) (n : Int) : freeG n (samp g ts) x = g x := by
  obtain ⟨τ, h1, h2, h3⟩ := last_le hx
  rw [hg x τ fun s hs => ⟨fun h => h3 s hs h, fun h => by omega⟩]
  refine freeG_last (samp_asc ha) (τ := τ) (List.mem_map.2 ⟨τ, h1, rfl⟩) h2 (fun s hs hsx => ?_) n
  obtain ⟨z, hz, rfl⟩ := List.mem_map.1 hs
  exact h3 z hz hsx

/-- the times at which something may change -/
def timesR (l m : List Stp) (a b : Int) : List Int := rises (a :: b :: (l.map (·.1) ++ m.map (·.1)))
theorem timesR_asc (l m : List Stp) (a b : Int) : (timesR l m a b).Pairwise (· < ·) := rises_asc _
theorem timesR_mem (l m : List Stp) (a b x : Int) : x ∈ timesR l m a b ↔ x = a ∨ x = b ∨ (∃ u, (x, u) ∈ l) ∨ ∃ u, (x, u) ∈ m := by
  unfold timesR
  rw [rises_mem]
  simp only [List.mem_cons, List.mem_append, List.mem_map]
  constructor
  · rintro (h | h | ⟨⟨a, u⟩, h, rfl⟩ | ⟨⟨a, u⟩, h, rfl⟩)
    · exact .inl h
    · exact .inr (.inl h)
    · exact .inr (.inr (.inl ⟨u, h⟩))
    · exact .inr (.inr (.inr ⟨u, h⟩))
  · rintro (h | h | ⟨u, h⟩ | ⟨u, h⟩)
    · exact .inl h
    · exact .inr (.inl h)
    · exact .inr (.inr (.inl ⟨_, h, rfl⟩))
    · exact .inr (.inr (.inr ⟨_, h, rfl⟩))
theorem rises_len (l : List Int) : (rises l).length ≤ l.length := by
  generalize hn : l.length = n
  induction n using Nat.strongRecOn generalizing l with
  | ind n ih =>
    cases l with
    | nil => rw [rises_nil]; simp
    | cons x l =>
      rw [rises_cons]
      have h1 := filter_lt _ _ (lmin_mem l x)
      have := ih _ (by rw [← hn]; exact h1) ((x :: l).filter (· != lmin x l)) rfl
      simp only [List.length_cons] at *
      omega
theorem timesR_len (l m : List Stp) (a b : Int) : (timesR l m a b).length ≤ l.length + m.length + 2 := by
  have := rises_len (a :: b :: (l.map (·.1) ++ m.map (·.1)))
  simp at this
  exact this
theorem timesR_le {l m : List Stp} {a b x y : Int} (h : ∀ s ∈ timesR l m a b, s ≤ x ↔ s ≤ y) : freeT l x = freeT l y ∧ freeT m x = freeT m y ∧ (a ≤ x ↔ a ≤ y) ∧ (b ≤ x ↔ b ≤ y) :=
  ⟨freeT_congr _ _ _ fun s hs => h s.1 ((timesR_mem _ _ _ _ _).2 (.inr (.inr (.inl ⟨s.2, hs⟩)))), freeT_congr _ _ _ fun s hs => h s.1 ((timesR_mem _ _ _ _ _).2 (.inr (.inr (.inr ⟨s.2, hs⟩)))),
    h a ((timesR_mem _ _ _ _ _).2 (.inl rfl)), h b ((timesR_mem _ _ _ _ _).2 (.inr (.inl rfl)))⟩
end Go.Proofs.Ytggfepphjaohiaa
