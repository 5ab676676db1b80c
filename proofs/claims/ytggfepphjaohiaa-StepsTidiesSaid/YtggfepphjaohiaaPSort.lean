/-
  Plain law: what adjacent exchanges of elements that stand the wrong way round make; merging by rotation. Conditions: none.
-/
import Derived.Test.YtggfepphjaohiaaMem
namespace Go.Proofs.Ytggfepphjaohiaa

/-- an order by a comparison's sign -/
structure Order {α : Type} (cf : α → α → Int) : Prop where
  asym : ∀ x y, cf x y < 0 → ¬ cf y x < 0
  trans : ∀ x y z, ¬ cf y x < 0 → ¬ cf z y < 0 → ¬ cf z x < 0
section
variable {α : Type} {cf : α → α → Int}
/-- what exchanges of neighbours that stand the wrong way round come to -/
inductive Stab (cf : α → α → Int) : List α → List α → Prop
  | refl (l : List α) : Stab cf l l
  | step {l p s : List α} {x y : α} : Stab cf l (p ++ x :: y :: s) → cf y x < 0 → Stab cf l (p ++ y :: x :: s)
theorem Stab.trans {a b c : List α} (h : Stab cf a b) (k : Stab cf b c) : Stab cf a c := by
  induction k with
  | refl => exact h
  | step _ hc ih => exact .step ih hc
theorem Stab.in_ {a b : List α} (h : Stab cf a b) (p s : List α) : Stab cf (p ++ a ++ s) (p ++ b ++ s) := by
  induction h with
  | refl => exact .refl _
  | step _ hc ih =>
    rename_i p' s' x y _
    have := Stab.step (l := p ++ a ++ s) (p := p ++ p') (s := s' ++ s) (x := x) (y := y) (by simpa using ih) hc
    simpa using this
theorem Stab.perm {a b : List α} (h : Stab cf a b) : b.Perm a := by
  induction h with
  | refl => exact .refl _
  | step _ _ ih => exact (List.Perm.append_left _ (List.Perm.swap _ _ _)).trans ih
theorem Stab.len {a b : List α} (h : Stab cf a b) : b.length = a.length := h.perm.length_eq
/-- one element goes behind those that are less -/
theorem Stab.past (x : α) (v : List α) (h : ∀ y ∈ v, cf y x < 0) : Stab cf (x :: v) (v ++ [x]) := by
  suffices H : ∀ (p v : List α), (∀ y ∈ v, cf y x < 0) → Stab cf (p ++ x :: v) (p ++ (v ++ [x])) from by simpa using H [] v h
  intro p v
  induction v generalizing p with
  | nil => intro _; exact .refl _
  | cons y v ih =>
    intro h
    have h1 : Stab cf (p ++ x :: y :: v) (p ++ y :: x :: v) := .step (.refl _) (h y List.mem_cons_self)
    have h2 := ih (p ++ [y]) fun z hz => h z (List.mem_cons_of_mem _ hz)
    simp only [List.append_assoc, List.cons_append, List.nil_append] at h2 ⊢
    exact h1.trans h2
/-- a block goes behind another one of which all are less -/
theorem Stab.rot (u v : List α) (h : ∀ x ∈ u, ∀ y ∈ v, cf y x < 0) : Stab cf (u ++ v) (v ++ u) := by
  induction u with
  | nil => simpa using Stab.refl v
  | cons x u ih =>
    have h1 := (ih fun z hz => h z (List.mem_cons_of_mem _ hz)).in_ [x] []
    have h2 := (Stab.past (cf := cf) x v fun y hy => h x List.mem_cons_self y hy).in_ [] u
    simp only [List.append_nil, List.nil_append, List.cons_append, List.append_assoc] at h1 h2 ⊢
    exact h1.trans h2
/-- none stands behind one that is greater -/
def Srt (cf : α → α → Int) (l : List α) : Prop := l.Pairwise fun x y => ¬ cf y x < 0
theorem Order.irrefl (o : Order cf) (x : α) : ¬ cf x x < 0 := fun h => o.asym _ _ h h
/-- one class -/
def cls (cf : α → α → Int) (c z : α) : Bool := decide (¬ cf z c < 0) && decide (¬ cf c z < 0)
theorem cls_true {c z : α} : cls cf c z = true ↔ ¬ cf z c < 0 ∧ ¬ cf c z < 0 := by simp only [cls, Bool.and_eq_true, decide_eq_true_eq]
/-- what stays of one class -/
theorem Stab.filt {a b : List α} (o : Order cf) (h : Stab cf a b) (c : α) :
    b.filter (cls cf c) = a.filter (cls cf c) := by
  induction h with
  | refl => rfl
  | step _ hc ih =>
    rename_i p s x y _
    rw [← ih]
    have : ¬ (cls cf c x = true ∧ cls cf c y = true) := fun ⟨h1, h2⟩ => o.trans x c y (cls_true.1 h1).2 (cls_true.1 h2).1 hc
    simp only [List.filter_append, List.filter_cons]
    cases h1 : cls cf c x with
    | true =>
      cases h2 : cls cf c y with
      | true => exact absurd ⟨h1, h2⟩ this
      | false => simp
    | false => simp
/-- in order, and each class as it was: there is one such list -/
theorem srt_uniq (o : Order cf) : ∀ {a b : List α}, Srt cf a → Srt cf b →
    (∀ c, b.filter (cls cf c) = a.filter (cls cf c)) → b = a := by
  intro a
  induction a with
  | nil =>
    intro b _ _ h
    cases b with
    | nil => rfl
    | cons y b =>
      have := h y
      have e : cls cf y y = true := cls_true.2 ⟨o.irrefl y, o.irrefl y⟩
      simp only [List.filter_nil, List.filter_cons, e, if_true] at this
      cases this
  | cons x a ih =>
    intro b ha hb h
    cases b with
    | nil =>
      have := h x
      have e : cls cf x x = true := cls_true.2 ⟨o.irrefl x, o.irrefl x⟩
      simp only [List.filter_nil, List.filter_cons, e, if_true] at this
      cases this
    | cons y b =>
      have ha' := List.pairwise_cons.1 ha
      have hb' := List.pairwise_cons.1 hb
      have ex : cls cf x x = true := cls_true.2 ⟨o.irrefl x, o.irrefl x⟩
      have ey : cls cf y y = true := cls_true.2 ⟨o.irrefl y, o.irrefl y⟩
      have hx := h x
      have hy := h y
      have my : y ∈ (x :: a).filter (cls cf y) := by rw [← hy]; simp [ey]
      have mx : x ∈ (y :: b).filter (cls cf x) := by rw [hx]; simp [ex]
      have hyx : ¬ cf y x < 0 := by
        rcases List.mem_cons.1 (List.mem_filter.1 my).1 with e | hm
        · rw [e]; exact o.irrefl x
        · exact ha'.1 y hm
      have hxy : ¬ cf x y < 0 := by
        rcases List.mem_cons.1 (List.mem_filter.1 mx).1 with e | hm
        · rw [e]; exact o.irrefl y
        · exact hb'.1 x hm
      have exy : cls cf x y = true := cls_true.2 ⟨hyx, hxy⟩
      simp only [List.filter_cons, ex, exy, if_true] at hx
      injection hx with e1 e2
      subst e1
      congr 1
      refine ih ha'.2 hb'.2 fun c => ?_
      have hc := h c
      simp only [List.filter_cons] at hc
      split at hc
      · injection hc
      · exact hc
theorem Order.le_lt (o : Order cf) {x y z : α} (h : ¬ cf y x < 0) (k : cf y z < 0) : cf x z < 0 := Classical.byContradiction fun n => o.trans z x y n h k
theorem Order.lt_le (o : Order cf) {x y z : α} (h : cf y x < 0) (k : ¬ cf z x < 0) : cf y z < 0 := Classical.byContradiction fun n => o.trans x z y k n h
theorem srt_at {l : List α} (h : Srt cf l) {i j : Nat} {x y : α} (hi : l[i]? = some x) (hj : l[j]? = some y) (hij : i ≤ j) (o : Order cf) : ¬ cf y x < 0 := by
  obtain ⟨h1, rfl⟩ := List.getElem?_eq_some_iff.1 hi
  obtain ⟨h2, rfl⟩ := List.getElem?_eq_some_iff.1 hj
  rcases Nat.lt_or_ge i j with k | k
  · exact (List.pairwise_iff_getElem.1 h) i j h1 h2 k
  · obtain rfl : i = j := by omega
    exact o.irrefl _
theorem mem_take_at {l : List α} {n : Nat} {z : α} (h : z ∈ l.take n) : ∃ i, i < n ∧ l[i]? = some z := by
  obtain ⟨i, hi, rfl⟩ := List.mem_iff_getElem.1 h
  simp only [List.length_take] at hi
  exact ⟨i, by omega, by rw [List.getElem_take]; exact List.getElem?_eq_getElem _⟩
theorem mem_drop_at {l : List α} {n : Nat} {z : α} (h : z ∈ l.drop n) : ∃ i, n ≤ i ∧ l[i]? = some z := by
  obtain ⟨i, hi, rfl⟩ := List.mem_iff_getElem.1 h
  exact ⟨n + i, by omega, by rw [List.getElem_drop]; exact List.getElem?_eq_getElem _⟩
/-- one element into a row behind it: ahead of the first that is no less -/
theorem lo_take (o : Order cf) {v : List α} (hv : Srt cf v) {h : Nat} {y x : α} (hy : v[h]? = some y) (hc : cf y x < 0) : ∀ z ∈ v.take (h + 1), cf z x < 0 := fun z hz => by
  obtain ⟨i, hi, e⟩ := mem_take_at hz
  exact o.le_lt (srt_at hv e hy (by omega) o) hc
theorem lo_drop (o : Order cf) {v : List α} (hv : Srt cf v) {h : Nat} {y x : α} (hy : v[h]? = some y) (hc : ¬ cf y x < 0) : ∀ z ∈ v.drop h, ¬ cf z x < 0 := fun z hz => by
  obtain ⟨i, hi, e⟩ := mem_drop_at hz
  exact o.trans _ _ _ hc (srt_at hv hy e hi o)
theorem one_left (o : Order cf) {v : List α} (hv : Srt cf v) {t : Nat} {x : α} (h1 : ∀ z ∈ v.take t, cf z x < 0) (h2 : ∀ z ∈ v.drop t, ¬ cf z x < 0) : Stab cf ([x] ++ v) (v.take t ++ x :: v.drop t) ∧ Srt cf (v.take t ++ x :: v.drop t) := by
  constructor
  · have := (Stab.past (cf := cf) x (v.take t) h1).in_ [] (v.drop t)
    simpa [List.take_append_drop] using this
  · have e : Srt cf (v.take t ++ v.drop t) := by rw [List.take_append_drop]; exact hv
    have e' := List.pairwise_append.1 e
    exact List.pairwise_append.2 ⟨e'.1, List.pairwise_cons.2 ⟨h2, e'.2.1⟩, fun a ha b hb => by
      rcases List.mem_cons.1 hb with rfl | hb
      · exact o.asym _ _ (h1 a ha)
      · exact e'.2.2 a ha b hb⟩
/-- one element into a row ahead of it: behind the last that is no greater -/
theorem hi_take (o : Order cf) {u : List α} (hu : Srt cf u) {h : Nat} {x y : α} (hx : u[h]? = some x) (hc : ¬ cf y x < 0) : ∀ z ∈ u.take (h + 1), ¬ cf y z < 0 := fun z hz => by
  obtain ⟨i, hi, e⟩ := mem_take_at hz
  exact o.trans _ _ _ (srt_at hu e hx (by omega) o) hc
theorem hi_drop (o : Order cf) {u : List α} (hu : Srt cf u) {h : Nat} {x y : α} (hx : u[h]? = some x) (hc : cf y x < 0) : ∀ z ∈ u.drop h, cf y z < 0 := fun z hz => by
  obtain ⟨i, hi, e⟩ := mem_drop_at hz
  exact o.lt_le hc (srt_at hu hx e hi o)
theorem one_right (o : Order cf) {u : List α} (hu : Srt cf u) {t : Nat} {y : α} (h1 : ∀ z ∈ u.take t, ¬ cf y z < 0) (h2 : ∀ z ∈ u.drop t, cf y z < 0) : Stab cf (u ++ [y]) (u.take t ++ y :: u.drop t) ∧ Srt cf (u.take t ++ y :: u.drop t) := by
  constructor
  · have := (Stab.rot (cf := cf) (u.drop t) [y] fun x hx z hz => by rw [List.mem_singleton.1 hz]; exact h2 x hx).in_ (u.take t) []
    simp only [List.append_nil, ← List.append_assoc, List.take_append_drop] at this
    simpa using this
  · have e : Srt cf (u.take t ++ u.drop t) := by rw [List.take_append_drop]; exact hu
    have e' := List.pairwise_append.1 e
    exact List.pairwise_append.2 ⟨e'.1, List.pairwise_cons.2 ⟨fun z hz => o.asym _ _ (h2 z hz), e'.2.1⟩, fun a ha b hb => by
      rcases List.mem_cons.1 hb with rfl | hb
      · exact h1 a ha
      · exact e'.2.2 a ha b hb⟩
/-- in a merge: all of what goes to the left is less than what goes to the right -/
theorem cut_lt (o : Order cf) {u v : List α} (hu : Srt cf u) (hv : Srt cf v) {i j : Nat} {x y : α} (hx : u[i]? = some x) (hy : v[j]? = some y) (hc : cf y x < 0) : ∀ a ∈ u.drop i, ∀ b ∈ v.take (j + 1), cf b a < 0 := fun a ha b hb =>
  lo_take o hv hy (hi_drop o hu hx hc a ha) b hb
theorem cut_ge (o : Order cf) {u v : List α} (hu : Srt cf u) (hv : Srt cf v) {i j : Nat} {x y : α} (hx : u[i]? = some x) (hy : v[j]? = some y) (hc : ¬ cf y x < 0) : ∀ a ∈ u.take (i + 1), ∀ b ∈ v.drop j, ¬ cf b a < 0 := fun a ha b hb =>
  lo_drop o hv hy (hi_take o hu hx hc a ha) b hb
theorem sym_cut (o : Order cf) {u v : List α} (hu : Srt cf u) (hv : Srt cf v) (ti tj : Nat)
    (h1 : ti = u.length ∨ tj = 0 ∨ ∃ x y, u[ti]? = some x ∧ v[tj - 1]? = some y ∧ cf y x < 0) (h2 : ti = 0 ∨ tj = v.length ∨ ∃ x y, u[ti - 1]? = some x ∧ v[tj]? = some y ∧ ¬ cf y x < 0) :
    (∀ x ∈ u.drop ti, ∀ y ∈ v.take tj, cf y x < 0) ∧ ∀ x ∈ u.take ti, ∀ y ∈ v.drop tj, ¬ cf y x < 0 := by
  constructor
  · rcases h1 with h | h | ⟨x, y, hx, hy, hc⟩
    · subst h; simp
    · subst h; simp
    · rcases Nat.eq_zero_or_pos tj with h | h
      · subst h; simp
      · have := cut_lt o hu hv hx hy hc
        rwa [show tj - 1 + 1 = tj by omega] at this
  · rcases h2 with h | h | ⟨x, y, hx, hy, hc⟩
    · subst h; simp
    · subst h; simp
    · rcases Nat.eq_zero_or_pos ti with h | h
      · subst h; simp
      · have := cut_ge o hu hv hx hy hc
        rwa [show ti - 1 + 1 = ti by omega] at this
/-- THE MERGE's STEP: [u1 u2][v1 v2] with all of v1 less than all of u2, none of v2 less than one of u1: exchanged, both halves merged by themselves: it is in order. -/
theorem srt_halves (o : Order cf) {u1 u2 v1 v2 r1 r2 : List α} (hu : Srt cf (u1 ++ u2)) (hv : Srt cf (v1 ++ v2)) (h1 : ∀ x ∈ u2, ∀ y ∈ v1, cf y x < 0) (h2 : ∀ x ∈ u1, ∀ y ∈ v2, ¬ cf y x < 0)
    (s1 : Stab cf (u1 ++ v1) r1) (s2 : Stab cf (u2 ++ v2) r2) (t1 : Srt cf r1) (t2 : Srt cf r2) : Stab cf ((u1 ++ u2) ++ (v1 ++ v2)) (r1 ++ r2) ∧ Srt cf (r1 ++ r2) := by
  constructor
  · have a1 := (Stab.rot u2 v1 h1).in_ u1 v2
    have a2 := s1.in_ [] (u2 ++ v2)
    have a3 := s2.in_ r1 []
    simp only [List.append_nil, List.nil_append, List.append_assoc] at a1 a2 a3 ⊢
    exact (a1.trans a2).trans a3
  · refine List.pairwise_append.2 ⟨t1, t2, fun x hx y hy => ?_⟩
    have hu' := List.pairwise_append.1 hu
    have hv' := List.pairwise_append.1 hv
    rcases List.mem_append.1 (s1.perm.mem_iff.1 hx) with hx | hx <;> rcases List.mem_append.1 (s2.perm.mem_iff.1 hy) with hy | hy
    · exact hu'.2.2 x hx y hy
    · exact h2 x hx y hy
    · exact o.asym _ _ (h1 y hy x hx)
    · exact hv'.2.2 x hx y hy
theorem srt_take {l : List α} (h : Srt cf l) (n : Nat) : Srt cf (l.take n) := List.Pairwise.sublist (List.take_sublist _ _) h
theorem srt_drop {l : List α} (h : Srt cf l) (n : Nat) : Srt cf (l.drop n) := List.Pairwise.sublist (List.drop_sublist _ _) h
end
end Go.Proofs.Ytggfepphjaohiaa
