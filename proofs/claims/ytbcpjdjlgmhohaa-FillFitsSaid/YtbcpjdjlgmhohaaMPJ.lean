import Derived.Test.YtbcpjdjlgmhohaaMBase
import Derived.Maps.Views
import Derived.WalkArith
/-
  Plain law: jobs in order; the next one, each time. Conditions: none.
-/
namespace Go.Proofs.Ytbcpjdjlgmhohaa
open Go.RowKit
set_option linter.unusedVariables false
set_option linter.unusedSimpArgs false

abbrev Jb := Int × Int × Int × Int
def cmpI (x y : Int) : Int := if x < y then -1 else if y < x then 1 else 0
theorem cmpI_neg (x y : Int) : cmpI x y < 0 ↔ x < y := by unfold cmpI; split; omega; split <;> omega
theorem cmpI_zero (x y : Int) : cmpI x y = 0 ↔ x = y := by unfold cmpI; split; omega; split <;> omega
def cfJ (a b : Jb) : Int := if cmpI b.2.1 a.2.1 = 0 then cmpI a.1 b.1 else cmpI b.2.1 a.2.1
theorem cfJ_neg (a b : Jb) : cfJ a b < 0 ↔ b.2.1 < a.2.1 ∨ (b.2.1 = a.2.1 ∧ a.1 < b.1) := by
  unfold cfJ
  by_cases h : cmpI b.2.1 a.2.1 = 0
  · rw [if_pos h, cmpI_neg]
    rw [cmpI_zero] at h
    omega
  · rw [if_neg h, cmpI_neg]
    rw [cmpI_zero] at h
    omega
theorem order_j : Order cfJ := ⟨fun x y h => by rw [cfJ_neg] at h ⊢; omega, fun x y z h k => by rw [cfJ_neg] at h k ⊢; omega⟩

section
variable {α : Type} {cf : α → α → Int}
/-- put in ahead of the first one that is no less -/
def ins (cf : α → α → Int) (x : α) : List α → List α
  | [] => [x]
  | y :: l => if cf y x < 0 then y :: ins cf x l else x :: y :: l
def isort (cf : α → α → Int) (l : List α) : List α := l.foldr (ins cf) []
theorem ins_perm (x : α) (l : List α) : (ins cf x l).Perm (x :: l) := by
  induction l with
  | nil => exact .refl _
  | cons y l ih =>
    unfold ins
    split
    · exact (List.Perm.cons y ih).trans (List.Perm.swap x y l)
    · exact .refl _
theorem isort_perm (l : List α) : (isort cf l).Perm l := by
  induction l with
  | nil => exact .refl _
  | cons x l ih => exact (ins_perm x _).trans (List.Perm.cons x ih)
theorem isort_len (l : List α) : (isort cf l).length = l.length := (isort_perm l).length_eq
theorem isort_mem {l : List α} {x : α} : x ∈ isort cf l ↔ x ∈ l := (isort_perm l).mem_iff
theorem ins_srt (o : Order cf) (x : α) {l : List α} (h : Srt cf l) : Srt cf (ins cf x l) := by
  induction l with
  | nil => exact List.pairwise_singleton _ _
  | cons y l ih =>
    have hc := List.pairwise_cons.1 h
    unfold ins
    split
    · rename_i hy
      refine List.pairwise_cons.2 ⟨fun z hz => ?_, ih hc.2⟩
      rcases List.mem_cons.1 ((ins_perm x l).mem_iff.1 hz) with rfl | hz
      · exact o.asym _ _ hy
      · exact hc.1 z hz
    · rename_i hy
      refine List.pairwise_cons.2 ⟨fun z hz => ?_, h⟩
      rcases List.mem_cons.1 hz with rfl | hz
      · exact hy
      · exact o.trans x y z hy (hc.1 z hz)
theorem isort_srt (o : Order cf) (l : List α) : Srt cf (isort cf l) := by
  induction l with
  | nil => exact List.Pairwise.nil
  | cons x l ih => exact ins_srt o x ih
theorem ins_filt (o : Order cf) (x : α) (l : List α) (c : α) : (ins cf x l).filter (cls cf c) = (x :: l).filter (cls cf c) := by
  induction l with
  | nil => rfl
  | cons y l ih =>
    unfold ins
    split
    · rename_i hy
      rw [List.filter_cons, ih]
      cases hcx : cls cf c x with
      | false => simp [List.filter_cons, hcx]
      | true =>
        have hcy : cls cf c y = false := by
          rw [← Bool.not_eq_true, cls_true]
          rw [cls_true] at hcx
          intro hk
          exact (o.le_lt (x := c) (y := y) (z := x) hk.1 hy) |> hcx.2
        simp [List.filter_cons, hcx, hcy]
    · rfl
theorem isort_filt (o : Order cf) (l : List α) (c : α) : (isort cf l).filter (cls cf c) = l.filter (cls cf c) := by
  induction l with
  | nil => rfl
  | cons x l ih =>
    show (ins cf x (isort cf l)).filter _ = _
    rw [ins_filt o, List.filter_cons, List.filter_cons, ih]
/-- whatever is in order, and keeps the order of equals, is it -/
theorem isort_is (o : Order cf) {l r : List α} (hr : Srt cf r) (hf : ∀ c, r.filter (cls cf c) = l.filter (cls cf c)) : r = isort cf l :=
  srt_uniq o (isort_srt o l) hr fun c => (hf c).trans (isort_filt o l c).symm
theorem isort_stab (o : Order cf) {l r : List α} (h : Stab cf l r) (hr : Srt cf r) : r = isort cf l := isort_is o hr fun c => h.filt o c
theorem isort_same (o : Order cf) {l : List α} (h : Srt cf l) : isort cf l = l := (isort_is o h fun _ => rfl).symm
/-- the first one of the least -/
theorem isort_first (o : Order cf) {p s : List α} {x : α} (hp : ∀ y ∈ p, cf x y < 0) (hs : ∀ y ∈ s, ¬ cf y x < 0) : isort cf (p ++ x :: s) = x :: isort cf (p ++ s) := by
  refine (isort_is o (List.pairwise_cons.2 ⟨fun z hz => ?_, isort_srt o _⟩) fun c => ?_).symm
  · rw [isort_mem, List.mem_append] at hz
    rcases hz with hz | hz
    · exact o.asym _ _ (hp z hz)
    · exact hs z hz
  · rw [List.filter_cons, isort_filt o, List.filter_append, List.filter_append, List.filter_cons]
    cases hcx : cls cf c x with
    | false => rfl
    | true =>
      have : p.filter (cls cf c) = [] := List.filter_eq_nil_iff.2 fun y hy hcy => by
        rw [cls_true] at hcx hcy
        exact (o.le_lt (x := c) (y := x) (z := y) hcx.1 (hp y hy)) |> hcy.2
      rw [this]; rfl
/-- those whose places are not done -/
def restF (D : List Int) : Nat → List α → List α
  | _, [] => []
  | i, x :: l => if (i : Int) ∈ D then restF D (i + 1) l else x :: restF D (i + 1) l
theorem restF_append (D : List Int) (i : Nat) (p s : List α) : restF D i (p ++ s) = restF D i p ++ restF D (i + p.length) s := by
  induction p generalizing i with
  | nil => rfl
  | cons x p ih =>
    simp only [List.cons_append, restF, List.length_cons]
    rw [ih (i + 1), show i + 1 + p.length = i + (p.length + 1) by omega]
    split <;> rfl
theorem restF_congr {D D' : List Int} (i : Nat) (l : List α) (h : ∀ j, i ≤ j → j < i + l.length → ((j : Int) ∈ D ↔ (j : Int) ∈ D')) : restF D i l = restF D' i l := by
  induction l generalizing i with
  | nil => rfl
  | cons x l ih =>
    simp only [restF]
    rw [ih (i + 1) fun j h1 h2 => h j (by omega) (by simp; omega)]
    have := h i (Nat.le_refl _) (by simp)
    by_cases hD : (i : Int) ∈ D
    · rw [if_pos hD, if_pos (this.1 hD)]
    · rw [if_neg hD, if_neg fun k => hD (this.2 k)]
theorem restF_nil (i : Nat) (l : List α) : restF [] i l = l := by
  induction l generalizing i with
  | nil => rfl
  | cons x l ih => simp [restF, ih]
theorem restF_mem {D : List Int} {i : Nat} {l : List α} {y : α} (h : y ∈ restF D i l) : ∃ j, l[j]? = some y ∧ ((i + j : Nat) : Int) ∉ D := by
  induction l generalizing i with
  | nil => simp [restF] at h
  | cons x l ih =>
    simp only [restF] at h
    split at h
    · obtain ⟨j, h1, h2⟩ := ih h
      exact ⟨j + 1, by simpa using h1, by rwa [show i + (j + 1) = i + 1 + j by omega]⟩
    · rename_i hn
      rcases List.mem_cons.1 h with rfl | h
      · exact ⟨0, rfl, hn⟩
      · obtain ⟨j, h1, h2⟩ := ih h
        exact ⟨j + 1, by simpa using h1, by rwa [show i + (j + 1) = i + 1 + j by omega]⟩
/-- so far chosen -/
def BestF (cf : α → α → Int) (l : List α) (D : List Int) (i : Nat) (b : Int) : Prop :=
  (b = -1 ∧ ∀ j, j < i → (j : Int) ∈ D) ∨
  ∃ (c : Nat) (x : α), b = c ∧ c < i ∧ l[c]? = some x ∧ (c : Int) ∉ D ∧ (∀ (j : Nat) (y : α), l[j]? = some y → j < c → (j : Int) ∉ D → cf x y < 0) ∧ ∀ (j : Nat) (y : α), l[j]? = some y → c < j → j < i → (j : Int) ∉ D → ¬ cf y x < 0
theorem bestF_start (l : List α) (D : List Int) : BestF cf l D 0 (-1) := .inl ⟨rfl, fun j h => by omega⟩
theorem bestF_skip {l : List α} {D : List Int} {i : Nat} {b : Int} (h : BestF cf l D i b) (hn : (i : Int) ∈ D ∨ ∃ (c : Nat) (x y : α), b = c ∧ l[c]? = some x ∧ l[i]? = some y ∧ ¬ cf y x < 0) : BestF cf l D (i + 1) b := by
  rcases h with ⟨h1, h2⟩ | ⟨c, x, h1, h2, h3, h4, h5, h6⟩
  · rcases hn with hn | ⟨c, x, y, e1, _⟩
    · refine .inl ⟨h1, fun j hj => ?_⟩
      rcases Nat.lt_or_ge j i with h | h
      · exact h2 j h
      · obtain rfl : j = i := by omega
        exact hn
    · omega
  · refine .inr ⟨c, x, h1, by omega, h3, h4, h5, fun j y hj hcj hji hD => ?_⟩
    rcases Nat.lt_or_ge j i with h | h
    · exact h6 j y hj hcj h hD
    · obtain rfl : j = i := by omega
      rcases hn with hn | ⟨c', x', y', e1, e2, e3, e4⟩
      · exact absurd hn hD
      · obtain rfl : c' = c := by omega
        rw [h3] at e2; injection e2 with e2; subst e2
        rw [hj] at e3; injection e3 with e3; subst e3
        exact e4
theorem bestF_take (o : Order cf) {l : List α} {D : List Int} {i : Nat} {b : Int} (h : BestF cf l D i b) {y : α} (hy : l[i]? = some y) (hD : (i : Int) ∉ D) (hb : b < 0 ∨ ∃ (c : Nat) (x : α), b = c ∧ l[c]? = some x ∧ cf y x < 0) : BestF cf l D (i + 1) (i : Int) := by
  refine .inr ⟨i, y, rfl, by omega, hy, hD, fun j z hj hji hjD => ?_, fun j z hj h1 h2 _ => by omega⟩
  rcases h with ⟨e1, e2⟩ | ⟨c, x, e1, e2, e3, e4, e5, e6⟩
  · exact absurd (e2 j hji) hjD
  · rcases hb with hb | ⟨c', x', g1, g2, g3⟩
    · omega
    · obtain rfl : c' = c := by omega
      rw [e3] at g2; injection g2 with g2; subst g2
      rcases Nat.lt_trichotomy j c' with h | h | h
      · exact o.lt_le g3 (o.asym _ _ (e5 j z hj h hjD))
      · subst h; rw [e3] at hj; injection hj with hj; subst hj; exact g3
      · exact o.lt_le g3 (e6 j z hj h hji hjD)
/-- one more is taken -/
theorem bestF_end (o : Order cf) {l : List α} {D : List Int} {b : Int} (h : BestF cf l D l.length b) (hr : restF D 0 l ≠ []) :
    ∃ (c : Nat) (x : α), b = c ∧ l[c]? = some x ∧ (c : Int) ∉ D ∧ isort cf (restF D 0 l) = x :: isort cf (restF (D ++ [(c : Int)]) 0 l) := by
  rcases h with ⟨h1, h2⟩ | ⟨c, x, h1, h2, h3, h4, h5, h6⟩
  · exfalso
    cases hl : restF D 0 l with
    | nil => exact hr hl
    | cons y r =>
      obtain ⟨j, e1, e2⟩ := restF_mem (D := D) (i := 0) (l := l) (y := y) (by rw [hl]; simp)
      rw [Nat.zero_add] at e2
      exact e2 (h2 j (List.getElem?_eq_some_iff.1 e1).1)
  · refine ⟨c, x, h1, h3, h4, ?_⟩
    have hl : l = l.take c ++ x :: l.drop (c + 1) := by
      conv => lhs; rw [← List.take_append_drop (c + 1) l, take_snoc' h3, List.append_assoc]
      rfl
    have hlen : (l.take c).length = c := by simp; omega
    have e1 : restF D 0 l = restF D 0 (l.take c) ++ x :: restF D (c + 1) (l.drop (c + 1)) := by
      conv => lhs; rw [hl, restF_append, hlen, Nat.zero_add]
      simp only [restF]
      rw [if_neg h4]
    have e2 : restF (D ++ [(c : Int)]) 0 l = restF D 0 (l.take c) ++ restF D (c + 1) (l.drop (c + 1)) := by
      conv => lhs; rw [hl, restF_append, hlen, Nat.zero_add]
      simp only [restF]
      rw [if_pos (by simp)]
      congr 1
      · exact restF_congr 0 _ fun j _ hj => by
          rw [Nat.zero_add, hlen] at hj
          simp only [List.mem_append, List.mem_singleton]
          exact ⟨fun h => h.elim id fun h => by omega, .inl⟩
      · exact restF_congr (c + 1) _ fun j hj _ => by
          simp only [List.mem_append, List.mem_singleton]
          exact ⟨fun h => h.elim id fun h => by omega, .inl⟩
    rw [e1, e2]
    refine isort_first o (fun y hy => ?_) fun y hy => ?_
    · obtain ⟨j, g1, g2⟩ := restF_mem hy
      rw [Nat.zero_add] at g2
      have hj : j < c := by have := (List.getElem?_eq_some_iff.1 g1).1; simp at this; omega
      rw [List.getElem?_take_of_lt hj] at g1
      exact h5 j y g1 hj g2
    · obtain ⟨j, g1, g2⟩ := restF_mem hy
      rw [List.getElem?_drop] at g1
      exact h6 (c + 1 + j) y g1 (by omega) (List.getElem?_eq_some_iff.1 g1).1 g2
end
def orderJ (l : List Jb) : List Jb := isort cfJ l
theorem orderJ_len (l : List Jb) : (orderJ l).length = l.length := isort_len l
/-- the document's: so far in order -/
def OrdInv (l O : List Jb) (D : List Int) : Prop := O ++ orderJ (restF D 0 l) = orderJ l ∧ D.length = O.length
theorem ord_start (l : List Jb) : OrdInv l [] [] := ⟨by rw [restF_nil]; rfl, rfl⟩
theorem ord_len {l O : List Jb} {D : List Int} (h : OrdInv l O D) : O.length + (restF D 0 l).length = l.length := by
  have := congrArg List.length h.1
  rwa [List.length_append, orderJ_len, orderJ_len] at this
theorem ord_next {l O : List Jb} {D : List Int} (h : OrdInv l O D) (hlt : O.length < l.length) {b : Int} (hb : BestF cfJ l D l.length b) : ∃ (c : Nat) (x : Jb), b = c ∧ l[c]? = some x ∧ OrdInv l (O ++ [x]) (D ++ [(c : Int)]) := by
  have hr : restF D 0 l ≠ [] := fun e => by have := ord_len h; rw [e] at this; simp at this; omega
  obtain ⟨c, x, e1, e2, _, e4⟩ := bestF_end order_j hb hr
  refine ⟨c, x, e1, e2, ?_, by simp [h.2]⟩
  rw [← h.1, List.append_assoc]
  unfold orderJ
  rw [e4]
  rfl
theorem ord_end {l O : List Jb} {D : List Int} (h : OrdInv l O D) (hge : ¬ O.length < l.length) : O = orderJ l := by
  have := ord_len h
  have hr : restF D 0 l = [] := List.length_eq_zero_iff.1 (by omega)
  have h1 := h.1
  rw [hr] at h1
  simpa [orderJ, isort] using h1
end Go.Proofs.Ytbcpjdjlgmhohaa

/-
  Plain law: which jobs may be. Conditions: none.
-/
namespace Go.Proofs.Ytbcpjdjlgmhohaa
open Go.RowKit Go.Maps
set_option linter.unusedVariables false
set_option linter.unusedSimpArgs false

def JobOk (j : Jb) : Prop := 1 ≤ j.1 ∧ 0 ≤ j.2.1 ∧ j.2.1 ≤ 1000 ∧ 1 ≤ j.2.2.1 ∧ j.2.2.1 ≤ 10000 ∧ 1 ≤ j.2.2.2 ∧ isT j.2.2.2 = true
instance (j : Jb) : Decidable (JobOk j) := by unfold JobOk; infer_instance
def okJ (j : Jb) : Bool := decide (JobOk j)
def ids (l : List Jb) : List Int := l.map (·.1)
def FillArg (l : List Stp) (now : Int) (jobs : List Jb) : Prop := Prof l ∧ isT now = true ∧ ∀ j ∈ jobs, JobOk j
open Classical in
noncomputable def chkJ (l : List Stp) (now : Int) (jobs : List Jb) : Int := if FillArg l now jobs then (if (ids jobs).Nodup then 0 else 51) else 2
theorem chkJ_bad {l : List Stp} {now : Int} {jobs : List Jb} (h : ¬ FillArg l now jobs) : chkJ l now jobs = 2 := if_neg h
theorem chkJ_twice {l : List Stp} {now : Int} {jobs : List Jb} (h : FillArg l now jobs) (h2 : ¬ (ids jobs).Nodup) : chkJ l now jobs = 51 := by unfold chkJ; rw [if_pos h, if_neg h2]
theorem chkJ_ok {l : List Stp} {now : Int} {jobs : List Jb} (h : FillArg l now jobs) (h2 : (ids jobs).Nodup) : chkJ l now jobs = 0 := by unfold chkJ; rw [if_pos h, if_pos h2]
theorem chkJ_zero {l : List Stp} {now : Int} {jobs : List Jb} (h : chkJ l now jobs = 0) : FillArg l now jobs ∧ (ids jobs).Nodup := by
  unfold chkJ at h
  by_cases h1 : FillArg l now jobs
  · by_cases h2 : (ids jobs).Nodup
    · exact ⟨h1, h2⟩
    · rw [if_pos h1, if_neg h2] at h; omega
  · rw [if_neg h1] at h; omega
def IdsWf (l : List Jb) : Prop := ∀ j ∈ l, -9223372036854775808 ≤ j.1 ∧ j.1 ≤ 9223372036854775807
/-- the key -/
def keyJ (x : Int) : Lit := .int .i64 x
theorem keyJ_lit {xs : List Int} (h : ∀ x ∈ xs, -9223372036854775808 ≤ x ∧ x ≤ 9223372036854775807) : ∀ x ∈ xs.map keyJ, WideAt.IsKeyLit x := fun x hx => by
  obtain ⟨y, hy, rfl⟩ := List.mem_map.1 hx
  exact trivial
theorem keyJ_same (a b : Int) : (keyJ a).sameKey (keyJ b) = decide (a = b) := by
  by_cases h : a = b
  · subst h; simp [keyJ, Lit.sameKey]
  · simp [keyJ, Lit.sameKey, h]
def ddup (L : List Int) (x : Int) : List Int := if x ∈ L then L else L ++ [x]
theorem addKey_map (L : List Int) (x : Int) : addKey (L.map keyJ) (keyJ x) = (ddup L x).map keyJ := by
  unfold addKey ddup
  have : (L.map keyJ).any (fun y => y.sameKey (keyJ x)) = decide (x ∈ L) := by
    rw [Bool.eq_iff_iff, List.any_eq_true, decide_eq_true_eq]
    constructor
    · rintro ⟨y, hy, he⟩
      obtain ⟨z, hz, rfl⟩ := List.mem_map.1 hy
      rw [keyJ_same, decide_eq_true_eq] at he
      subst he; exact hz
    · intro h
      exact ⟨_, List.mem_map.2 ⟨x, h, rfl⟩, by rw [keyJ_same]; simp⟩
  rw [this]
  by_cases h : x ∈ L
  · simp [h]
  · simp [h]
theorem fold_map (xs L : List Int) : (xs.map keyJ).foldl addKey (L.map keyJ) = (xs.foldl ddup L).map keyJ := by
  induction xs generalizing L with
  | nil => rfl
  | cons x xs ih => simp only [List.map_cons, List.foldl_cons]; rw [addKey_map, ih]
theorem ddup_len (xs L : List Int) : (xs.foldl ddup L).length ≤ L.length + xs.length ∧ ((xs.foldl ddup L).length = L.length + xs.length ↔ xs.Nodup ∧ ∀ x ∈ xs, x ∉ L) := by
  induction xs generalizing L with
  | nil => simp
  | cons x xs ih =>
    simp only [List.foldl_cons, List.length_cons]
    by_cases h : x ∈ L
    · have e : ddup L x = L := if_pos h
      rw [e]
      have := (ih L).1
      refine ⟨by omega, ⟨fun h1 => by omega, fun h1 => absurd h (h1.2 x (by simp))⟩⟩
    · have e : ddup L x = L ++ [x] := if_neg h
      rw [e]
      obtain ⟨h1, h2⟩ := ih (L ++ [x])
      rw [List.length_append] at h1 h2
      simp only [List.length_cons, List.length_nil] at h1 h2
      refine ⟨by omega, ?_⟩
      rw [show L.length + (xs.length + 1) = L.length + (0 + 1) + xs.length by omega, h2, List.nodup_cons]
      constructor
      · rintro ⟨g1, g2⟩
        refine ⟨⟨fun hx => ?_, g1⟩, fun y hy => ?_⟩
        · exact g2 x hx (by simp)
        · rcases List.mem_cons.1 hy with rfl | hy
          · exact h
          · exact fun hyL => g2 y hy (List.mem_append_left _ hyL)
      · rintro ⟨⟨g0, g1⟩, g2⟩
        refine ⟨g1, fun y hy hyL => ?_⟩
        rcases List.mem_append.1 hyL with hyL | hyL
        · exact g2 y (List.mem_cons_of_mem _ hy) hyL
        · rw [List.mem_singleton] at hyL; subst hyL; exact g0 hy
/-- how many different numbers -/
theorem size_ids (u : DataW Unit) {xs : List Int} (h : ∀ x ∈ xs, -9223372036854775808 ≤ x ∧ x ≤ 9223372036854775807) : Maps.size (setOf u (xs.map keyJ)) ≤ xs.length ∧ (Maps.size (setOf u (xs.map keyJ)) < xs.length ↔ ¬ xs.Nodup) := by
  rw [size_setOf u _ (keyJ_lit h)]
  have := fold_map xs []
  simp only [List.map_nil] at this
  rw [this, List.length_map]
  obtain ⟨h1, h2⟩ := ddup_len xs []
  simp only [List.length_nil, Nat.zero_add, List.not_mem_nil, not_false_eq_true, implies_true, and_true] at h1 h2
  refine ⟨h1, ?_⟩
  rw [← h2]
  omega
end Go.Proofs.Ytbcpjdjlgmhohaa

