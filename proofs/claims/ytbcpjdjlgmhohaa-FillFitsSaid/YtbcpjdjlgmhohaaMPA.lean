import Derived.Test.YtbcpjdjlgmhohaaMBase
import Derived.Test.YtbcpjdjlgmhohaaWCut
import Derived.Test.YtbcpjdjlgmhohaaWLeast
/-
  Plain law: so many more for a while: what it is, and when it may be. Conditions: none.
-/
namespace Go.Proofs.Ytbcpjdjlgmhohaa
open Go.RowKit

def Starts (l : List Stp) : Prop := ∃ u, l.head? = some (0, u)
theorem Prof.starts {l : List Stp} (h : Prof l) : Starts l := by
  obtain ⟨h1, _, h2, _⟩ := h
  cases l with
  | nil => simp at h1
  | cons x l => obtain ⟨a, u⟩ := x; have := h2 a u rfl; subst this; exact ⟨u, rfl⟩
theorem Prof.norm {l : List Stp} (h : Prof l) : Norm l := by
  have key : ∀ (m : List Stp) (d : Nat), m = l.drop d → Norm m := fun m => by
    induction m with
    | nil => intro _ _; trivial
    | cons x m ih =>
      intro d hd
      cases m with
      | nil => trivial
      | cons y m =>
        have h0 : l[d]? = some x := by
          have : (l.drop d)[0]? = some x := by rw [← hd]; rfl
          rwa [List.getElem?_drop, Nat.add_zero] at this
        have h1 : l[d + 1]? = some y := by
          have : (l.drop d)[1]? = some y := by rw [← hd]; rfl
          rwa [List.getElem?_drop] at this
        have hm : y :: m = l.drop (d + 1) := by
          rw [← List.drop_drop, ← hd]; rfl
        have hk := h.2.2.2 (d + 1) (List.getElem?_eq_some_iff.1 h1).1 y.1 y.2 h1
        rcases hk.2.2.2 with h2 | h2
        · omega
        · have := h2 x.1 x.2 (by rw [Nat.add_sub_cancel]; exact h0)
          exact ⟨this.1, fun e => this.2 e.symm, ih (d + 1) hm⟩
  exact key l 0 (by simp)
theorem Prof.bound {l : List Stp} (h : Prof l) : ∀ s ∈ l, (0 ≤ s.1 ∧ s.1 ≤ 1099511627775) ∧ 0 ≤ s.2 ∧ s.2 ≤ 10000 := fun s hs => by
  obtain ⟨i, hi⟩ := List.mem_iff_getElem?.1 hs
  have := h.2.2.2 i (List.getElem?_eq_some_iff.1 hi).1 s.1 s.2 hi
  exact ⟨this.1, this.2.1, this.2.2.1⟩
theorem freeG_bound {l : List Stp} {n x : Int} (h : ∀ s ∈ l, 0 ≤ s.2 ∧ s.2 ≤ 10000) (hn : 0 ≤ n ∧ n ≤ 10000) : 0 ≤ freeG n l x ∧ freeG n l x ≤ 10000 := by
  induction l generalizing n with
  | nil => exact hn
  | cons s l ih =>
    rw [freeG_cons]
    refine ih (fun s hs => h s (List.mem_cons_of_mem _ hs)) ?_
    split
    · exact h s (by simp)
    · exact hn
theorem Prof.free {l : List Stp} (h : Prof l) (x : Int) : 0 ≤ freeT l x ∧ freeT l x ≤ 10000 := freeG_bound (fun s hs => (h.bound s hs).2) (by omega)
/-- what makes a profile -/
theorem prof_of {l : List Stp} (hn : Norm l) (hs : Starts l) (hb : ∀ s ∈ l, s.1 ≤ 1099511627775 ∧ 0 ≤ s.2 ∧ s.2 ≤ 10000) (hl : l.length ≤ 20000) : Prof l := by
  obtain ⟨u0, h0⟩ := hs
  have h00 : l[0]? = some (0, u0) := by rw [← List.head?_eq_getElem?]; exact h0
  have ha := hn.asc
  refine ⟨(List.getElem?_eq_some_iff.1 h00).1, hl, fun a f h => by rw [h00] at h; injection h with h; injection h with h _; exact h.symm, fun i hi a f h => ?_⟩
  obtain ⟨hi', he⟩ := List.getElem?_eq_some_iff.1 h
  have hb' := hb (a, f) (List.mem_of_getElem? h)
  have h0a : 0 ≤ a := by
    rcases Nat.eq_zero_or_pos i with h1 | h1
    · subst h1; rw [h00] at h; injection h with h; injection h with h _; omega
    · obtain ⟨h2, h3⟩ := List.getElem?_eq_some_iff.1 h00
      have := List.pairwise_iff_getElem.1 ha 0 i h2 hi' h1
      rw [h3, he] at this
      simp only at this; omega
  refine ⟨⟨h0a, hb'.1⟩, hb'.2.1, hb'.2.2, ?_⟩
  rcases Nat.eq_zero_or_pos i with h1 | h1
  · exact .inl h1
  · right
    intro a' f' h'
    obtain ⟨j, rfl⟩ : ∃ j, i = j + 1 := ⟨i - 1, by omega⟩
    rw [Nat.add_sub_cancel] at h'
    have key : ∀ (l : List Stp) (j : Nat) (x y : Stp), Norm l → l[j]? = some x → l[j + 1]? = some y → x.1 < y.1 ∧ x.2 ≠ y.2 := fun l j => by
      induction j generalizing l with
      | zero =>
        intro x y hn hx hy
        cases l with
        | nil => simp at hx
        | cons p l =>
          cases l with
          | nil => simp at hy
          | cons q l => simp at hx hy; subst hx; subst hy; exact ⟨hn.1, hn.2.1⟩
      | succ j ih =>
        intro x y hn hx hy
        cases l with
        | nil => simp at hx
        | cons p l => exact ih l x y hn.tail (by simpa using hx) (by simpa using hy)
    have := key l j _ _ hn h' h
    exact ⟨this.1, fun e => this.2 e.symm⟩

def gAdd (l : List Stp) (f t k x : Int) : Int := freeT l x + if f ≤ x ∧ x < t then k else 0
def addL (l : List Stp) (f t k : Int) : List Stp := tid (samp (gAdd l f t k) (timesR l [] f t))
def AddArg (l : List Stp) (f t k : Int) : Prop := Prof l ∧ isT f = true ∧ isT t = true ∧ f ≤ t ∧ -10000 ≤ k ∧ k ≤ 10000
def Room (l : List Stp) (f t k : Int) : Prop := ∀ x, f ≤ x → x < t → 0 ≤ freeT l x + k ∧ freeT l x + k ≤ 10000
open Classical in
noncomputable def addE (l : List Stp) (f t k : Int) : Int := if AddArg l f t k then (if Room l f t k then 0 else 70) else 2
open Classical in
noncomputable def addR (l : List Stp) (f t k : Int) : List Stp := if AddArg l f t k ∧ Room l f t k then addL l f t k else []
theorem add_bad {l : List Stp} {f t k : Int} (h : ¬ AddArg l f t k) : addE l f t k = 2 ∧ addR l f t k = [] := by
  unfold addE addR; rw [if_neg h, if_neg fun k => h k.1]; exact ⟨rfl, rfl⟩
theorem add_full {l : List Stp} {f t k : Int} (h : AddArg l f t k) (h2 : ¬ Room l f t k) : addE l f t k = 70 ∧ addR l f t k = [] := by
  unfold addE addR; rw [if_pos h, if_neg h2, if_neg fun k => h2 k.2]; exact ⟨rfl, rfl⟩
theorem add_ok {l : List Stp} {f t k : Int} (h : AddArg l f t k) (h2 : Room l f t k) : addE l f t k = 0 ∧ addR l f t k = addL l f t k := by
  unfold addE addR; rw [if_pos h, if_pos h2, if_pos ⟨h, h2⟩]; exact ⟨rfl, rfl⟩
theorem add_cases (l : List Stp) (f t k : Int) : (AddArg l f t k ∧ Room l f t k ∧ addE l f t k = 0 ∧ addR l f t k = addL l f t k) ∨ (AddArg l f t k ∧ ¬ Room l f t k ∧ addE l f t k = 70 ∧ addR l f t k = []) ∨ (¬ AddArg l f t k ∧ addE l f t k = 2 ∧ addR l f t k = []) := by
  by_cases h : AddArg l f t k
  · by_cases h2 : Room l f t k
    · exact .inl ⟨h, h2, add_ok h h2⟩
    · exact .inr (.inl ⟨h, h2, add_full h h2⟩)
  · exact .inr (.inr ⟨h, add_bad h⟩)

theorem gAdd_const {l : List Stp} {f t k x y : Int} (h : ∀ s ∈ timesR l [] f t, s ≤ x ↔ s ≤ y) : gAdd l f t k x = gAdd l f t k y := by
  obtain ⟨h1, _, h3, h4⟩ := timesR_le h
  unfold gAdd
  rw [h1]
  congr 1
  by_cases hx : f ≤ x ∧ x < t
  · rw [if_pos hx, if_pos ⟨h3.1 hx.1, by have := h4; omega⟩]
  · rw [if_neg hx, if_neg fun k => hx ⟨h3.2 k.1, by have := h4; omega⟩]
section
variable {l : List Stp} {f t k : Int}
theorem zero_times (hl : Starts l) : (0 : Int) ∈ timesR l [] f t := by
  obtain ⟨u, hu⟩ := hl
  refine (timesR_mem _ _ _ _ _).2 (.inr (.inr (.inl ⟨u, ?_⟩)))
  cases l with
  | nil => simp at hu
  | cons x l => simp at hu; subst hu; simp
theorem times_nonneg (hl : Prof l) (hf : 0 ≤ f) (ht : 0 ≤ t) : ∀ x ∈ timesR l [] f t, 0 ≤ x := fun x hx => by
  rcases (timesR_mem _ _ _ _ _).1 hx with h | h | ⟨u, h⟩ | ⟨u, h⟩
  · omega
  · omega
  · exact (hl.bound _ h).1.1
  · simp at h
/-- a rising list in which 0 lies, and nothing less, begins with it -/
theorem head_zero {ts : List Int} (ha : ts.Pairwise (· < ·)) (h0 : (0 : Int) ∈ ts) (hn : ∀ x ∈ ts, 0 ≤ x) : ts.head? = some 0 := by
  cases ts with
  | nil => simp at h0
  | cons x ts =>
    rcases List.mem_cons.1 h0 with h | h
    · rw [← h]; rfl
    · have h1 := (List.pairwise_cons.1 ha).1 0 h
      have h2 := hn x (by simp)
      omega
theorem samp_head {g : Int → Int} {ts : List Int} (h : ts.head? = some 0) : (samp g ts).head? = some (0, g 0) := by
  cases ts with
  | nil => simp at h
  | cons x ts => simp at h; subst h; rfl
theorem addL_free (hl : Starts l) {x : Int} (hx : 0 ≤ x) (n : Int) : freeG n (addL l f t k) x = gAdd l f t k x := by
  have ha := timesR_asc l [] f t
  have := (tid_spec _ (samp_asc (g := gAdd l f t k) ha)).2.2.2 n x
  unfold addL
  rw [this]
  exact samp_free ha (fun x y h => gAdd_const h) ⟨0, zero_times hl, hx⟩ n
theorem addL_norm : Norm (addL l f t k) := (tid_spec _ (samp_asc (timesR_asc l [] f t))).1
theorem addL_starts (hl : Prof l) (hf : 0 ≤ f) (ht : 0 ≤ t) : Starts (addL l f t k) := by
  refine ⟨gAdd l f t k 0, ?_⟩
  unfold addL
  rw [(tid_spec _ (samp_asc (timesR_asc l [] f t))).2.2.1]
  exact samp_head (head_zero (timesR_asc l [] f t) (zero_times hl.starts) (times_nonneg hl hf ht))
theorem addL_len : (addL l f t k).length ≤ l.length + 2 := by
  have := tid_len (samp (gAdd l f t k) (timesR l [] f t))
  have := timesR_len l [] f t
  rw [samp_len] at *
  unfold addL
  simp at *
  omega
/-- told by what is free -/
theorem norm_eq {r s : List Stp} (hr : Norm r) (hs : Norm s) (h0 : Starts r) (h1 : Starts s) (h : ∀ x, 0 ≤ x → freeT r x = freeT s x) : r = s := by
  obtain ⟨u, hu⟩ := h0
  obtain ⟨v, hv⟩ := h1
  exact norm_ext r s hr hs _ _ hu hv rfl 0 fun t ht => h t ht
theorem addL_eq {r : List Stp} (hl : Prof l) (hf : 0 ≤ f) (ht : 0 ≤ t) (hr : Norm r) (h0 : Starts r) (h : ∀ x, 0 ≤ x → freeT r x = gAdd l f t k x) : r = addL l f t k :=
  norm_eq hr addL_norm h0 (addL_starts hl hf ht) fun x hx => by rw [h x hx]; exact (addL_free hl.starts hx 0).symm
/-- room, by the times -/
theorem room_times (hl : Prof l) : Room l f t k ↔ ∀ x ∈ timesR l [] f t, 0 ≤ gAdd l f t k x ∧ gAdd l f t k x ≤ 10000 := by
  constructor
  · intro h x _
    unfold gAdd
    split
    · rename_i hx; exact h x hx.1 hx.2
    · have := hl.free x; omega
  · intro h x h1 h2
    obtain ⟨τ, a1, a2, a3⟩ := last_le (x := x) ⟨f, (timesR_mem l [] f t f).2 (.inl rfl), h1⟩
    have := h τ a1
    rw [← gAdd_const (x := x) (y := τ) fun s hs => ⟨fun h => a3 s hs h, fun h => by omega⟩] at this
    unfold gAdd at this
    rw [if_pos ⟨h1, h2⟩] at this
    exact this
theorem addL_prof (h : AddArg l f t k) (hr : Room l f t k) (hn : l.length ≤ 19000) : Prof (addL l f t k) := by
  obtain ⟨hl, hf, ht, hft, _, _⟩ := h
  rw [isT_iff] at hf ht
  refine prof_of addL_norm (addL_starts hl hf.1 ht.1) (fun s hs => ?_) (by have := addL_len (l := l) (f := f) (t := t) (k := k); omega)
  have := (tid_spec _ (samp_asc (timesR_asc l [] f t))).2.1 s hs
  obtain ⟨x, hx, rfl⟩ := List.mem_map.1 this
  refine ⟨?_, (room_times hl).1 hr x hx⟩
  rcases (timesR_mem _ _ _ _ _).1 hx with h | h | ⟨u, h⟩ | ⟨u, h⟩
  · simp only; omega
  · simp only; omega
  · exact (hl.bound _ h).1.2
  · simp at h
end
end Go.Proofs.Ytbcpjdjlgmhohaa

/-
  Plain law: the row that the program tidies when it adds is the document's profile. Conditions: none.
-/
namespace Go.Proofs.Ytbcpjdjlgmhohaa
open Go.RowKit
set_option linter.unusedVariables false
set_option linter.unusedSimpArgs false

/-- the first i steps with k more -/
def upd (k : Int) (i : Nat) (c : List Stp) : List Stp := (c.take i).map (fun s => (s.1, s.2 + k)) ++ c.drop i
theorem upd_zero (k : Int) (c : List Stp) : upd k 0 c = c := by simp [upd]
theorem upd_len (k : Int) (i : Nat) (c : List Stp) : (upd k i c).length = c.length := by simp [upd]; omega
theorem upd_all (k : Int) (c : List Stp) : upd k c.length c = c.map fun s => (s.1, s.2 + k) := by simp [upd]
theorem upd_get {k : Int} {i : Nat} {c : List Stp} {a u : Int} (h : c[i]? = some (a, u)) : (upd k i c)[i]? = some (a, u) := by
  unfold upd
  have hi := (List.getElem?_eq_some_iff.1 h).1
  rw [List.getElem?_append_right (by simp; omega)]
  simp only [List.length_map, List.length_take, List.getElem?_drop]
  rw [show i + (i - min i c.length) = i by omega]
  exact h
theorem upd_succ {k : Int} {i : Nat} {c : List Stp} {a u : Int} (h : c[i]? = some (a, u)) : (upd k i c).set i (a, u + k) = upd k (i + 1) c := by
  have hi := (List.getElem?_eq_some_iff.1 h).1
  apply List.ext_getElem?
  intro j
  rw [List.getElem?_set]
  unfold upd
  rcases Nat.lt_trichotomy i j with h1 | h1 | h1
  · rw [if_neg (by omega), List.getElem?_append_right (by simp; omega), List.getElem?_append_right (by simp; omega)]
    simp only [List.length_map, List.length_take, List.getElem?_drop]
    congr 1
    omega
  · subst h1
    rw [if_pos rfl, if_pos (by simp; omega), List.getElem?_append_left (by simp; omega)]
    simp [h, List.getElem?_take]
  · rw [if_neg (by omega), List.getElem?_append_left (by simp; omega), List.getElem?_append_left (by simp; omega)]
    simp [List.getElem?_take, h1, show j < i + 1 by omega]
theorem flat_set {c : List Stp} {i : Nat} {a u v : Int} (h : c[i]? = some (a, u)) : (flat encP c).set (i * 2 + 1) (.int .i64 v) = flat encP (c.set i (a, v)) := by
  induction c generalizing i with
  | nil => simp at h
  | cons x c ih =>
    cases i with
    | zero =>
      simp at h
      subst h
      simp [flat, encP]
    | succ i =>
      have := ih (by simpa using h : c[i]? = some (a, u))
      simp only [flat, List.flatMap_cons, List.set_cons_succ] at this ⊢
      rw [show (i + 1) * 2 + 1 = (i * 2 + 1) + 2 by omega]
      simp only [encP, List.cons_append, List.nil_append, List.set_cons_succ]
      rw [← this]

/-- how many steps stand ahead of f -/
def ahead (l : List Stp) (f : Int) (k0 : Nat) : Nat := match l[k0]? with
  | some x => if x.1 = f then k0 else k0 + 1
  | none => k0
def addX (l : List Stp) (f t k : Int) (k0 j jt : Nat) (u : Int) : List Stp := l.take (ahead l f k0) ++ (cutTo l f k0 j).map (fun s => (s.1, s.2 + k)) ++ [(t, u)] ++ l.drop (jt + 1)

section
variable {l : List Stp} {f t k : Int} {k0 j jt : Nat} {u : Int}
theorem asc_get (h : Asc l) {i i' : Nat} {a u a' u' : Int} (h1 : l[i]? = some (a, u)) (h2 : l[i']? = some (a', u')) : (i < i' → a < a') ∧ (a ≤ a' → i ≤ i') := by
  obtain ⟨h3, h4⟩ := List.getElem?_eq_some_iff.1 h1
  obtain ⟨h5, h6⟩ := List.getElem?_eq_some_iff.1 h2
  have key := List.pairwise_iff_getElem.1 h
  refine ⟨fun hi => ?_, fun ha => ?_⟩
  · have := key i i' h3 h5 hi
    rw [h4, h6] at this
    exact this
  · rcases Nat.lt_or_ge i' i with h7 | h7
    · have := key i' i h5 h3 h7
      rw [h4, h6] at this
      simp only at this
      omega
    · exact h7
/-- the step that holds -/
theorem step_at (hl : Prof l) {x : Int} (hx : 0 ≤ x) : ∃ (i : Nat) (a v : Int), l[i]? = some (a, v) ∧ a ≤ x ∧ (∀ s ∈ l, s.1 ≤ x → s.1 ≤ a) ∧ freeT l x = v := by
  obtain ⟨u0, h0⟩ := hl.starts
  have hm : (0, u0) ∈ l := by
    cases l with
    | nil => simp at h0
    | cons y l => simp at h0; subst h0; simp
  obtain ⟨τ, h1, h2, h3⟩ := last_le (ts := l.map (·.1)) (x := x) ⟨0, List.mem_map.2 ⟨_, hm, rfl⟩, hx⟩
  obtain ⟨⟨a, v⟩, h4, rfl⟩ := List.mem_map.1 h1
  obtain ⟨i, hi⟩ := List.mem_iff_getElem?.1 h4
  have h5 : ∀ s ∈ l, s.1 ≤ x → s.1 ≤ a := fun s hs hx => h3 s.1 (List.mem_map.2 ⟨s, hs, rfl⟩) hx
  exact ⟨i, a, v, hi, h2, h5, freeT_last hl.asc h4 h2 h5⟩
theorem ahead_cases (hH : Holds l f k0) : ∃ a v, l[k0]? = some (a, v) ∧ a ≤ f ∧ ((a = f ∧ ahead l f k0 = k0) ∨ (a < f ∧ ahead l f k0 = k0 + 1)) := by
  obtain ⟨⟨a, v, h1, h2⟩, _⟩ := hH
  refine ⟨a, v, h1, h2, ?_⟩
  unfold ahead
  rw [h1]
  by_cases h : a = f
  · exact .inl ⟨h, by simp [h]⟩
  · exact .inr ⟨by omega, by simp [h]⟩
theorem ahead_mem (hl : Prof l) (hH : Holds l f k0) {s : Stp} : s ∈ l.take (ahead l f k0) → s ∈ l ∧ s.1 < f := by
  intro hs
  obtain ⟨a, v, h1, h2, h3⟩ := ahead_cases hH
  refine ⟨List.mem_of_mem_take hs, ?_⟩
  obtain ⟨i, hi⟩ := List.mem_iff_getElem?.1 hs
  have hlt : i < ahead l f k0 := by have := (List.getElem?_eq_some_iff.1 hi).1; simp at this; omega
  rw [List.getElem?_take_of_lt hlt] at hi
  obtain ⟨b, w⟩ := s
  have := asc_get hl.asc hi h1
  rcases h3 with ⟨h3, h4⟩ | ⟨h3, h4⟩
  · have := this.1 (by omega); simp only; omega
  · rcases Nat.lt_or_ge i k0 with h5 | h5
    · have := this.1 h5; simp only; omega
    · obtain rfl : i = k0 := by omega
      rw [hi] at h1; injection h1 with h1; injection h1 with h1 _; simp only; omega
theorem mem_ahead (hl : Prof l) (hH : Holds l f k0) {i : Nat} {a v : Int} (h : l[i]? = some (a, v)) (ha : a < f) : (a, v) ∈ l.take (ahead l f k0) := by
  obtain ⟨b, w, h1, h2, h3⟩ := ahead_cases hH
  have hi : i < ahead l f k0 := by
    have key := hH.2 i a v h
    rcases Nat.lt_or_ge k0 i with h5 | h5
    · have := key h5; omega
    · rcases h3 with ⟨h3, h4⟩ | ⟨h3, h4⟩
      · rcases Nat.lt_or_ge i k0 with h6 | h6
        · omega
        · obtain rfl : i = k0 := by omega
          rw [h] at h1; injection h1 with h1; injection h1 with h1 _; omega
      · omega
  exact List.mem_of_getElem? (i := i) (by rw [List.getElem?_take_of_lt hi]; exact h)
theorem mem_cutk {s : Stp} : s ∈ (cutTo l f k0 j).map (fun s => (s.1, s.2 + k)) ↔ ∃ (i : Nat) (a v : Int), l[i]? = some (a, v) ∧ k0 ≤ i ∧ i < k0 + j ∧ s = (max a f, v + k) := by
  rw [List.mem_map]
  constructor
  · rintro ⟨s', h, rfl⟩
    obtain ⟨i, a, v, h1, h2, h3, rfl⟩ := mem_cutTo.1 h
    exact ⟨i, a, v, h1, h2, h3, rfl⟩
  · rintro ⟨i, a, v, h1, h2, h3, rfl⟩
    exact ⟨(max a f, v), mem_cutTo.2 ⟨i, a, v, h1, h2, h3, rfl⟩, rfl⟩
theorem in_cut (hl : Prof l) (hH : Holds l f k0) (hC : CutAt l t k0 j) {i : Nat} {a v x : Int} (h : l[i]? = some (a, v)) (ha : a ≤ x) (hlast : ∀ s ∈ l, s.1 ≤ x → s.1 ≤ a) (hf : f ≤ x) (ht : x < t) : k0 ≤ i ∧ i < k0 + j := by
  obtain ⟨b, w, h1, h2, _⟩ := ahead_cases hH
  refine ⟨(asc_get hl.asc h1 h).2 (hlast (b, w) (List.mem_of_getElem? h1) (by simp only; omega)), ?_⟩
  rcases Nat.lt_or_ge i (k0 + j) with h5 | h5
  · exact h5
  · exfalso
    rcases hC.2.2 with h6 | ⟨a', u', h6, h7⟩
    · have := (List.getElem?_eq_some_iff.1 h).1; omega
    · have := (asc_get hl.asc h6 h).1
      rcases Nat.lt_or_ge (k0 + j) i with h8 | h8
      · have := this h8; omega
      · obtain rfl : i = k0 + j := by omega
        rw [h] at h6; injection h6 with h6; injection h6 with h6 _; omega
theorem room_cut (hl : Prof l) (hf : 0 ≤ f) (hH : Holds l f k0) (hC : CutAt l t k0 j) (hft : f < t) : Room l f t k ↔ ∀ s ∈ cutTo l f k0 j, 0 ≤ s.2 + k ∧ s.2 + k ≤ 10000 := by
  constructor
  · intro h s hs
    obtain ⟨i, a, v, h1, h2, h3, rfl⟩ := mem_cutTo.1 hs
    have h4 := hC.2.1 i a v h1 h2 h3
    have h5 : freeT l (max a f) = v := by
      rcases Nat.lt_or_ge k0 i with h6 | h6
      · have := hH.2 i a v h1 h6
        rw [Int.max_eq_left (by omega)]
        exact freeT_at hl.asc (List.mem_of_getElem? h1)
      · obtain rfl : i = k0 := by omega
        obtain ⟨⟨b, w, h7, h8⟩, h9⟩ := hH
        rw [h1] at h7; injection h7 with h7; injection h7 with h7 h10
        rw [Int.max_eq_right (by omega)]
        exact freeT_holds h1 (by omega) h9
    have := h (max a f) (by omega) (by omega)
    rw [h5] at this
    exact this
  · intro h x h1 h2
    obtain ⟨i, a, v, h3, h4, h5, h6⟩ := step_at hl (x := x) (by omega)
    have h7 := in_cut hl hH hC h3 h4 h5 h1 h2
    rw [h6]
    exact h (max a f, v) (mem_cutTo.2 ⟨i, a, v, h3, h7.1, h7.2, rfl⟩)
theorem mem_drop {i : Nat} {s : Stp} : s ∈ l.drop i ↔ ∃ q, i ≤ q ∧ l[q]? = some s := by
  rw [List.mem_iff_getElem?]
  constructor
  · rintro ⟨q, h⟩
    rw [List.getElem?_drop] at h
    exact ⟨i + q, by omega, h⟩
  · rintro ⟨q, h, h1⟩
    exact ⟨q - i, by rw [List.getElem?_drop, show i + (q - i) = q by omega]; exact h1⟩
theorem mem_addX {s : Stp} : s ∈ addX l f t k k0 j jt u ↔ s ∈ l.take (ahead l f k0) ∨ s ∈ (cutTo l f k0 j).map (fun s => (s.1, s.2 + k)) ∨ s = (t, u) ∨ s ∈ l.drop (jt + 1) := by
  unfold addX
  simp only [List.mem_append, List.mem_singleton, or_assoc]
theorem asc_take (h : Asc l) (i : Nat) : Asc (l.take i) := List.Pairwise.sublist (List.take_sublist _ _) h
theorem asc_drop (h : Asc l) (i : Nat) : Asc (l.drop i) := List.Pairwise.sublist (List.drop_sublist _ _) h
theorem cutk_asc (hl : Prof l) (hH : Holds l f k0) : Asc ((cutTo l f k0 j).map (fun s => (s.1, s.2 + k))) := by
  unfold cutTo Asc
  rw [List.map_map, List.pairwise_map]
  refine List.pairwise_iff_getElem.2 fun p q hp hq hpq => ?_
  simp only [List.getElem_take, List.getElem_drop, Function.comp_apply]
  simp only [List.length_take, List.length_drop] at hp hq
  have e1 : l[k0 + p]? = some ((l[k0 + p]'(by omega)).1, (l[k0 + p]'(by omega)).2) := List.getElem?_eq_getElem (by omega)
  have e2 : l[k0 + q]? = some ((l[k0 + q]'(by omega)).1, (l[k0 + q]'(by omega)).2) := List.getElem?_eq_getElem (by omega)
  have h1 := (asc_get hl.asc e1 e2).1 (by omega)
  have h2 := hH.2 (k0 + q) _ _ e2 (by omega)
  omega
theorem cutk_in (hC : CutAt l t k0 j) (hft : f < t) {s : Stp} (h : s ∈ (cutTo l f k0 j).map (fun s => (s.1, s.2 + k))) : f ≤ s.1 ∧ s.1 < t := by
  obtain ⟨i, a, v, h1, h2, h3, rfl⟩ := mem_cutk.1 h
  have := hC.2.1 i a v h1 h2 h3
  simp only
  omega
theorem drop_late (hT : Holds l t jt) {s : Stp} (h : s ∈ l.drop (jt + 1)) : s ∈ l ∧ t < s.1 := by
  obtain ⟨q, h1, h2⟩ := mem_drop.1 h
  exact ⟨List.mem_of_getElem? h2, hT.2 q s.1 s.2 h2 (by omega)⟩
theorem addX_asc (hl : Prof l) (hH : Holds l f k0) (hC : CutAt l t k0 j) (hT : Holds l t jt) (hft : f < t) : Asc (addX l f t k k0 j jt u) := by
  unfold addX Asc
  have hd := asc_drop hl.asc (jt + 1)
  refine List.pairwise_append.2 ⟨List.pairwise_append.2 ⟨List.pairwise_append.2 ⟨asc_take hl.asc _, cutk_asc hl hH, fun a ha b hb => ?_⟩, List.pairwise_singleton _ _, fun a ha b hb => ?_⟩, hd, fun a ha b hb => ?_⟩
  · have := (ahead_mem hl hH ha).2
    have := (cutk_in hC hft hb).1
    omega
  · rw [List.mem_singleton] at hb
    subst hb
    rcases List.mem_append.1 ha with ha | ha
    · have := (ahead_mem hl hH ha).2; simp only; omega
    · exact (cutk_in hC hft ha).2
  · have h1 := (drop_late hT hb).2
    rcases List.mem_append.1 ha with ha | ha
    · rcases List.mem_append.1 ha with ha | ha
      · have := (ahead_mem hl hH ha).2; omega
      · have := (cutk_in hC hft ha).2; omega
    · rw [List.mem_singleton] at ha
      subst ha
      exact h1
theorem addX_free (hl : Prof l) (hf : 0 ≤ f) (hH : Holds l f k0) (hC : CutAt l t k0 j) (hT : Holds l t jt) (hft : f < t) (hu : ∃ b, l[jt]? = some (b, u)) (x : Int) (hx : 0 ≤ x) : freeT (addX l f t k k0 j jt u) x = gAdd l f t k x := by
  have hA := addX_asc (k := k) (u := u) hl hH hC hT hft
  obtain ⟨i, a, v, h1, h2, h3, h4⟩ := step_at hl hx
  unfold gAdd
  rw [h4]
  rcases Int.lt_or_le x f with h5 | h5
  · rw [if_neg (by omega), Int.add_zero]
    refine freeT_last hA (τ := a) (mem_addX.2 (.inl (mem_ahead hl hH h1 (by omega)))) h2 fun s hs hsx => ?_
    rcases mem_addX.1 hs with hs | hs | hs | hs
    · exact h3 s (ahead_mem hl hH hs).1 hsx
    · have := (cutk_in hC hft hs).1; omega
    · subst hs; simp only at hsx; omega
    · have := (drop_late hT hs).2; omega
  · rcases Int.lt_or_le x t with h6 | h6
    · rw [if_pos ⟨h5, h6⟩]
      have h7 := in_cut hl hH hC h1 h2 h3 h5 h6
      refine freeT_last hA (τ := max a f) (mem_addX.2 (.inr (.inl (mem_cutk.2 ⟨i, a, v, h1, h7.1, h7.2, rfl⟩)))) (by omega) fun s hs hsx => ?_
      rcases mem_addX.1 hs with hs | hs | hs | hs
      · have := h3 s (ahead_mem hl hH hs).1 hsx; omega
      · obtain ⟨i', a', v', e1, e2, e3, rfl⟩ := mem_cutk.1 hs
        simp only at hsx ⊢
        have := h3 (a', v') (List.mem_of_getElem? e1) (by simp only; omega)
        simp only at this
        omega
      · subst hs; simp only at hsx; omega
      · have := (drop_late hT hs).2; omega
    · rw [if_neg (by omega), Int.add_zero]
      obtain ⟨b, hb⟩ := hu
      obtain ⟨⟨b', u', g1, g2⟩, g3⟩ := hT
      rw [hb] at g1; injection g1 with g1; injection g1 with g1 g4
      have h7 := (asc_get hl.asc hb h1).2 (h3 (b, u) (List.mem_of_getElem? hb) (by simp only; omega))
      have hT : Holds l t jt := ⟨⟨b, u, hb, by omega⟩, g3⟩
      rcases Nat.lt_or_ge jt i with h8 | h8
      · have h9 := g3 i a v h1 h8
        refine freeT_last hA (τ := a) (mem_addX.2 (.inr (.inr (.inr (mem_drop.2 ⟨i, by omega, h1⟩))))) h2 fun s hs hsx => ?_
        rcases mem_addX.1 hs with hs | hs | hs | hs
        · exact h3 s (ahead_mem hl hH hs).1 hsx
        · have := (cutk_in hC hft hs).2; omega
        · subst hs; simp only; omega
        · exact h3 s (drop_late hT hs).1 hsx
      · obtain rfl : i = jt := by omega
        rw [h1] at hb; injection hb with hb; injection hb with hb1 hb2
        subst hb1; subst hb2
        refine freeT_last hA (τ := t) (mem_addX.2 (.inr (.inr (.inl rfl)))) h6 fun s hs hsx => ?_
        rcases mem_addX.1 hs with hs | hs | hs | hs
        · have := (ahead_mem hl hH hs).2; omega
        · have := (cutk_in hC hft hs).2; omega
        · subst hs; exact Int.le_refl _
        · have := h3 s (drop_late hT hs).1 hsx; omega
theorem addX_starts (hl : Prof l) (hf : 0 ≤ f) (hH : Holds l f k0) (hC : CutAt l t k0 j) (hft : f < t) : Starts (addX l f t k k0 j jt u) := by
  obtain ⟨a, v, h1, h2, h3⟩ := ahead_cases hH
  have hj := cut_pos hH hC hft
  obtain ⟨u0, hu0⟩ := hl.starts
  cases l with
  | nil => simp at hu0
  | cons y l =>
    simp at hu0
    subst hu0
    rcases Nat.eq_zero_or_pos (ahead ((0, u0) :: l) f k0) with h4 | h4
    · have hk : k0 = 0 := by omega
      subst hk
      simp at h1
      obtain ⟨rfl, rfl⟩ := h1
      have hf0 : f = 0 := by omega
      obtain ⟨d, rfl⟩ : ∃ d, j = d + 1 := ⟨j - 1, by omega⟩
      refine ⟨u0 + k, ?_⟩
      unfold addX
      rw [h4]
      simp [cutTo, hf0]
    · obtain ⟨d, hd⟩ : ∃ d, ahead ((0, u0) :: l) f k0 = d + 1 := ⟨_, (Nat.sub_add_cancel h4).symm⟩
      refine ⟨u0, ?_⟩
      unfold addX
      rw [hd]
      simp
theorem addX_eq (hl : Prof l) (hf : 0 ≤ f) (hH : Holds l f k0) (hC : CutAt l t k0 j) (hT : Holds l t jt) (hft : f < t) (hu : ∃ b, l[jt]? = some (b, u)) : tid (addX l f t k k0 j jt u) = addL l f t k := by
  have hA := addX_asc (k := k) (u := u) hl hH hC hT hft
  have hs := tid_spec _ hA
  obtain ⟨z, hz⟩ := addX_starts (k := k) (jt := jt) (u := u) hl hf hH hC hft
  exact addL_eq hl hf (by omega) hs.1 ⟨z, by rw [hs.2.2.1]; exact hz⟩ fun x hx => by
    rw [freeT_G, hs.2.2.2]; exact addX_free hl hf hH hC hT hft hu x hx
theorem add_same (hl : Prof l) (hf : 0 ≤ f) : addL l f f k = l := by
  refine (addL_eq hl hf hf hl.norm hl.starts fun x hx => ?_).symm
  unfold gAdd
  rw [if_neg (by omega), Int.add_zero]
theorem room_same : Room l f f k := fun x h1 h2 => by omega
end
end Go.Proofs.Ytbcpjdjlgmhohaa

/-
  Plain law: adding, and taking back; two whiles that follow one another. Conditions: none.
-/
namespace Go.Proofs.Ytbcpjdjlgmhohaa
open Go.RowKit
set_option linter.unusedVariables false
set_option linter.unusedSimpArgs false

section
variable {l : List Stp} {a b c k : Int}
theorem addL_val (h : AddArg l a b k) {x : Int} (hx : 0 ≤ x) : freeT (addL l a b k) x = freeT l x + if a ≤ x ∧ x < b then k else 0 := addL_free h.1.starts hx 0
theorem AddArg.ge (h : AddArg l a b k) : 0 ≤ a ∧ 0 ≤ b ∧ a ≤ b := by
  have h1 := (isT_iff a).1 h.2.1
  have h2 := (isT_iff b).1 h.2.2.1
  exact ⟨h1.1, h2.1, h.2.2.2.1⟩
theorem add_eq_of (h : AddArg l a b k) {r : List Stp} (hr : Prof r) (hf : ∀ x, 0 ≤ x → freeT r x = freeT l x + if a ≤ x ∧ x < b then k else 0) : addL l a b k = r :=
  (addL_eq h.1 h.ge.1 h.ge.2.1 hr.norm hr.starts hf).symm
theorem back_arg (h : AddArg l a b k) (hr : Room l a b k) (hn : l.length ≤ 19000) : AddArg (addL l a b k) a b (-k) ∧ Room (addL l a b k) a b (-k) ∧ addL (addL l a b k) a b (-k) = l := by
  have hp := addL_prof h hr hn
  have ha : AddArg (addL l a b k) a b (-k) := ⟨hp, h.2.1, h.2.2.1, h.2.2.2.1, by have := h.2.2.2.2; omega, by have := h.2.2.2.2; omega⟩
  refine ⟨ha, fun x h1 h2 => ?_, add_eq_of ha h.1 fun x hx => ?_⟩
  · rw [addL_val h (by have := h.ge; omega), if_pos ⟨h1, h2⟩]
    have := h.1.free x
    omega
  · rw [addL_val h hx]
    split <;> omega
theorem join_arg (h : AddArg l a b k) (hr : Room l a b k) (hn : l.length ≤ 18000) (h' : AddArg (addL l a b k) b c k) (hr' : Room (addL l a b k) b c k) :
    (AddArg l a c k ∧ Room l a c k ∧ addL l a c k = addL (addL l a b k) b c k) ∧ (AddArg l b c k ∧ Room l b c k) ∧
    AddArg (addL l b c k) a b k ∧ Room (addL l b c k) a b k ∧ addL (addL l b c k) a b k = addL (addL l a b k) b c k := by
  have g := h.ge
  have g' := h'.ge
  have hp := addL_prof h' hr' (by have := addL_len (l := l) (f := a) (t := b) (k := k); omega)
  have ho : AddArg l a c k := ⟨h.1, h.2.1, h'.2.2.1, by omega, h.2.2.2.2⟩
  have hs : AddArg l b c k := ⟨h.1, h'.2.1, h'.2.2.1, by omega, h.2.2.2.2⟩
  have hso : Room l b c k := fun x h1 h2 => by
    have := hr' x h1 h2
    rwa [addL_val h (by omega), if_neg (by omega), Int.add_zero] at this
  have hsp := addL_prof hs hso (by omega)
  have hq : AddArg (addL l b c k) a b k := ⟨hsp, h.2.1, h.2.2.1, h.2.2.2⟩
  have hn : ∀ x, 0 ≤ x → freeT (addL (addL l a b k) b c k) x = freeT l x + if a ≤ x ∧ x < c then k else 0 := fun x hx => by
    rw [addL_val h' hx, addL_val h hx]
    split <;> split <;> split <;> omega
  refine ⟨⟨ho, fun x h1 h2 => ?_, add_eq_of ho hp hn⟩, ⟨hs, hso⟩, hq, fun x h1 h2 => ?_, add_eq_of hq hp fun x hx => ?_⟩
  · rcases Int.lt_or_le x b with h3 | h3
    · exact hr x h1 h3
    · exact hso x h3 h2
  · rw [addL_val hs (by omega), if_neg (by omega), Int.add_zero]
    exact hr x h1 h2
  · rw [hn x hx, addL_val hs hx]
    split <;> split <;> split <;> omega
theorem point_at (h : AddArg l a b k) (hr : Room l a b k) (hn : l.length ≤ 19000) {x : Int} (hx : isT x = true) : freeT (addL l a b k) x = freeT l x + if a ≤ x ∧ x < b then k else 0 := addL_val h ((isT_iff x).1 hx).1
end
end Go.Proofs.Ytbcpjdjlgmhohaa

