/-
  Plain law: so many more for a while: what it is, and when it may be. Conditions: none.
-/
import Derived.Test.YtggfepphjaohiaaPNorm
import Derived.Test.YtggfepphjaohiaaWCut
import Derived.Test.YtggfepphjaohiaaWLeast
namespace Go.Proofs.Ytggfepphjaohiaa
open Go.RowKit

def Starts (l : List Stp) : Prop := ∃ u, l.head? = some (0, u)
theorem Prof.starts {l : List Stp} (h : Prof l) : Starts l := by
  obtain ⟨h1, _, h2, _⟩ := h
  cases l with
  | nil => simp at h1
  | cons x l => obtain ⟨a, u⟩ := x; have := h2 a u rfl; subst this; exact ⟨u, rfl⟩
theorem Prof.norm {l : List Stp} (h : Prof l) : Norm l := by
  have key : ∀ (m : List Stp) (d : Nat), m = l.drop d → Norm m := fun m => by
    induction m with
    | nil => intro _ _; trivial
    | cons x m ih =>
      intro d hd
      cases m with
      | nil => trivial
      | cons y m =>
        have h0 : l[d]? = some x := by
          have : (l.drop d)[0]? = some x := by rw [← hd]; rfl
          rwa [List.getElem?_drop, Nat.add_zero] at this
        have h1 : l[d + 1]? = some y := by
          have : (l.drop d)[1]? = some y := by rw [← hd]; rfl
          rwa [List.getElem?_drop] at this
        have hm : y :: m = l.drop (d + 1) := by
          rw [← List.drop_drop, ← hd]; rfl
        have hk := h.2.2.2 (d + 1) (List.getElem?_eq_some_iff.1 h1).1 y.1 y.2 h1
        rcases hk.2.2.2 with h2 | h2
        · omega
        · have := h2 x.1 x.2 (by rw [Nat.add_sub_cancel]; exact h0)
          exact ⟨this.1, fun e => this.2 e.symm, ih (d + 1) hm⟩
  exact key l 0 (by simp)
theorem Prof.bound {l : List Stp} (h : Prof l) : ∀ s ∈ l, (0 ≤ s.1 ∧ s.1 ≤ 1099511627775) ∧ 0 ≤ s.2 ∧ s.2 ≤ 10000 := fun s hs => by
  obtain ⟨i, hi⟩ := List.mem_iff_getElem?.1 hs
  have := h.2.2.2 i (List.getElem?_eq_some_iff.1 hi).1 s.1 s.2 hi
  exact ⟨this.1, this.2.1, this.2.2.1⟩
theorem freeG_bound {l : List Stp} {n x : Int} (h : ∀ s ∈ l, 0 ≤ s.2 ∧ s.2 ≤ 10000) (hn : 0 ≤ n ∧ n ≤ 10000) : 0 ≤ freeG n l x ∧ freeG n l x ≤ 10000 := by
  induction l generalizing n with
  | nil => exact hn
  | cons s l ih =>
    rw [freeG_cons]
    refine ih (fun s hs => h s (List.mem_cons_of_mem _ hs)) ?_
    split
    · exact h s (by simp)
    · exact hn
theorem Prof.free {l : List Stp} (h : Prof l) (x : Int) : 0 ≤ freeT l x ∧ freeT l x ≤ 10000 := freeG_bound (fun s hs => (h.bound s hs).2) (by omega)
/-- what makes a profile -/
theorem prof_of {l : List Stp} (hn : Norm l) (hs : Starts l) (hb : ∀ s ∈ l, s.1 ≤ 1099511627775 ∧ 0 ≤ s.2 ∧ s.2 ≤ 10000) (hl : l.length ≤ 20000) : Prof l := by
  obtain ⟨u0, h0⟩ := hs
  have h00 : l[0]? = some (0, u0) := by rw [← List.head?_eq_getElem?]; exact h0
  have ha := hn.asc
  refine ⟨(List.getElem?_eq_some_iff.1 h00).1, hl, fun a f h => by rw [h00] at h; injection h with h; injection h with h _; exact h.symm, fun i hi a f h => ?_⟩
  obtain ⟨hi', he⟩ := List.getElem?_eq_some_iff.1 h
  have hb' := hb (a, f) (List.mem_of_getElem? h)
  have h0a : 0 ≤ a := by
    rcases Nat.eq_zero_or_pos i with h1 | h1
    · subst h1; rw [h00] at h; injection h with h; injection h with h _; omega
    · obtain ⟨h2, h3⟩ := List.getElem?_eq_some_iff.1 h00
      have := List.pairwise_iff_getElem.1 ha 0 i h2 hi' h1
      rw [h3, he] at this
      simp only at this; omega
  refine ⟨⟨h0a, hb'.1⟩, hb'.2.1, hb'.2.2, ?_⟩
  rcases Nat.eq_zero_or_pos i with h1 | h1
  · exact .inl h1
  · right
    intro a' f' h'
    obtain ⟨j, rfl⟩ : ∃ j, i = j + 1 := ⟨i - 1, by omega⟩
    rw [Nat.add_sub_cancel] at h'
    have key : ∀ (l : List Stp) (j : Nat) (x y : Stp), Norm l → l[j]? = some x → l[j + 1]? = some y → x.1 < y.1 ∧ x.2 ≠ y.2 := fun l j => by
      induction j generalizing l with
      | zero =>
        intro x y hn hx hy
        cases l with
        | nil => simp at hx
        | cons p l =>
          cases l with
          | nil => simp at hy
          | cons q l => simp at hx hy; subst hx; subst hy; exact ⟨hn.1, hn.2.1⟩
      | succ j ih =>
        intro x y hn hx hy
        cases l with
        | nil => simp at hx
        | cons p l => exact ih l x y hn.tail (by simpa using hx) (by simpa using hy)
    have := key l j _ _ hn h' h
    exact ⟨this.1, fun e => this.2 e.symm⟩

def gAdd (l : List Stp) (f t k x : Int) : Int := freeT l x + if f ≤ x ∧ x < t then k else 0
def addL (l : List Stp) (f t k : Int) : List Stp := tid (samp (gAdd l f t k) (timesR l [] f t))
def AddArg (l : List Stp) (f t k : Int) : Prop := Prof l ∧ isT f = true ∧ isT t = true ∧ f ≤ t ∧ -10000 ≤ k ∧ k ≤ 10000
def Room (l : List Stp) (f t k : Int) : Prop := ∀ x, f ≤ x → x < t → 0 ≤ freeT l x + k ∧ freeT l x + k ≤ 10000
open Classical in
noncomputable def addE (l : List Stp) (f t k : Int) : Int := if AddArg l f t k then (if Room l f t k then 0 else 70) else 2
open Classical in
noncomputable def addR (l : List Stp) (f t k : Int) : List Stp := if AddArg l f t k ∧ Room l f t k then addL l f t k else []
theorem add_bad {l : List Stp} {f t k : Int} (h : ¬ AddArg l f t k) : addE l f t k = 2 ∧ addR l f t k = [] := by
  unfold addE addR; rw [if_neg h, if_neg fun k => h k.1]; exact ⟨rfl, rfl⟩
theorem add_full {l : List Stp} {f t k : Int} (h : AddArg l f t k) (h2 : ¬ Room l f t k) : addE l f t k = 70 ∧ addR l f t k = [] := by
  unfold addE addR; rw [if_pos h, if_neg h2, if_neg fun k => h2 k.2]; exact ⟨rfl, rfl⟩
theorem add_ok {l : List Stp} {f t k : Int} (h : AddArg l f t k) (h2 : Room l f t k) : addE l f t k = 0 ∧ addR l f t k = addL l f t k := by
  unfold addE addR; rw [if_pos h, if_pos h2, if_pos ⟨h, h2⟩]; exact ⟨rfl, rfl⟩
theorem add_cases (l : List Stp) (f t k : Int) : (AddArg l f t k ∧ Room l f t k ∧ addE l f t k = 0 ∧ addR l f t k = addL l f t k) ∨ (AddArg l f t k ∧ ¬ Room l f t k ∧ addE l f t k = 70 ∧ addR l f t k = []) ∨ (¬ AddArg l f t k ∧ addE l f t k = 2 ∧ addR l f t k = []) := by
  by_cases h : AddArg l f t k
  · by_cases h2 : Room l f t k
    · exact .inl ⟨h, h2, add_ok h h2⟩
    · exact .inr (.inl ⟨h, h2, add_full h h2⟩)
  · exact .inr (.inr ⟨h, add_bad h⟩)

theorem gAdd_const {l : List Stp} {f t k x y : Int} (h : ∀ s ∈ timesR l [] f t, s ≤ x ↔ s ≤ y) : gAdd l f t k x = gAdd l f t k y := by
  obtain ⟨h1, _, h3, h4⟩ := timesR_le h
  unfold gAdd
  rw [h1]
  congr 1
  by_cases hx : f ≤ x ∧ x < t
  · rw [if_pos hx, if_pos ⟨h3.1 hx.1, by have := h4; omega⟩]
  · rw [if_neg hx, if_neg fun k => hx ⟨h3.2 k.1, by have := h4; omega⟩]
section
variable {l : List Stp} {f t k : Int}
theorem zero_times (hl : Starts l) : (0 : Int) ∈ timesR l [] f t := by
  obtain ⟨u, hu⟩ := hl
  refine (timesR_mem _ _ _ _ _).2 (.inr (.inr (.inl ⟨u, ?_⟩)))
  cases l with
  | nil => simp at hu
  | cons x l => simp at hu; subst hu; simp
theorem times_nonneg (hl : Prof l) (hf : 0 ≤ f) (ht : 0 ≤ t) : ∀ x ∈ timesR l [] f t, 0 ≤ x := fun x hx => by
  rcases (timesR_mem _ _ _ _ _).1 hx with h | h | ⟨u, h⟩ | ⟨u, h⟩
  · omega
  · omega
  · exact (hl.bound _ h).1.1
  · simp at h
/-- a rising list in which 0 lies, and nothing less, begins with it -/
theorem head_zero {ts : List Int} (ha : ts.Pairwise (· < ·)) (h0 : (0 : Int) ∈ ts) (hn : ∀ x ∈ ts, 0 ≤ x) : ts.head? = some 0 := by
  cases ts with
  | nil => simp at h0
  | cons x ts =>
    rcases List.mem_cons.1 h0 with h | h
    · rw [← h]; rfl
    · have h1 := (List.pairwise_cons.1 ha).1 0 h
      have h2 := hn x (by simp)
      omega
theorem samp_head {g : Int → Int} {ts : List Int} (h : ts.head? = some 0) : (samp g ts).head? = some (0, g 0) := by
  cases ts with
  | nil => simp at h
  | cons x ts => simp at h; subst h; rfl
theorem addL_free (hl : Starts l) {x : Int} (hx : 0 ≤ x) (n : Int) : freeG n (addL l f t k) x = gAdd l f t k x := by
  have ha := timesR_asc l [] f t
  have := (tid_spec _ (samp_asc (g := gAdd l f t k) ha)).2.2.2 n x
  unfold addL
  rw [this]
  exact samp_free ha (fun x y h => gAdd_const h) ⟨0, zero_times hl, hx⟩ n
theorem addL_norm : Norm (addL l f t k) := (tid_spec _ (samp_asc (timesR_asc l [] f t))).1
theorem addL_starts (hl : Prof l) (hf : 0 ≤ f) (ht : 0 ≤ t) : Starts (addL l f t k) := by
  refine ⟨gAdd l f t k 0, ?_⟩
  unfold addL
  rw [(tid_spec _ (samp_asc (timesR_asc l [] f t))).2.2.1]
  exact samp_head (head_zero (timesR_asc l [] f t) (zero_times hl.starts) (times_nonneg hl hf ht))
theorem addL_len : (addL l f t k).length ≤ l.length + 2 := by
  have := tid_len (samp (gAdd l f t k) (timesR l [] f t))
  have := timesR_len l [] f t
  rw [samp_len] at *
  unfold addL
  simp at *
  omega
/-- told by what is free -/
theorem norm_eq {r s : List Stp} (hr : Norm r) (hs : Norm s) (h0 : Starts r) (h1 : Starts s) (h : ∀ x, 0 ≤ x → freeT r x = freeT s x) : r = s := by
  obtain ⟨u, hu⟩ := h0
  obtain ⟨v, hv⟩ := h1
  exact norm_ext r s hr hs _ _ hu hv rfl 0 fun t ht => h t ht
theorem addL_eq {r : List Stp} (hl : Prof l) (hf : 0 ≤ f) (ht : 0 ≤ t) (hr : Norm r) (h0 : Starts r) (h : ∀ x, 0 ≤ x → freeT r x = gAdd l f t k x) : r = addL l f t k :=
  norm_eq hr addL_norm h0 (addL_starts hl hf ht) fun x hx => by rw [h x hx]; exact (addL_free hl.starts hx 0).symm
/-- room, by the times -/
theorem room_times (hl : Prof l) : Room l f t k ↔ ∀ x ∈ timesR l [] f t, 0 ≤ gAdd l f t k x ∧ gAdd l f t k x ≤ 10000 := by
  constructor
  · intro h x _
    unfold gAdd
    split
    · rename_i hx; exact h x hx.1 hx.2
    · have := hl.free x; omega
  · intro h x h1 h2
    obtain ⟨τ, a1, a2, a3⟩ := last_le (x := x) ⟨f, (timesR_mem l [] f t f).2 (.inl rfl), h1⟩
    have := h τ a1
    rw [← gAdd_const (x := x) (y := τ) fun s hs => ⟨fun h => a3 s hs h, fun h => by omega⟩] at this
    unfold gAdd at this
    rw [if_pos ⟨h1, h2⟩] at this
    exact this
theorem addL_prof (h : AddArg l f t k) (hr : Room l f t k) (hn : l.length ≤ 19000) : Prof (addL l f t k) := by
  obtain ⟨hl, hf, ht, hft, _, _⟩ := h
  rw [isT_iff] at hf ht
  refine prof_of addL_norm (addL_starts hl hf.1 ht.1) (fun s hs => ?_) (by have := addL_len (l := l) (f := f) (t := t) (k := k); omega)
  have := (tid_spec _ (samp_asc (timesR_asc l [] f t))).2.1 s hs
  obtain ⟨x, hx, rfl⟩ := List.mem_map.1 this
  refine ⟨?_, (room_times hl).1 hr x hx⟩
  rcases (timesR_mem _ _ _ _ _).1 hx with h | h | ⟨u, h⟩ | ⟨u, h⟩
  · simp only; omega
  · simp only; omega
  · exact (hl.bound _ h).1.2
  · simp at h
end
end Go.Proofs.Ytggfepphjaohiaa
