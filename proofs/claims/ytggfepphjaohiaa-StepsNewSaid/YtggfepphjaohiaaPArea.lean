/-
  Plain law: what is free for a while, all together. Conditions: none.
-/
import Derived.Test.YtggfepphjaohiaaPAdd2
namespace Go.Proofs.Ytggfepphjaohiaa
open Go.RowKit
set_option linter.unusedVariables false
set_option linter.unusedSimpArgs false

/-- the sum over n times from a on -/
def areaN (g : Int → Int) (a : Int) : Nat → Int
  | 0 => 0
  | n + 1 => areaN g a n + g (a + n)
theorem areaN_add (g : Int → Int) (a : Int) (n m : Nat) : areaN g a (n + m) = areaN g a n + areaN g (a + n) m := by
  induction m with
  | zero => simp [areaN]
  | succ m ih =>
    rw [← Nat.add_assoc, areaN, ih, areaN]
    have : a + ((n + m : Nat) : Int) = a + (n : Int) + (m : Int) := by omega
    rw [this]
    omega
theorem areaN_const {g : Int → Int} {a u : Int} {n : Nat} (h : ∀ x, a ≤ x → x < a + n → g x = u) : areaN g a n = u * n := by
  induction n with
  | zero => simp [areaN]
  | succ n ih =>
    rw [areaN, ih fun x h1 h2 => h x h1 (by omega), h (a + n) (by omega) (by omega)]
    rw [show ((n + 1 : Nat) : Int) = (n : Int) + 1 by omega, Int.mul_add, Int.mul_one]
theorem areaN_bound {g : Int → Int} {a lo hi : Int} {n : Nat} (h : ∀ x, a ≤ x → x < a + n → lo ≤ g x ∧ g x ≤ hi) : lo * n ≤ areaN g a n ∧ areaN g a n ≤ hi * n := by
  induction n with
  | zero => simp [areaN]
  | succ n ih =>
    have h1 := ih fun x h1 h2 => h x h1 (by omega)
    have h2 := h (a + n) (by omega) (by omega)
    rw [areaN, show ((n + 1 : Nat) : Int) = (n : Int) + 1 by omega, Int.mul_add, Int.mul_one, Int.mul_add, Int.mul_one]
    omega
/-- from a time to another one -/
def areaF (l : List Stp) (f t : Int) : Int := areaN (freeT l) f (t - f).toNat
theorem areaF_self (l : List Stp) (f : Int) : areaF l f f = 0 := by unfold areaF; rw [Int.sub_self]; rfl
theorem areaF_add {l : List Stp} {a b c : Int} (h1 : a ≤ b) (h2 : b ≤ c) : areaF l a c = areaF l a b + areaF l b c := by
  unfold areaF
  rw [show (c - a).toNat = (b - a).toNat + (c - b).toNat by omega, areaN_add, show a + ((b - a).toNat : Int) = b by omega]
theorem areaF_const {l : List Stp} {a b u : Int} (h1 : a ≤ b) (h : ∀ x, a ≤ x → x < b → freeT l x = u) : areaF l a b = u * (b - a) := by
  unfold areaF
  rw [areaN_const (u := u) fun x h3 h4 => h x h3 (by omega), show ((b - a).toNat : Int) = b - a by omega]
theorem areaF_bound {l : List Stp} {a b lo hi : Int} (h1 : a ≤ b) (h : ∀ x, a ≤ x → x < b → lo ≤ freeT l x ∧ freeT l x ≤ hi) : lo * (b - a) ≤ areaF l a b ∧ areaF l a b ≤ hi * (b - a) := by
  unfold areaF
  have := areaN_bound (g := freeT l) (a := a) (n := (b - a).toNat) (lo := lo) (hi := hi) fun x h3 h4 => h x h3 (by omega)
  rwa [show ((b - a).toNat : Int) = b - a by omega] at this
def AreaArg (l : List Stp) (f t : Int) : Prop := Prof l ∧ isT f = true ∧ isT t = true ∧ f ≤ t
open Classical in
noncomputable def areaV (l : List Stp) (f t : Int) : Int := if AreaArg l f t then areaF l f t else 0
open Classical in
noncomputable def areaE (l : List Stp) (f t : Int) : Int := if AreaArg l f t then 0 else 2
theorem area_ok {l : List Stp} {f t : Int} (h : AreaArg l f t) : areaV l f t = areaF l f t ∧ areaE l f t = 0 := by unfold areaV areaE; rw [if_pos h, if_pos h]; exact ⟨rfl, rfl⟩
theorem area_bad {l : List Stp} {f t : Int} (h : ¬ AreaArg l f t) : areaV l f t = 0 ∧ areaE l f t = 2 := by unfold areaV areaE; rw [if_neg h, if_neg h]; exact ⟨rfl, rfl⟩
theorem area_small {l : List Stp} (hl : Prof l) {a b : Int} (h0 : 0 ≤ a) (h1 : a ≤ b) (h2 : b ≤ 1099511627775) : 0 ≤ areaF l a b ∧ areaF l a b ≤ 10000 * 1099511627775 := by
  have := areaF_bound h1 (lo := 0) (hi := 10000) fun x _ _ => hl.free x
  omega

section
variable {l : List Stp} {f t : Int}
/-- the document's: so far as the q-th time, but no further than t -/
def clip (f t x : Int) : Int := min (max x f) t
theorem area_step (hft : f ≤ t) {ts : List Int} (hts : ts = timesR l [] f t) {q : Nat} {x y : Int} (hx : ts[q]? = some x) (hy : ts[q + 1]? = some y) :
    (f ≤ x ∧ y ≤ t → areaF l f (clip f t y) = areaF l f (clip f t x) + freeT l x * (y - x)) ∧ (¬ (f ≤ x ∧ y ≤ t) → clip f t y = clip f t x) ∧ x < y := by
  have ha := timesR_asc l [] f t
  rw [← hts] at ha
  obtain ⟨hx1, hx2⟩ := List.getElem?_eq_some_iff.1 hx
  obtain ⟨hy1, hy2⟩ := List.getElem?_eq_some_iff.1 hy
  have hxy : x < y := by
    have := List.pairwise_iff_getElem.1 ha q (q + 1) hx1 hy1 (by omega)
    rwa [hx2, hy2] at this
  have key : ∀ z ∈ ts, z ≤ x ∨ y ≤ z := fun z hz => by
    obtain ⟨i, hi⟩ := List.mem_iff_getElem?.1 hz
    obtain ⟨hi1, hi2⟩ := List.getElem?_eq_some_iff.1 hi
    rcases Nat.lt_trichotomy i q with h | h | h
    · have := List.pairwise_iff_getElem.1 ha i q hi1 hx1 h; rw [hi2, hx2] at this; exact .inl (by omega)
    · subst h; rw [hx] at hi; injection hi with hi; exact .inl (by omega)
    · rcases Nat.lt_or_ge (q + 1) i with h' | h'
      · have := List.pairwise_iff_getElem.1 ha (q + 1) i hy1 hi1 h'; rw [hi2, hy2] at this; exact .inr (by omega)
      · obtain rfl : i = q + 1 := by omega
        rw [hy] at hi; injection hi with hi; exact .inr (by omega)
  have kf := key f (by rw [hts]; exact (timesR_mem _ _ _ _ _).2 (.inl rfl))
  have kt := key t (by rw [hts]; exact (timesR_mem _ _ _ _ _).2 (.inr (.inl rfl)))
  refine ⟨fun ⟨h1, h2⟩ => ?_, fun h => ?_, hxy⟩
  · rw [show clip f t y = y by unfold clip; omega, show clip f t x = x by unfold clip; omega, areaF_add h1 (Int.le_of_lt hxy)]
    rw [areaF_const (u := freeT l x) (Int.le_of_lt hxy) fun z h3 h4 => ?_]
    refine freeT_congr _ _ _ fun s hs => ?_
    have := key s.1 (by rw [hts]; exact (timesR_mem _ _ _ _ _).2 (.inr (.inr (.inl ⟨s.2, hs⟩))))
    omega
  · unfold clip; omega
theorem clip_last (hft : f ≤ t) {ts : List Int} (hts : ts = timesR l [] f t) {q : Nat} {x : Int} (hx : ts[q]? = some x) (hq : q + 1 = ts.length) : clip f t x = t := by
  have ha := timesR_asc l [] f t
  rw [← hts] at ha
  have ht : t ∈ ts := by rw [hts]; exact (timesR_mem _ _ _ _ _).2 (.inr (.inl rfl))
  obtain ⟨i, hi⟩ := List.mem_iff_getElem?.1 ht
  obtain ⟨hi1, hi2⟩ := List.getElem?_eq_some_iff.1 hi
  obtain ⟨hx1, hx2⟩ := List.getElem?_eq_some_iff.1 hx
  have : t ≤ x := by
    rcases Nat.lt_or_ge i q with h | h
    · have := List.pairwise_iff_getElem.1 ha i q hi1 hx1 h; rw [hi2, hx2] at this; omega
    · obtain rfl : i = q := by omega
      rw [hx] at hi; injection hi with hi; omega
  unfold clip; omega
theorem clip_first (hl : Prof l) (hf : 0 ≤ f) (hft : f ≤ t) {ts : List Int} (hts : ts = timesR l [] f t) {x : Int} (hx : ts[0]? = some x) : clip f t x = f := by
  have h0 := head_zero (timesR_asc l [] f t) (zero_times hl.starts) (times_nonneg hl hf (by omega))
  rw [← hts, List.head?_eq_getElem?, hx] at h0
  injection h0 with h0
  unfold clip; omega
/-- the program's: at the q-th step of the cut -/
def edge (c : List Stp) (t : Int) (q : Nat) : Int := match c[q]? with
  | some x => x.1
  | none => t
theorem edge_some {c : List Stp} {t : Int} {q : Nat} {a u : Int} (h : c[q]? = some (a, u)) : edge c t q = a := by unfold edge; rw [h]
theorem edge_none {c : List Stp} {t : Int} {q : Nat} (h : c[q]? = none) : edge c t q = t := by unfold edge; rw [h]
theorem cut_get {k0 j q : Nat} (h : q < j) (hk : k0 + j ≤ l.length) : ∃ a u, l[k0 + q]? = some (a, u) ∧ (cutTo l f k0 j)[q]? = some (max a f, u) := by
  refine ⟨(l[k0 + q]'(by omega)).1, (l[k0 + q]'(by omega)).2, List.getElem?_eq_getElem (by omega), ?_⟩
  unfold cutTo
  rw [List.getElem?_map, List.getElem?_take_of_lt h, List.getElem?_drop, List.getElem?_eq_getElem (by omega)]
  rfl
theorem edge_step (hl : Prof l) (hf : 0 ≤ f) {k0 j q : Nat} (hH : Holds l f k0) (hC : CutAt l t k0 j) (hft : f < t) (hq : q < j) {a u : Int} (hx : (cutTo l f k0 j)[q]? = some (a, u)) :
    areaF l f (edge (cutTo l f k0 j) t (q + 1)) = areaF l f a + u * (edge (cutTo l f k0 j) t (q + 1) - a) ∧ f ≤ a ∧ a < edge (cutTo l f k0 j) t (q + 1) ∧ edge (cutTo l f k0 j) t (q + 1) ≤ t := by
  obtain ⟨b, v, h1, h2⟩ := cut_get (f := f) hq hC.1
  rw [hx] at h2; injection h2 with h2; injection h2 with h2 h3
  subst h2; subst h3
  have hbt := hC.2.1 _ b u h1 (by omega) (by omega)
  -- the next edge
  have key : ∃ e, edge (cutTo l f k0 j) t (q + 1) = e ∧ max b f < e ∧ e ≤ t ∧ ∀ (i : Nat) (b' v' : Int), l[i]? = some (b', v') → k0 + q < i → e ≤ b' := by
    rcases Nat.lt_or_ge (q + 1) j with h | h
    · obtain ⟨b', v', h4, h5⟩ := cut_get (f := f) h hC.1
      have h6 := (asc_get hl.asc h1 h4).1 (by omega)
      have h7 := hH.2 _ b' v' h4 (by omega)
      have h8 := hC.2.1 _ b' v' h4 (by omega) (by omega)
      refine ⟨_, edge_some h5, by omega, by omega, fun i b'' v'' hi hlt => ?_⟩
      rcases Nat.lt_or_ge (k0 + (q + 1)) i with h9 | h9
      · have := (asc_get hl.asc h4 hi).1 h9; omega
      · obtain rfl : i = k0 + (q + 1) := by omega
        rw [h4] at hi; injection hi with hi; injection hi with hi _; omega
    · obtain rfl : j = q + 1 := by omega
      refine ⟨t, edge_none (List.getElem?_eq_none (by rw [cutTo_len hC.1]; exact Nat.le_refl _)), by omega, by omega, fun i b'' v'' hi hlt => ?_⟩
      rcases hC.2.2 with h4 | ⟨a', u', h4, h5⟩
      · have := (List.getElem?_eq_some_iff.1 hi).1; omega
      · rcases Nat.lt_or_ge (k0 + (q + 1)) i with h9 | h9
        · have := (asc_get hl.asc h4 hi).1 h9; omega
        · obtain rfl : i = k0 + (q + 1) := by omega
          rw [h4] at hi; injection hi with hi; injection hi with hi _; omega
  obtain ⟨e, he, h4, h5, h6⟩ := key
  rw [he]
  refine ⟨?_, by omega, h4, h5⟩
  rw [areaF_add (show f ≤ max b f by omega) (Int.le_of_lt h4), areaF_const (u := u) (Int.le_of_lt h4) fun x h7 h8 => ?_]
  refine freeT_last hl.asc (τ := b) (List.mem_of_getElem? h1) (by omega) fun s hs hsx => ?_
  obtain ⟨i, hi⟩ := List.mem_iff_getElem?.1 hs
  rcases Nat.lt_or_ge (k0 + q) i with h9 | h9
  · have := h6 i s.1 s.2 hi h9; omega
  · have := (asc_get hl.asc hi h1)
    rcases Nat.lt_or_ge i (k0 + q) with h10 | h10
    · have := this.1 h10; omega
    · obtain rfl : i = k0 + q := by omega
      rw [h1] at hi; injection hi with hi; rw [← hi]; exact Int.le_refl _
theorem edge_zero {k0 j : Nat} (hH : Holds l f k0) (hC : CutAt l t k0 j) (hft : f < t) : edge (cutTo l f k0 j) t 0 = f := by
  have hj := cut_pos hH hC hft
  obtain ⟨a, u, h1, h2⟩ := cut_get (f := f) (q := 0) hj hC.1
  rw [edge_some h2]
  obtain ⟨⟨b, v, h3, h4⟩, _⟩ := hH
  rw [Nat.add_zero, h3] at h1; injection h1 with h1; injection h1 with h1 _
  omega
end
end Go.Proofs.Ytggfepphjaohiaa
