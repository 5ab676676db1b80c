/-
  Plain: the document's way to all times at which a request fits comes to the same windows. Conditions: none.
-/
import Derived.Test.YtnilplnfomgleaaLEnds
namespace Go.Proofs.Ytnilplnfomgleaa

/-- windows that rise, with a gap between -/
def Rise (L : List Stp) : Prop := L.Pairwise (fun p q => p.2 + 1 < q.1) ∧ ∀ p ∈ L, p.1 ≤ p.2
theorem Rise.tail {p : Stp} {L : List Stp} (h : Rise (p :: L)) : Rise L := ⟨(List.pairwise_cons.1 h.1).2, fun q hq => h.2 q (by simp [hq])⟩
theorem Rise.ahead {p : Stp} {L : List Stp} (h : Rise (p :: L)) : ∀ q ∈ L, p.2 + 1 < q.1 := (List.pairwise_cons.1 h.1).1
def Has (L : List Stp) (t : Int) : Prop := ∃ p ∈ L, p.1 ≤ t ∧ t ≤ p.2
theorem rise_uniq : ∀ {L M : List Stp}, Rise L → Rise M → (∀ t, Has L t ↔ Has M t) → L = M
  | [], [], _, _, _ => rfl
  | [], q :: M, _, hM, h => by
    obtain ⟨p, hp, _⟩ := (h q.1).2 ⟨q, by simp, Int.le_refl _, hM.2 q (by simp)⟩
    simp at hp
  | p :: L, [], hL, _, h => by
    obtain ⟨q, hq, _⟩ := (h p.1).1 ⟨p, by simp, Int.le_refl _, hL.2 p (by simp)⟩
    simp at hq
  | p :: L, q :: M, hL, hM, h => by
    have hp := hL.2 p (by simp)
    have hq := hM.2 q (by simp)
    have key : ∀ {x : Stp} {X : List Stp}, Rise (x :: X) → ∀ t, Has (x :: X) t → x.1 ≤ t ∧ (t ≤ x.2 ∨ x.2 + 1 < t) := fun {x X} hX t ⟨y, hy, y1, y2⟩ => by
      have hx := hX.2 x (by simp)
      rcases List.mem_cons.1 hy with rfl | hy
      · exact ⟨y1, .inl y2⟩
      · have := hX.ahead y hy
        exact ⟨by omega, .inr (by omega)⟩
    have e1 : p.1 = q.1 := by
      have h1 := (key hM _ ((h p.1).1 ⟨p, by simp, Int.le_refl _, hp⟩)).1
      have h2 := (key hL _ ((h q.1).2 ⟨q, by simp, Int.le_refl _, hq⟩)).1
      omega
    have e2 : p.2 = q.2 := by
      rcases Int.lt_trichotomy p.2 q.2 with hlt | he | hgt
      · have := (key hL _ ((h (p.2 + 1)).2 ⟨q, by simp, by omega, by omega⟩)).2
        omega
      · exact he
      · have := (key hM _ ((h (q.2 + 1)).1 ⟨p, by simp, by omega, by omega⟩)).2
        omega
    obtain rfl : p = q := Prod.ext e1 e2
    congr 1
    refine rise_uniq hL.tail hM.tail (fun t => ?_)
    have fw : ∀ {X Y : List Stp}, Rise (p :: X) → (∀ t, Has (p :: X) t → Has (p :: Y) t) → Has X t → Has Y t := fun {X Y} hX hXY ⟨y, hy, y1, y2⟩ => by
      obtain ⟨z, hz, z1, z2⟩ := hXY t ⟨y, by simp [hy], y1, y2⟩
      rcases List.mem_cons.1 hz with rfl | hz
      · have := hX.ahead y hy; omega
      · exact ⟨z, hz, z1, z2⟩
    exact ⟨fw hL (fun t => (h t).1), fw hM (fun t => (h t).2)⟩

section
variable {l : List Stp} {f b n g : Int}
theorem all_Rise (h : Req l f b n g) : Rise (allF l f b n g) := ⟨all_rise h, fun p hp => all_le p hp⟩
theorem has_fits (h : Req l f b n g) (t : Int) : Has (allF l f b n g) t ↔ FitsP l f b n g t := (fits_all h t).symm
theorem fits_later {F : Int} (hF : f ≤ F) (t : Int) : FitsP l F b n g t ↔ F ≤ t ∧ FitsP l f b n g t := by
  unfold FitsP
  constructor
  · rintro ⟨h1, h2, h3⟩; exact ⟨h1, by omega, h2, h3⟩
  · rintro ⟨h1, _, h2, h3⟩; exact ⟨h1, h2, h3⟩
/-- behind the first window the others are all that there is -/
theorem all_next {p : Stp} {r : List Stp} (h : Req l f b n g) (ha : allF l f b n g = p :: r) :
    (p.2 + 1 ≤ b → Req l (p.2 + 1) b n g ∧ allF l (p.2 + 1) b n g = r) ∧ (b < p.2 + 1 → r = []) := by
  have hR := all_Rise h
  have hbd := h.bd
  have hp : p ∈ allF l f b n g := by rw [ha]; simp
  have hpf := all_from p hp
  have hple := all_le p hp
  rw [ha] at hR
  refine ⟨fun hb => ?_, fun hb => ?_⟩
  · have hq : Req l (p.2 + 1) b n g := ⟨h.1, isT_mk (by omega), h.2.2⟩
    refine ⟨hq, rise_uniq (all_Rise hq) hR.tail (fun t => ?_)⟩
    rw [has_fits hq, fits_later (f := f) (by omega), ← has_fits h, ha]
    constructor
    · rintro ⟨h1, q, hq, q1, q2⟩
      rcases List.mem_cons.1 hq with rfl | hq
      · omega
      · exact ⟨q, hq, q1, q2⟩
    · rintro ⟨q, hq, q1, q2⟩
      exact ⟨by have := hR.ahead q hq; omega, q, by simp [hq], q1, q2⟩
  · rcases r with _ | ⟨q, r⟩
    · rfl
    · exfalso
      have h1 := hR.ahead q (by simp)
      have hq : q ∈ allF l f b n g := by rw [ha]; simp
      have h2 := all_from q hq
      have h3 := all_le q hq
      omega
/-- right behind a window it does not fit, and that time is looked at -/
theorem all_edge (h : Req l f b n g) (p : Stp) (hp : p ∈ allF l f b n g) : ¬ FitsP l f b n g (p.2 + 1) ∧ (p.2 + g = b ∨ p.2 + 1 ∈ timesL l f b g) := by
  have hR := all_Rise h
  have hbd := h.bd
  refine ⟨fun hf => ?_, ?_⟩
  · obtain ⟨q, hq, q1, q2⟩ := (fits_all h _).1 hf
    have hpq : p.2 < q.2 := by omega
    have hlt : p.2 + 1 < q.1 := by
      obtain ⟨i, hi⟩ := List.mem_iff_getElem?.1 hp
      obtain ⟨j, hj⟩ := List.mem_iff_getElem?.1 hq
      obtain ⟨h3, h4⟩ := List.getElem?_eq_some_iff.1 hi
      obtain ⟨h5, h6⟩ := List.getElem?_eq_some_iff.1 hj
      rcases Nat.lt_trichotomy i j with h | rfl | h
      · have := (List.pairwise_iff_getElem.1 hR.1) i j h3 h5 h
        rw [h4, h6] at this; exact this
      · rw [h4] at h6; subst h6; omega
      · have := (List.pairwise_iff_getElem.1 hR.1) j i h5 h3 h
        rw [h4, h6] at this
        have := all_le p hp
        omega
    omega
  · unfold allF at hp
    split at hp
    · rename_i hg
      split at hp
      · simp at hp
      · simp at hp; subst hp; left; simp only; omega
    · obtain ⟨q, hq, hle, rfl⟩ := mem_cutL.1 hp
      obtain ⟨_, h2⟩ := holes_from h.2.2.2.1 h.1.asc q hq
      simp only
      rcases Int.le_total q.2 b with hqb | hqb
      · rcases h2 with ⟨s, hs, e⟩ | h2
        · right
          rw [Int.min_eq_left hqb, ← e]
          unfold timesL
          exact List.mem_append.2 (.inr (List.mem_flatMap.2 ⟨s, hs, by simp⟩))
        · omega
      · left; rw [Int.min_eq_right hqb]; omega
end

/-- is there a time between at which it does not fit? -/
def gapB (l : List Stp) (f b n g a t : Int) (S : List Int) : Bool := S.any fun s => decide (a < s) && decide (s < t) && !fitsB l f b n g s
theorem gapB_snoc (l : List Stp) (f b n g a t : Int) (S : List Int) (s : Int) : gapB l f b n g a t (S ++ [s]) = (gapB l f b n g a t S || (decide (a < s) && decide (s < t) && !fitsB l f b n g s)) := by simp [gapB]
def midTo (l : List Stp) (f b n g a : Int) (T S : List Int) : Int := S.foldl (fun B t => if B < t ∧ fitsB l f b n g t = true ∧ gapB l f b n g a t T = false then t else B) a
theorem midTo_snoc (l : List Stp) (f b n g a : Int) (T S : List Int) (t : Int) : midTo l f b n g a T (S ++ [t]) =
    if midTo l f b n g a T S < t ∧ fitsB l f b n g t = true ∧ gapB l f b n g a t T = false then t else midTo l f b n g a T S := by
  simp only [midTo, List.foldl_append, List.foldl_cons, List.foldl_nil]
  exact ite_congr rfl (fun _ => rfl) (fun _ => rfl)
theorem mid_is {l : List Stp} {f b n g : Int} (h : Req l f b n g) (p : Stp) (hp : p ∈ allF l f b n g) : midTo l f b n g p.1 (timesL l f b g) (timesL l f b g) = p.2 := by
  have hple := all_le p hp
  obtain ⟨hedge, hcand⟩ := all_edge h p hp
  have hin : p.2 ∈ timesL l f b g := (all_times h p hp).2
  have hup : ∀ t, fitsB l f b n g t = true → gapB l f b n g p.1 t (timesL l f b g) = false → t ≤ p.2 := fun t ht hgap => by
    rcases Int.lt_or_le p.2 t with hlt | hle
    · exfalso
      have hf := (fitsB_iff ..).1 ht
      have hne : t ≠ p.2 + 1 := fun e => by rw [e] at hf; exact hedge hf
      rcases hcand with hc | hc
      · have := hf.2.1; omega
      · have : gapB l f b n g p.1 t (timesL l f b g) = true := by
          unfold gapB
          rw [List.any_eq_true]
          refine ⟨p.2 + 1, hc, ?_⟩
          simp only [Bool.and_eq_true, decide_eq_true_eq, Bool.not_eq_true', fitsB_f]
          exact ⟨⟨by omega, by omega⟩, hedge⟩
        rw [this] at hgap
        cases hgap
    · exact hle
  have hok : fitsB l f b n g p.2 = true ∧ gapB l f b n g p.1 p.2 (timesL l f b g) = false := by
    refine ⟨(fitsB_iff ..).2 ((fits_all h _).2 ⟨p, hp, hple, Int.le_refl _⟩), ?_⟩
    unfold gapB
    rw [List.any_eq_false]
    intro s _ hs
    simp only [Bool.and_eq_true, decide_eq_true_eq, Bool.not_eq_true', fitsB_f] at hs
    exact hs.2 ((fits_all h s).2 ⟨p, hp, by omega, by omega⟩)
  have H : ∀ r : List Int, p.1 ≤ midTo l f b n g p.1 (timesL l f b g) r.reverse ∧ midTo l f b n g p.1 (timesL l f b g) r.reverse ≤ p.2 ∧ (p.2 ∈ r.reverse → midTo l f b n g p.1 (timesL l f b g) r.reverse = p.2) := by
    intro r
    induction r with
    | nil => simp [midTo, hple]
    | cons t r ih =>
      rw [List.reverse_cons, midTo_snoc]
      generalize r.reverse = S at *
      obtain ⟨i1, i2, i3⟩ := ih
      split
      · rename_i hc
        have := hup t hc.2.1 hc.2.2
        refine ⟨by omega, by omega, fun hm => ?_⟩
        rcases List.mem_append.1 hm with hm | hm
        · have := i3 hm; omega
        · simp at hm; omega
      · rename_i hc
        refine ⟨i1, i2, fun hm => ?_⟩
        rcases List.mem_append.1 hm with hm | hm
        · exact i3 hm
        · simp at hm
          rcases Int.lt_or_le (midTo l f b n g p.1 (timesL l f b g) S) t with hlt | hle
          · exact absurd ⟨hlt, by rw [← hm]; exact hok.1, by rw [← hm]; exact hok.2⟩ hc
          · omega
  have := (H (timesL l f b g).reverse).2.2
  rw [List.reverse_reverse] at this
  exact this hin
end Go.Proofs.Ytnilplnfomgleaa
