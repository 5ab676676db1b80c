/-
  Plain: all times at which a request fits, and the document's first and last one. Conditions: none.
-/
import Derived.Test.YtbcpjdjlgmhohaaWFirst
import Derived.Test.YtbcpjdjlgmhohaaMBase
namespace Go.Proofs.Ytbcpjdjlgmhohaa

/-- from t on, below e, n are free -/
def Good (n : Int) (l : List Stp) (t e : Int) : Prop := n ≤ freeT l t ∧ ∀ s ∈ l, t ≤ s.1 → s.1 < e → n ≤ s.2
theorem good_iff (n : Int) (l : List Stp) (t e : Int) : Good n l t e ↔ n ≤ minF l t e := (le_minTo l l t e n).symm

/-- what is known of the whiles when some steps are through -/
structure HolInv (n : Int) (l : List Stp) (h : Hol) : Prop where
  good : ∀ t e, t < e → e ≤ 2199023255550 → (Good n l t e ↔ ∃ p ∈ holOut h, p.1 ≤ t ∧ e ≤ p.2)
  ends : ∀ a, (∀ s ∈ l, s.1 < a) → (∀ p ∈ h.1, p.2 < a) ∧ ∀ x, h.2 = some x → x < a
  rise : h.1.Pairwise fun p q => p.2 < q.1
  last : ∀ x, h.2 = some x → ∀ p ∈ h.1, p.2 < x
  from_ : (∀ p ∈ h.1, (∃ s ∈ l, s.1 = p.1) ∧ (∃ s ∈ l, s.1 = p.2) ∧ p.1 < p.2) ∧ ∀ x, h.2 = some x → ∃ s ∈ l, s.1 = x

theorem freeT_asc (l : List Stp) (a u t : Int) : freeT (l ++ [(a, u)]) t = if a ≤ t then u else freeT l t := freeT_snoc l (a, u) t

theorem holInv (n : Int) (hn : 1 ≤ n) (l : List Stp) (hl : Asc l) : HolInv n l (holTo n l) := by
  suffices H : ∀ (r : List Stp), Asc r.reverse → HolInv n r.reverse (holTo n r.reverse) by
    have := H l.reverse (by simpa using hl)
    simpa using this
  intro r
  induction r with
  | nil =>
    intro _
    refine ⟨fun t e _ _ => ?_, fun a _ => ⟨by simp [holTo], by simp [holTo]⟩, by simp [holTo], by simp [holTo], by simp [holTo], by simp [holTo]⟩
    simp only [List.reverse_nil, holTo, List.foldl_nil, holOut, List.append_nil, List.not_mem_nil, false_and, exists_false, iff_false]
    intro h
    have := h.1
    simp [freeT] at this
    omega
  | cons s r ih =>
    intro hr
    rw [List.reverse_cons] at hr ⊢
    obtain ⟨h1, _, h3⟩ := List.pairwise_append.1 hr
    have IH := ih h1
    obtain ⟨a, u⟩ := s
    have hlt : ∀ s ∈ r.reverse, s.1 < a := fun s hs => h3 s hs (a, u) (by simp)
    generalize r.reverse = l at *
    clear ih h1 h3 hr r
    rw [holTo_snoc]
    generalize holTo n l = h at *
    obtain ⟨e1, e2⟩ := IH.ends a hlt
    have hG : ∀ t e, t < e → (Good n (l ++ [(a, u)]) t e ↔ (a ≤ t ∧ n ≤ u) ∨ (t < a ∧ Good n l t e ∧ (a < e → n ≤ u))) := by
      intro t e hte
      unfold Good
      rw [freeT_asc]
      by_cases hat : a ≤ t
      · rw [if_pos hat]
        constructor
        · rintro ⟨h, _⟩; exact .inl ⟨hat, h⟩
        · rintro (⟨_, h⟩ | ⟨h, _⟩)
          · refine ⟨h, fun s hs ht he => ?_⟩
            rcases List.mem_append.1 hs with hs | hs
            · have := hlt s hs; omega
            · simp at hs; subst hs; exact h
          · omega
      · rw [if_neg hat]
        constructor
        · rintro ⟨h, hh⟩
          exact .inr ⟨by omega, ⟨h, fun s hs => hh s (by simp [hs])⟩, fun hae => hh (a, u) (by simp) (by simp; omega) hae⟩
        · rintro (⟨h, _⟩ | ⟨_, ⟨h, hh⟩, hu⟩)
          · omega
          · refine ⟨h, fun s hs ht he => ?_⟩
            rcases List.mem_append.1 hs with hs | hs
            · exact hh s hs ht he
            · simp at hs; subst hs; exact hu he
    have hup : ∀ b, (∀ s ∈ l ++ [(a, u)], s.1 < b) → (∀ s ∈ l, s.1 < b) ∧ a < b := fun b hb => ⟨fun s hs => hb s (by simp [hs]), hb (a, u) (by simp)⟩
    have hmem : ∀ x : Int, (∃ s ∈ l, s.1 = x) → ∃ s ∈ l ++ [(a, u)], s.1 = x := fun x ⟨s, hs, e⟩ => ⟨s, by simp [hs], e⟩
    have F1 : ∀ p ∈ h.1, (∃ s ∈ l ++ [(a, u)], s.1 = p.1) ∧ (∃ s ∈ l ++ [(a, u)], s.1 = p.2) ∧ p.1 < p.2 := fun p hp => by
      obtain ⟨q1, q2, q3⟩ := IH.from_.1 p hp; exact ⟨hmem _ q1, hmem _ q2, q3⟩
    rcases h2 : h.2 with _ | x
    · by_cases hu : n ≤ u
      · rw [holStep_np h2 hu]
        refine ⟨fun t e hte he => ?_, fun b hb => ⟨(IH.ends b (hup b hb).1).1, fun x hx => by simp at hx; subst hx; exact (hup b hb).2⟩, IH.rise, fun x hx p hp => by simp at hx; subst hx; exact e1 p hp,
          F1, fun x hx => by simp at hx; subst hx; exact ⟨(a, u), by simp, rfl⟩⟩
        rw [hG t e hte, IH.good t e hte he, holOut_none h2, holOut_some rfl]
        constructor
        · rintro (⟨h, _⟩ | ⟨_, ⟨p, hp, h⟩, _⟩)
          · exact ⟨(a, 2199023255550), by simp, h, he⟩
          · exact ⟨p, by simp [hp], h⟩
        · rintro ⟨p, hp, h, h'⟩
          rcases List.mem_append.1 hp with hp | hp
          · have := e1 p hp; exact .inr ⟨by omega, ⟨p, hp, h, h'⟩, fun _ => hu⟩
          · simp at hp; subst hp; exact .inl ⟨h, hu⟩
      · rw [holStep_nn h2 hu]
        refine ⟨fun t e hte he => ?_, fun b hb => IH.ends b (hup b hb).1, IH.rise, IH.last, F1, fun x hx => by rw [h2] at hx; cases hx⟩
        rw [hG t e hte, IH.good t e hte he, holOut_none h2]
        constructor
        · rintro (⟨_, h⟩ | ⟨_, h, _⟩)
          · exact absurd h hu
          · exact h
        · rintro ⟨p, hp, h, h'⟩
          have := e1 p hp
          exact .inr ⟨by omega, ⟨p, hp, h, h'⟩, fun _ => by omega⟩
    · have hxa := e2 x h2
      by_cases hu : n ≤ u
      · rw [holStep_sp h2 hu]
        refine ⟨fun t e hte he => ?_, fun b hb => IH.ends b (hup b hb).1, IH.rise, IH.last, F1, fun y hy => hmem _ (IH.from_.2 y hy)⟩
        rw [hG t e hte, IH.good t e hte he]
        constructor
        · rintro (⟨h, _⟩ | ⟨_, h, _⟩)
          · rw [holOut_some h2]; exact ⟨(x, 2199023255550), by simp, by simp; omega, he⟩
          · exact h
        · intro h
          by_cases hat : a ≤ t
          · exact .inl ⟨hat, hu⟩
          · exact .inr ⟨by omega, h, fun _ => hu⟩
      · rw [holStep_sn h2 hu]
        refine ⟨fun t e hte he => ?_, fun b hb => ⟨fun p hp => ?_, by simp⟩, ?_, by simp, fun p hp => ?_, by simp⟩
        · rw [hG t e hte, IH.good t e hte he, holOut_some h2, holOut_none rfl]
          constructor
          · rintro (⟨_, h⟩ | ⟨hta, ⟨p, hp, h, h'⟩, hae⟩)
            · exact absurd h hu
            · rcases List.mem_append.1 hp with hp | hp
              · exact ⟨p, by simp [hp], h, h'⟩
              · simp at hp; subst hp
                exact ⟨(x, a), by simp, h, by simp; rcases Int.lt_or_le a e with q | q; exact absurd (hae q) hu; exact q⟩
          · rintro ⟨p, hp, h, h'⟩
            rcases List.mem_append.1 hp with hp | hp
            · have := e1 p hp
              exact .inr ⟨by omega, ⟨p, by simp [hp], h, h'⟩, fun _ => by omega⟩
            · simp at hp; subst hp
              simp only at h h'
              exact .inr ⟨by omega, ⟨(x, 2199023255550), by simp, h, he⟩, fun _ => by omega⟩
        · obtain ⟨hb1, hb2⟩ := hup b hb
          rcases List.mem_append.1 hp with hp | hp
          · exact (IH.ends b hb1).1 p hp
          · simp at hp; subst hp; exact hb2
        · rw [List.pairwise_append]
          refine ⟨IH.rise, by simp, fun p hp q hq => ?_⟩
          simp at hq; subst hq
          exact IH.last x h2 p hp
        · rcases List.mem_append.1 hp with hp | hp
          · exact F1 p hp
          · simp at hp; subst hp
            exact ⟨hmem _ (IH.from_.2 x h2), ⟨(a, u), by simp, rfl⟩, hxa⟩

/-- of all whiles -/
theorem holes_good {n : Int} (hn : 1 ≤ n) {l : List Stp} (hl : Asc l) {t e : Int} (h : t < e) (he : e ≤ 2199023255550) : n ≤ minF l t e ↔ ∃ p ∈ holes n l, p.1 ≤ t ∧ e ≤ p.2 := by
  rw [← good_iff]; exact (holInv n hn l hl).good t e h he
theorem holes_rise {n : Int} (hn : 1 ≤ n) {l : List Stp} (hl : Asc l) : (holes n l).Pairwise fun p q => p.2 < q.1 := by
  have H := holInv n hn l hl
  unfold holes holOut
  rw [List.pairwise_append]
  refine ⟨H.rise, by split <;> simp, fun p hp q hq => ?_⟩
  rcases h2 : (holTo n l).2 with _ | x
  · simp [h2] at hq
  · simp [h2] at hq; subst hq; exact H.last x h2 p hp
theorem holes_from {n : Int} (hn : 1 ≤ n) {l : List Stp} (hl : Asc l) : ∀ p ∈ holes n l, (∃ s ∈ l, s.1 = p.1) ∧ ((∃ s ∈ l, s.1 = p.2) ∨ p.2 = 2199023255550) := by
  have H := holInv n hn l hl
  intro p hp
  unfold holes holOut at hp
  rcases List.mem_append.1 hp with hp | hp
  · exact ⟨(H.from_.1 p hp).1, .inl (H.from_.1 p hp).2.1⟩
  · rcases h2 : (holTo n l).2 with _ | x
    · simp [h2] at hp
    · simp [h2] at hp; subst hp; exact ⟨H.from_.2 x h2, .inr rfl⟩

theorem mem_cutOne {f b g : Int} {h p : Stp} : p ∈ cutOne f b g h ↔ max h.1 f ≤ min h.2 b - g ∧ p = (max h.1 f, min h.2 b - g) := by
  unfold cutOne
  split
  · simp; omega
  · simp; omega
theorem mem_cutL {f b g : Int} {hs : List Stp} {p : Stp} : p ∈ cutL f b g hs ↔ ∃ h ∈ hs, max h.1 f ≤ min h.2 b - g ∧ p = (max h.1 f, min h.2 b - g) := by
  unfold cutL
  rw [List.mem_flatMap]
  simp only [mem_cutOne]

section
variable {l : List Stp} {f b n g : Int}
theorem Req.bd (h : Req l f b n g) : 0 ≤ f ∧ f ≤ 1099511627775 ∧ 0 ≤ b ∧ b ≤ 1099511627775 ∧ 0 ≤ g ∧ g ≤ 1099511627775 := by
  have h1 := (isT_iff f).1 h.2.1
  have h2 := (isT_iff b).1 h.2.2.1
  have h3 := (isT_iff g).1 h.2.2.2.2.2
  omega
/-- at a time it fits just if that lies in one of all windows -/
theorem fits_all (h : Req l f b n g) (t : Int) : FitsP l f b n g t ↔ ∃ p ∈ allF l f b n g, p.1 ≤ t ∧ t ≤ p.2 := by
  obtain ⟨f0, f1, b0, b1, g0, g1⟩ := h.bd
  unfold FitsP allF
  by_cases hg : g = 0
  · rw [if_pos hg]
    by_cases hb : b < f
    · rw [if_pos hb]; simp; omega
    · rw [if_neg hb]; simp [hg]
  · rw [if_neg hg]
    constructor
    · rintro ⟨h1, h2, h3 | h3⟩
      · exact absurd h3 hg
      · obtain ⟨q, hq, q1, q2⟩ := (holes_good h.2.2.2.1 h.1.asc (by omega) (by omega)).1 h3
        exact ⟨_, mem_cutL.2 ⟨q, hq, by omega, rfl⟩, by simp; omega, by simp; omega⟩
    · rintro ⟨p, hp, p1, p2⟩
      obtain ⟨q, hq, hle, rfl⟩ := mem_cutL.1 hp
      simp only at p1 p2
      exact ⟨by omega, by omega, .inr ((holes_good h.2.2.2.1 h.1.asc (by omega) (by omega)).2 ⟨q, hq, by omega, by omega⟩)⟩
theorem all_le (p : Stp) (hp : p ∈ allF l f b n g) : p.1 ≤ p.2 := by
  unfold allF at hp
  split at hp
  · split at hp
    · simp at hp
    · simp at hp; subst hp; simp; omega
  · obtain ⟨q, hq, hle, rfl⟩ := mem_cutL.1 hp
    exact hle
theorem all_from (p : Stp) (hp : p ∈ allF l f b n g) : f ≤ p.1 ∧ p.2 + g ≤ b := by
  unfold allF at hp
  split at hp
  · split at hp
    · simp at hp
    · simp at hp; subst hp; simp; omega
  · obtain ⟨q, hq, hle, rfl⟩ := mem_cutL.1 hp
    simp; omega
theorem all_rise (h : Req l f b n g) : (allF l f b n g).Pairwise fun p q => p.2 + 1 < q.1 := by
  obtain ⟨f0, f1, b0, b1, g0, g1⟩ := h.bd
  unfold allF
  split
  · split <;> simp
  · rename_i hg
    unfold cutL
    have H := holes_rise h.2.2.2.1 h.1.asc
    generalize holes n l = hs at H
    induction hs with
    | nil => simp
    | cons q hs ih =>
      rw [List.flatMap_cons, List.pairwise_append]
      obtain ⟨H1, H2⟩ := List.pairwise_cons.1 H
      refine ⟨by unfold cutOne; split <;> simp, ih H2, fun p hp r hr => ?_⟩
      obtain ⟨_, rfl⟩ := mem_cutOne.1 hp
      obtain ⟨q', hq', _, rfl⟩ := mem_cutL.1 hr
      have := H1 q' hq'
      simp; omega
theorem all_times (h : Req l f b n g) (p : Stp) (hp : p ∈ allF l f b n g) : p.1 ∈ timesL l f b g ∧ p.2 ∈ timesL l f b g := by
  obtain ⟨f0, f1, b0, b1, g0, g1⟩ := h.bd
  have ht : ∀ s ∈ l, s.1 ∈ timesL l f b g ∧ s.1 - g ∈ timesL l f b g := fun s hs => by
    unfold timesL
    constructor
    · exact List.mem_append.2 (.inr (List.mem_flatMap.2 ⟨s, hs, by simp⟩))
    · exact List.mem_append.2 (.inr (List.mem_flatMap.2 ⟨s, hs, by simp⟩))
  have hf : f ∈ timesL l f b g := by simp [timesL]
  have hb : b - g ∈ timesL l f b g := by simp [timesL]
  unfold allF at hp
  split at hp
  · rename_i hg
    split at hp
    · simp at hp
    · simp at hp; subst hp
      refine ⟨hf, ?_⟩
      rw [show ((f, b) : Stp).2 = b - g by simp; omega]
      exact hb
  · obtain ⟨q, hq, hle, rfl⟩ := mem_cutL.1 hp
    obtain ⟨⟨s, hs, e1⟩, h2⟩ := holes_from h.2.2.2.1 h.1.asc q hq
    constructor
    · simp only
      rcases Int.le_total q.1 f with h | h
      · rw [Int.max_eq_right h]; exact hf
      · rw [Int.max_eq_left h, ← e1]; exact (ht s hs).1
    · simp only
      rcases Int.le_total q.2 b with h | h
      · rw [Int.min_eq_left h]
        rcases h2 with ⟨s', hs', e2⟩ | h2
        · rw [← e2]; exact (ht s' hs').2
        · omega
      · rw [Int.min_eq_right h]; exact hb
end

theorem firstTo_is (l : List Stp) (f b n g : Int) (ts : List Int) :
    (firstTo l f b n g ts = -1 ∧ ∀ t ∈ ts, 0 ≤ t → ¬ FitsP l f b n g t) ∨
    (firstTo l f b n g ts ∈ ts ∧ 0 ≤ firstTo l f b n g ts ∧ FitsP l f b n g (firstTo l f b n g ts) ∧ ∀ t ∈ ts, 0 ≤ t → FitsP l f b n g t → firstTo l f b n g ts ≤ t) := by
  suffices H : ∀ r : List Int, (firstTo l f b n g r.reverse = -1 ∧ ∀ t ∈ r.reverse, 0 ≤ t → ¬ FitsP l f b n g t) ∨
    (firstTo l f b n g r.reverse ∈ r.reverse ∧ 0 ≤ firstTo l f b n g r.reverse ∧ FitsP l f b n g (firstTo l f b n g r.reverse) ∧ ∀ t ∈ r.reverse, 0 ≤ t → FitsP l f b n g t → firstTo l f b n g r.reverse ≤ t) by
    have := H ts.reverse
    simpa using this
  intro r
  induction r with
  | nil => left; simp [firstTo]
  | cons t r ih =>
    rw [List.reverse_cons, firstTo_snoc]
    generalize r.reverse = ts at *
    by_cases hc : 0 ≤ t ∧ FitsP l f b n g t ∧ (firstTo l f b n g ts < 0 ∨ t < firstTo l f b n g ts)
    · rw [if_pos hc]
      right
      refine ⟨by simp, hc.1, hc.2.1, fun s hs s0 hs' => ?_⟩
      rcases List.mem_append.1 hs with hs | hs
      · rcases ih with ⟨_, ih⟩ | ⟨_, i2, _, ih⟩
        · exact absurd hs' (ih s hs s0)
        · have := ih s hs s0 hs'; omega
      · simp at hs; omega
    · rw [if_neg hc]
      rcases ih with ⟨i1, ih⟩ | ⟨i1, i2, i3, ih⟩
      · left
        refine ⟨i1, fun s hs s0 hs' => ?_⟩
        rcases List.mem_append.1 hs with hs | hs
        · exact ih s hs s0 hs'
        · simp at hs; subst hs; exact hc ⟨s0, hs', .inl (by omega)⟩
      · right
        refine ⟨by simp [i1], i2, i3, fun s hs s0 hs' => ?_⟩
        rcases List.mem_append.1 hs with hs | hs
        · exact ih s hs s0 hs'
        · simp at hs; subst hs
          rcases Int.lt_or_le s (firstTo l f b n g ts) with h | h
          · exact absurd ⟨s0, hs', .inr h⟩ hc
          · exact h
theorem lastTo_is (l : List Stp) (f b n g : Int) (ts : List Int) :
    (lastTo l f b n g ts = -1 ∧ ∀ t ∈ ts, 0 ≤ t → ¬ FitsP l f b n g t) ∨
    (lastTo l f b n g ts ∈ ts ∧ 0 ≤ lastTo l f b n g ts ∧ FitsP l f b n g (lastTo l f b n g ts) ∧ ∀ t ∈ ts, 0 ≤ t → FitsP l f b n g t → t ≤ lastTo l f b n g ts) := by
  suffices H : ∀ r : List Int, (lastTo l f b n g r.reverse = -1 ∧ ∀ t ∈ r.reverse, 0 ≤ t → ¬ FitsP l f b n g t) ∨
    (lastTo l f b n g r.reverse ∈ r.reverse ∧ 0 ≤ lastTo l f b n g r.reverse ∧ FitsP l f b n g (lastTo l f b n g r.reverse) ∧ ∀ t ∈ r.reverse, 0 ≤ t → FitsP l f b n g t → t ≤ lastTo l f b n g r.reverse) by
    have := H ts.reverse
    simpa using this
  intro r
  induction r with
  | nil => left; simp [lastTo]
  | cons t r ih =>
    rw [List.reverse_cons, lastTo_snoc]
    generalize r.reverse = ts at *
    by_cases hc : 0 ≤ t ∧ FitsP l f b n g t
    · rw [if_pos hc]
      right
      rcases ih with ⟨i1, ih⟩ | ⟨i1, i2, i3, ih⟩
      · rw [i1, Int.max_eq_right (by omega)]
        refine ⟨by simp, hc.1, hc.2, fun s hs s0 hs' => ?_⟩
        rcases List.mem_append.1 hs with hs | hs
        · exact absurd hs' (ih s hs s0)
        · simp at hs; omega
      · rcases Int.le_total (lastTo l f b n g ts) t with h | h
        · rw [Int.max_eq_right h]
          refine ⟨by simp, hc.1, hc.2, fun s hs s0 hs' => ?_⟩
          rcases List.mem_append.1 hs with hs | hs
          · have := ih s hs s0 hs'; omega
          · simp at hs; omega
        · rw [Int.max_eq_left h]
          refine ⟨by simp [i1], i2, i3, fun s hs s0 hs' => ?_⟩
          rcases List.mem_append.1 hs with hs | hs
          · exact ih s hs s0 hs'
          · simp at hs; omega
    · rw [if_neg hc]
      rcases ih with ⟨i1, ih⟩ | ⟨i1, i2, i3, ih⟩
      · left
        refine ⟨i1, fun s hs s0 hs' => ?_⟩
        rcases List.mem_append.1 hs with hs | hs
        · exact ih s hs s0 hs'
        · simp at hs; subst hs; exact hc ⟨s0, hs'⟩
      · right
        refine ⟨by simp [i1], i2, i3, fun s hs s0 hs' => ?_⟩
        rcases List.mem_append.1 hs with hs | hs
        · exact ih s hs s0 hs'
        · simp at hs; subst hs; exact absurd ⟨s0, hs'⟩ hc

section
variable {l : List Stp} {f b n g : Int}
theorem firstF_none (h : Req l f b n g) (ha : allF l f b n g = []) : firstF l f b n g = -1 ∧ lastF l f b n g = -1 := by
  have hno : ∀ t, ¬ FitsP l f b n g t := fun t ht => by
    obtain ⟨p, hp, _⟩ := (fits_all h t).1 ht
    rw [ha] at hp; simp at hp
  constructor
  · rcases firstTo_is l f b n g (timesL l f b g) with h | h
    · exact h.1
    · exact absurd h.2.2.1 (hno _)
  · rcases lastTo_is l f b n g (timesL l f b g) with h | h
    · exact h.1
    · exact absurd h.2.2.1 (hno _)
theorem firstF_some (h : Req l f b n g) {p : Stp} {r : List Stp} (ha : allF l f b n g = p :: r) : firstF l f b n g = p.1 := by
  obtain ⟨f0, _⟩ := h.bd
  have hp : p ∈ allF l f b n g := by rw [ha]; simp
  have hpf := all_from p hp
  have hple := all_le p hp
  have hfit : FitsP l f b n g p.1 := (fits_all h _).2 ⟨p, hp, Int.le_refl _, hple⟩
  rcases firstTo_is l f b n g (timesL l f b g) with h1 | ⟨_, _, h3, h4⟩
  · exact absurd hfit (h1.2 p.1 (all_times h p hp).1 (by omega))
  · have h5 := h4 p.1 (all_times h p hp).1 (by omega) hfit
    obtain ⟨q, hq, q1, q2⟩ := (fits_all h _).1 h3
    have hr := all_rise h
    rw [ha] at hq hr
    unfold firstF
    rcases List.mem_cons.1 hq with rfl | hq
    · omega
    · have := (List.pairwise_cons.1 hr).1 q hq
      omega
theorem lastF_some (h : Req l f b n g) {p : Stp} (ha : (allF l f b n g).getLast? = some p) : lastF l f b n g = p.2 := by
  obtain ⟨f0, _⟩ := h.bd
  have hp : p ∈ allF l f b n g := List.mem_of_getLast? ha
  have hpf := all_from p hp
  have hple := all_le p hp
  have hfit : FitsP l f b n g p.2 := (fits_all h _).2 ⟨p, hp, hple, Int.le_refl _⟩
  rcases lastTo_is l f b n g (timesL l f b g) with h1 | ⟨_, _, h3, h4⟩
  · exact absurd hfit (h1.2 p.2 (all_times h p hp).2 (by omega))
  · have h5 := h4 p.2 (all_times h p hp).2 (by omega) hfit
    obtain ⟨q, hq, q1, q2⟩ := (fits_all h _).1 h3
    have hr := all_rise h
    obtain ⟨ys, hys⟩ := List.getLast?_eq_some_iff.1 ha
    rw [hys] at hq hr
    unfold lastF
    rcases List.mem_append.1 hq with hq | hq
    · have := (List.pairwise_append.1 hr).2.2 q hq p (by simp)
      omega
    · simp at hq; subst hq; omega
/-- the program's first time and last one are the document's -/
theorem finds (h : Req l f b n g) : (firstF l f b n g < 0 ∧ firstR l f b n g = (0, 70) ∧ lastR l f b n g = (0, 70)) ∨
    (0 ≤ firstF l f b n g ∧ firstR l f b n g = (firstF l f b n g, 0) ∧ lastR l f b n g = (lastF l f b n g, 0)) := by
  rcases ha : allF l f b n g with _ | ⟨p, r⟩
  · left
    rw [(firstF_none h ha).1, firstR_none h ha, lastR_none h ha]
    exact ⟨by omega, rfl, rfl⟩
  · right
    have hp : p ∈ allF l f b n g := by rw [ha]; simp
    have := all_from p hp
    have := h.bd
    obtain ⟨q, hq⟩ : ∃ q, (allF l f b n g).getLast? = some q := by
      rw [ha, List.getLast?_cons]; exact ⟨_, rfl⟩
    rw [firstR_some h ha, lastR_some h hq, firstF_some h ha, lastF_some h hq]
    exact ⟨by omega, rfl, rfl⟩
end
end Go.Proofs.Ytbcpjdjlgmhohaa
