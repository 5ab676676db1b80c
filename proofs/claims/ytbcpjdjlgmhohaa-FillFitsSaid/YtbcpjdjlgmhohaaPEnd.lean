/-
  Plain law: what is left when all places are laid; who has a place and who has none. Conditions: none.
-/
import Derived.Test.YtbcpjdjlgmhohaaMPP
namespace Go.Proofs.Ytbcpjdjlgmhohaa
open Go.RowKit
set_option linter.unusedVariables false
set_option linter.unusedSimpArgs false

def finalP (now : Int) : List Stp → Int → List Jb → List Stp
  | l, _, [] => l
  | l, deep, j :: js =>
    if fitsN l now j now = true then finalP now (laid l j now) deep js
    else if deep = 0 then finalP now l deep js
    else if firstN l now j < 0 then finalP now l (deep - 1) js
    else finalP now (laid l j (firstN l now j)) (deep - 1) js
section
variable {l : List Stp} {now deep : Int} {j : Jb} {js : List Jb}
theorem fin_fits (h : fitsN l now j now = true) : finalP now l deep (j :: js) = finalP now (laid l j now) deep js := by rw [finalP, if_pos h]
theorem fin_none (h : fitsN l now j now = false) (hd : deep = 0) : finalP now l deep (j :: js) = finalP now l deep js := by rw [finalP, if_neg (by rw [h]; decide), if_pos hd]
theorem fin_nowhere (h : fitsN l now j now = false) (hd : ¬ deep = 0) (hf : firstN l now j < 0) : finalP now l deep (j :: js) = finalP now l (deep - 1) js := by rw [finalP, if_neg (by rw [h]; decide), if_neg hd, if_pos hf]
theorem fin_kept (h : fitsN l now j now = false) (hd : ¬ deep = 0) (hf : ¬ firstN l now j < 0) : finalP now l deep (j :: js) = finalP now (laid l j (firstN l now j)) (deep - 1) js := by rw [finalP, if_neg (by rw [h]; decide), if_neg hd, if_neg hf]
abbrev FitJ (l : List Stp) (now : Int) (j : Jb) (t : Int) : Prop := FitsP l now 1099511627775 j.2.2.1 j.2.2.2 t
theorem fits_mono {l' : List Stp} {t : Int} (hl : Prof l) (hl' : Prof l') (hn : isT now = true) (hj : JobOk j) (hle : ∀ x, 0 ≤ x → freeT l' x ≤ freeT l x) (h : FitJ l' now j t) : FitJ l now j t := by
  obtain ⟨h1, h2, h3⟩ := h
  obtain ⟨_, _, _, j4, j5, j6, j7⟩ := id hj
  have hn' := (isT_iff now).1 hn
  have h4 : j.2.2.1 ≤ minF l' t (t + j.2.2.2) := by
    rcases h3 with h3 | h3
    · omega
    · exact h3
  refine room_fits hl hj (by omega) h1 h2 fun x a b => ?_
  have := free_min hl' (show 0 ≤ t by omega) a b
  have := hle x (by omega)
  omega
theorem lay_ok {t : Int} (hl : Prof l) (hn : isT now = true) (hj : JobOk j) (hf : FitJ l now j t) (hlen : l.length ≤ 19000) :
    NodeOk (slotOf j t) ∧ sE l (slotOf j t) = 0 ∧ sR l (slotOf j t) = laid l j t ∧ Prof (laid l j t) ∧ (laid l j t).length ≤ l.length + 2 ∧ ∀ x, 0 ≤ x → freeT (laid l j t) x ≤ freeT l x := by
  obtain ⟨h1, ha, hr⟩ := fits_room hl hn hj hf
  have h2 := add_ok ha hr
  have h3 := laid_prof hl hn hj hf hlen
  obtain ⟨_, _, _, j4, j5, j6, j7⟩ := id hj
  refine ⟨⟨?_, ?_⟩, h2.1, h2.2, h3.1, h3.2, fun x hx => ?_⟩
  · show -10000 ≤ j.2.2.1; omega
  · exact j5
  · unfold laid
    rw [addL_val ha hx]
    split <;> omega
end
theorem final_left {now : Int} (hn : isT now = true) (js : List Jb) : ∀ (l : List Stp) (deep : Int), Prof l → (∀ j ∈ js, JobOk j) → l.length + 2 * js.length ≤ 19000 →
    leftV l (placesF now l deep js) = (finalP now l deep js, 0) ∧ Prof (finalP now l deep js) ∧ ∀ x, 0 ≤ x → freeT (finalP now l deep js) x ≤ freeT l x := by
  induction js with
  | nil => intro l deep hl _ _; exact ⟨by simp [placesF, leftV, finalP], by simpa [finalP] using hl, fun x _ => by simp [finalP]⟩
  | cons j js ih =>
    intro l deep hl hj hlen
    rw [List.length_cons] at hlen
    have hj0 := hj j (by simp)
    have hjs : ∀ j ∈ js, JobOk j := fun k hk => hj k (by simp [hk])
    have lay : ∀ (t d : Int), FitJ l now j t → leftV l (slotOf j t :: placesF now (laid l j t) d js) = (finalP now (laid l j t) d js, 0) ∧ Prof (finalP now (laid l j t) d js) ∧ ∀ x, 0 ≤ x → freeT (finalP now (laid l j t) d js) x ≤ freeT l x := fun t d hf => by
      obtain ⟨h1, h2, h3, h4, h5, h6⟩ := lay_ok hl hn hj0 hf (by omega)
      obtain ⟨i1, i2, i3⟩ := ih (laid l j t) d h4 hjs (by omega)
      rw [leftV_ok h1 h2, h3]
      exact ⟨i1, i2, fun x hx => Int.le_trans (i3 x hx) (h6 x hx)⟩
    by_cases h : fitsN l now j now = true
    · rw [plc_fits h, fin_fits h]
      exact lay _ _ ((fitsB_iff _ _ _ _ _ _).1 h)
    · replace h : fitsN l now j now = false := by simpa using h
      by_cases hd : deep = 0
      · rw [plc_none h hd, fin_none h hd]; exact ih l deep hl hjs (by omega)
      · by_cases hf : firstN l now j < 0
        · rw [plc_nowhere h hd hf, fin_nowhere h hd hf]; exact ih l (deep - 1) hl hjs (by omega)
        · rw [plc_kept h hd hf, fin_kept h hd hf]; exact lay _ _ (first_fits hl hn hj0 hf)
/-- whoever has a place could have it at first, too -/
theorem slot_mem {now : Int} (hn : isT now = true) (js : List Jb) : ∀ (l : List Stp) (deep : Int), Prof l → (∀ j ∈ js, JobOk j) → l.length + 2 * js.length ≤ 19000 →
    ∀ s ∈ placesF now l deep js, ∃ j ∈ js, ∃ t, s = slotOf j t ∧ FitJ l now j t ∧ (deep = 0 → t = now) := by
  induction js with
  | nil => intro l deep hl _ _ s hs; simp [placesF] at hs
  | cons j js ih =>
    intro l deep hl hj hlen s hs
    rw [List.length_cons] at hlen
    have hj0 := hj j (by simp)
    have hjs : ∀ j ∈ js, JobOk j := fun k hk => hj k (by simp [hk])
    have lay : ∀ (t d : Int), FitJ l now j t → (deep = 0 → t = now) → (deep = 0 → d = 0) → s ∈ slotOf j t :: placesF now (laid l j t) d js → ∃ k ∈ j :: js, ∃ t, s = slotOf k t ∧ FitJ l now k t ∧ (deep = 0 → t = now) := fun t d hf ht hdd hs => by
      obtain ⟨h1, h2, h3, h4, h5, h6⟩ := lay_ok hl hn hj0 hf (by omega)
      rcases List.mem_cons.1 hs with rfl | hs
      · exact ⟨j, by simp, t, rfl, hf, ht⟩
      · obtain ⟨k, hk, u, e1, e2, e3⟩ := ih (laid l j t) d h4 hjs (by omega) s hs
        exact ⟨k, by simp [hk], u, e1, fits_mono hl h4 hn (hjs k hk) h6 e2, fun h => e3 (hdd h)⟩
    by_cases h : fitsN l now j now = true
    · rw [plc_fits h] at hs
      exact lay _ _ ((fitsB_iff _ _ _ _ _ _).1 h) (fun _ => rfl) id hs
    · replace h : fitsN l now j now = false := by simpa using h
      by_cases hd : deep = 0
      · rw [plc_none h hd] at hs
        obtain ⟨k, hk, r⟩ := ih l deep hl hjs (by omega) s hs
        exact ⟨k, by simp [hk], r⟩
      · by_cases hf : firstN l now j < 0
        · rw [plc_nowhere h hd hf] at hs
          obtain ⟨k, hk, u, e1, e2, _⟩ := ih l (deep - 1) hl hjs (by omega) s hs
          exact ⟨k, by simp [hk], u, e1, e2, fun h => absurd h hd⟩
        · rw [plc_kept h hd hf] at hs
          exact lay _ _ (first_fits hl hn hj0 hf) (fun h => absurd h hd) (fun h => absurd h hd) hs
/-- whoever has none fits not, in the end -/
theorem slot_none {now : Int} (hn : isT now = true) (js : List Jb) : ∀ (l : List Stp) (deep : Int), Prof l → (∀ j ∈ js, JobOk j) → l.length + 2 * js.length ≤ 19000 →
    ∀ k ∈ js, (∃ t, slotOf k t ∈ placesF now l deep js) ∨ (¬ FitJ (finalP now l deep js) now k now ∧ ((js.length : Int) ≤ deep → ∀ t, ¬ FitJ (finalP now l deep js) now k t)) := by
  induction js with
  | nil => intro l deep hl _ _ k hk; simp at hk
  | cons j js ih =>
    intro l deep hl hj hlen k hk
    have hfl := final_left hn (j :: js) l deep hl hj hlen
    rw [List.length_cons] at hlen
    have hj0 := hj j (by simp)
    have hjs : ∀ j ∈ js, JobOk j := fun k hk => hj k (by simp [hk])
    have lay : ∀ (t d : Int), FitJ l now j t → ((js.length : Int) + 1 ≤ deep → (js.length : Int) ≤ d) →
        (∃ u, slotOf k u ∈ slotOf j t :: placesF now (laid l j t) d js) ∨ (¬ FitJ (finalP now (laid l j t) d js) now k now ∧ ((js.length : Int) + 1 ≤ deep → ∀ t', ¬ FitJ (finalP now (laid l j t) d js) now k t')) := fun t d hf hdd => by
      obtain ⟨h1, h2, h3, h4, h5, h6⟩ := lay_ok hl hn hj0 hf (by omega)
      rcases List.mem_cons.1 hk with rfl | hk
      · exact .inl ⟨t, by simp⟩
      · rcases ih (laid l j t) d h4 hjs (by omega) k hk with ⟨u, e⟩ | ⟨e1, e2⟩
        · exact .inl ⟨u, by simp [e]⟩
        · exact .inr ⟨e1, fun h => e2 (hdd h)⟩
    rw [List.length_cons]
    by_cases h : fitsN l now j now = true
    · rw [plc_fits h, fin_fits h]
      rcases lay now deep ((fitsB_iff _ _ _ _ _ _).1 h) (fun h => by omega) with e | ⟨e1, e2⟩
      · exact .inl e
      · exact .inr ⟨e1, fun h => e2 (by omega)⟩
    · replace h : fitsN l now j now = false := by simpa using h
      have hno : ¬ FitJ l now j now := (fitsB_f _ _ _ _ _ _).1 h
      by_cases hd : deep = 0
      · rcases List.mem_cons.1 hk with rfl | hk
        · exact .inr ⟨fun hc => hno (fits_mono hl hfl.2.1 hn hj0 hfl.2.2 hc), fun h => by omega⟩
        · rw [plc_none h hd, fin_none h hd]
          rcases ih l deep hl hjs (by omega) k hk with e | ⟨e1, e2⟩
          · exact .inl e
          · exact .inr ⟨e1, fun h => by omega⟩
      · by_cases hf : firstN l now j < 0
        · rcases List.mem_cons.1 hk with rfl | hk
          · have hnone := first_none hl hn hj0 hf
            exact .inr ⟨fun hc => hno (fits_mono hl hfl.2.1 hn hj0 hfl.2.2 hc), fun _ t hc => hnone t (fits_mono hl hfl.2.1 hn hj0 hfl.2.2 hc)⟩
          · rw [plc_nowhere h hd hf, fin_nowhere h hd hf]
            rcases ih l (deep - 1) hl hjs (by omega) k hk with e | ⟨e1, e2⟩
            · exact .inl e
            · exact .inr ⟨e1, fun h => e2 (by omega)⟩
        · rw [plc_kept h hd hf, fin_kept h hd hf]
          rcases lay (firstN l now j) (deep - 1) (first_fits hl hn hj0 hf) (fun h => by omega) with e | ⟨e1, e2⟩
          · exact .inl e
          · exact .inr ⟨e1, fun h => e2 (by omega)⟩
theorem slots_ids (now : Int) (js : List Jb) : ∀ (l : List Stp) (deep : Int), ((placesF now l deep js).map (·.1)).Sublist (ids js) := by
  induction js with
  | nil => intro l deep; simp [placesF, ids]
  | cons j js ih =>
    intro l deep
    unfold placesF
    split
    · exact (ih _ _).cons_cons _
    · split
      · exact (ih _ _).cons _
      · split
        · exact (ih _ _).cons _
        · exact (ih _ _).cons_cons _
/-- all at once, where there are enough -/
def sumN (js : List Jb) : Int := (js.map fun j => j.2.2.1).foldr (· + ·) 0
theorem all_now {now : Int} (hn : isT now = true) (hb : now ≤ 1000000) (js : List Jb) : ∀ (l : List Stp), Prof l → (∀ j ∈ js, JobOk j ∧ j.2.2.2 ≤ 1000) → l.length + 2 * js.length ≤ 19000 →
    (∀ x, 0 ≤ x → sumN js ≤ freeT l x) → placesF now l 0 js = js.map fun j => slotOf j now := by
  induction js with
  | nil => intro l _ _ _ _; simp [placesF]
  | cons j js ih =>
    intro l hl hj hlen hfree
    rw [List.length_cons] at hlen
    obtain ⟨hj0, hw⟩ := hj j (by simp)
    have hn' := (isT_iff now).1 hn
    have hs0 : ∀ (js : List Jb), (∀ j ∈ js, JobOk j ∧ j.2.2.2 ≤ 1000) → 0 ≤ sumN js := fun js h => by
      induction js with
      | nil => simp [sumN]
      | cons k ks ik =>
        have := ik fun j hj => h j (by simp [hj])
        have := (h k (by simp)).1.2.2.2.1
        simp only [sumN, List.map_cons, List.foldr_cons] at this ⊢
        simp only [sumN] at *
        omega
    have hjs : ∀ k ∈ js, JobOk k ∧ k.2.2.2 ≤ 1000 := fun k hk => hj k (by simp [hk])
    have hsum : sumN (j :: js) = j.2.2.1 + sumN js := rfl
    have h0 := hs0 js hjs
    have hf : FitJ l now j now := room_fits hl hj0 hn'.1 (Int.le_refl _) (by omega) fun x a b => by
      have := hfree x (by omega)
      omega
    obtain ⟨h1, h2, h3, h4, h5, _⟩ := lay_ok hl hn hj0 hf (by omega)
    rw [plc_fits ((fitsB_iff _ _ _ _ _ _).2 hf), List.map_cons]
    congr 1
    refine ih (laid l j now) h4 hjs (by omega) fun x hx => ?_
    have ha := (fits_room hl hn hj0 hf).2.1
    unfold laid
    rw [addL_val ha hx]
    have := hfree x hx
    have := hj0.2.2.2.1
    split <;> omega
end Go.Proofs.Ytbcpjdjlgmhohaa
