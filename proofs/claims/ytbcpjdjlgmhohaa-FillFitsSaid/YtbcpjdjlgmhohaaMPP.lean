import Derived.Test.YtbcpjdjlgmhohaaMPJ
import Derived.Test.YtbcpjdjlgmhohaaMPA
import Derived.Test.YtbcpjdjlgmhohaaPFit
/-
  Plain law: who begins now, and who has a place kept. Conditions: none.
-/
namespace Go.Proofs.Ytbcpjdjlgmhohaa
open Go.RowKit
set_option linter.unusedVariables false
set_option linter.unusedSimpArgs false

theorem free_min {l : List Stp} {a d : Int} (hl : Prof l) (h0 : 0 ≤ a) {x : Int} (h1 : a ≤ x) (h2 : x < d) : minF l a d ≤ freeT l x := by
  have m1 := (le_minTo l l a d (minF l a d)).1 (Int.le_refl _)
  obtain ⟨i, τ, v, h3, h4, h5, h6⟩ := step_at hl (x := x) (by omega)
  rw [h6]
  have hm := List.mem_of_getElem? h3
  rcases Int.lt_or_le τ a with h7 | h7
  · have : freeT l a = v := freeT_last hl.asc hm (by omega) fun s hs hsa => h5 s hs (by omega)
    rw [this] at m1
    exact m1.1
  · exact m1.2 _ hm h7 (by simp only; omega)
/-- the least, by times -/
theorem min_le_iff {l : List Stp} {a d n : Int} (hl : Prof l) (h0 : 0 ≤ a) (had : a < d) : n ≤ minF l a d ↔ ∀ x, a ≤ x → x < d → n ≤ freeT l x := by
  constructor
  · intro h x h1 h2
    exact Int.le_trans h (free_min hl h0 h1 h2)
  · intro h
    refine (le_minTo l l a d n).2 ⟨h a (Int.le_refl _) had, fun s hs h1 h2 => ?_⟩
    have := h s.1 h1 h2
    rwa [freeT_at hl.asc (v := s.2) hs] at this
abbrev Slt := Int × Int × Int × Int
def slotOf (j : Jb) (at_ : Int) : Slt := (j.1, at_, at_ + j.2.2.2, j.2.2.1)
def maxT : Int := 1099511627775
def fitsN (l : List Stp) (now : Int) (j : Jb) (t : Int) : Bool := fitsB l now 1099511627775 j.2.2.1 j.2.2.2 t
def firstN (l : List Stp) (now : Int) (j : Jb) : Int := firstF l now 1099511627775 j.2.2.1 j.2.2.2
def laid (l : List Stp) (j : Jb) (t : Int) : List Stp := addL l t (t + j.2.2.2) (-j.2.2.1)
def placesF (now : Int) : List Stp → Int → List Jb → List Slt
  | _, _, [] => []
  | l, deep, j :: js =>
    if fitsN l now j now = true then slotOf j now :: placesF now (laid l j now) deep js
    else if deep = 0 then placesF now l deep js
    else if firstN l now j < 0 then placesF now l (deep - 1) js
    else slotOf j (firstN l now j) :: placesF now (laid l j (firstN l now j)) (deep - 1) js
section
variable {l : List Stp} {now deep : Int} {j : Jb} {js : List Jb}
theorem plc_fits (h : fitsN l now j now = true) : placesF now l deep (j :: js) = slotOf j now :: placesF now (laid l j now) deep js := by rw [placesF, if_pos h]
theorem plc_none (h : fitsN l now j now = false) (hd : deep = 0) : placesF now l deep (j :: js) = placesF now l deep js := by rw [placesF, if_neg (by rw [h]; decide), if_pos hd]
theorem plc_nowhere (h : fitsN l now j now = false) (hd : ¬ deep = 0) (hf : firstN l now j < 0) : placesF now l deep (j :: js) = placesF now l (deep - 1) js := by rw [placesF, if_neg (by rw [h]; decide), if_neg hd, if_pos hf]
theorem plc_kept (h : fitsN l now j now = false) (hd : ¬ deep = 0) (hf : ¬ firstN l now j < 0) : placesF now l deep (j :: js) = slotOf j (firstN l now j) :: placesF now (laid l j (firstN l now j)) (deep - 1) js := by rw [placesF, if_neg (by rw [h]; decide), if_neg hd, if_neg hf]
theorem job_req (hl : Prof l) (hn : isT now = true) (hj : JobOk j) : Req l now 1099511627775 j.2.2.1 j.2.2.2 := ⟨hl, hn, by decide, hj.2.2.2.1, hj.2.2.2.2.1, hj.2.2.2.2.2.2⟩
/-- what fits may be laid -/
theorem fits_room (hl : Prof l) (hn : isT now = true) (hj : JobOk j) {t : Int} (h : FitsP l now 1099511627775 j.2.2.1 j.2.2.2 t) : now ≤ t ∧ AddArg l t (t + j.2.2.2) (-j.2.2.1) ∧ Room l t (t + j.2.2.2) (-j.2.2.1) := by
  obtain ⟨h1, h2, h3⟩ := h
  obtain ⟨_, _, _, j4, j5, j6, j7⟩ := hj
  have hn' := (isT_iff now).1 hn
  have h4 : j.2.2.1 ≤ minF l t (t + j.2.2.2) := by
    rcases h3 with h3 | h3
    · omega
    · exact h3
  refine ⟨h1, ⟨hl, by rw [isT_iff]; omega, by rw [isT_iff]; omega, by omega, by omega, by omega⟩, fun x a b => ?_⟩
  have := free_min hl (show 0 ≤ t by omega) a b
  have := hl.free x
  omega
theorem room_fits (hl : Prof l) (hj : JobOk j) {t : Int} (h0 : 0 ≤ t) (h1 : now ≤ t) (h2 : t + j.2.2.2 ≤ 1099511627775) (h : ∀ x, t ≤ x → x < t + j.2.2.2 → j.2.2.1 ≤ freeT l x) : FitsP l now 1099511627775 j.2.2.1 j.2.2.2 t :=
  ⟨h1, h2, .inr ((min_le_iff hl h0 (by have := hj.2.2.2.2.2.1; omega)).2 h)⟩
theorem first_fits (hl : Prof l) (hn : isT now = true) (hj : JobOk j) (h : ¬ firstN l now j < 0) : FitsP l now 1099511627775 j.2.2.1 j.2.2.2 (firstN l now j) := by
  have hr := job_req hl hn hj
  unfold firstN at h ⊢
  cases ha : allF l now 1099511627775 j.2.2.1 j.2.2.2 with
  | nil => rw [(firstF_none hr ha).1] at h; exact absurd (by decide) h
  | cons p r =>
    rw [firstF_some hr ha]
    have hp : p ∈ allF l now 1099511627775 j.2.2.1 j.2.2.2 := by rw [ha]; simp
    exact (fits_all hr p.1).2 ⟨p, hp, Int.le_refl _, all_le p hp⟩
theorem first_none (hl : Prof l) (hn : isT now = true) (hj : JobOk j) (h : firstN l now j < 0) (t : Int) : ¬ FitsP l now 1099511627775 j.2.2.1 j.2.2.2 t := by
  have hr := job_req hl hn hj
  unfold firstN at h
  cases ha : allF l now 1099511627775 j.2.2.1 j.2.2.2 with
  | nil =>
    intro hf
    obtain ⟨p, hp, _⟩ := (fits_all hr t).1 hf
    rw [ha] at hp; simp at hp
  | cons p r =>
    have hp : p ∈ allF l now 1099511627775 j.2.2.1 j.2.2.2 := by rw [ha]; simp
    rw [firstF_some hr ha] at h
    have := (all_from p hp).1
    have := (isT_iff now).1 hn
    omega
theorem first_r (hl : Prof l) (hn : isT now = true) (hj : JobOk j) : (firstN l now j < 0 → firstR l now 1099511627775 j.2.2.1 j.2.2.2 = (0, 70)) ∧ (¬ firstN l now j < 0 → firstR l now 1099511627775 j.2.2.1 j.2.2.2 = (firstN l now j, 0)) := by
  have := finds (job_req hl hn hj)
  unfold firstN
  rcases this with ⟨h1, h2, _⟩ | ⟨h1, h2, _⟩
  · exact ⟨fun _ => h2, fun h => absurd h1 h⟩
  · exact ⟨fun h => by omega, fun _ => h2⟩
theorem laid_prof (hl : Prof l) (hn : isT now = true) (hj : JobOk j) {t : Int} (h : FitsP l now 1099511627775 j.2.2.1 j.2.2.2 t) (hlen : l.length ≤ 19000) : Prof (laid l j t) ∧ (laid l j t).length ≤ l.length + 2 := by
  obtain ⟨_, h1, h2⟩ := fits_room hl hn hj h
  exact ⟨addL_prof h1 h2 hlen, addL_len⟩
end
open Classical in
noncomputable def plcE (l : List Stp) (now deep : Int) (jobs : List Jb) : Int := if chkJ l now jobs = 0 then (if deep < 0 then 2 else 0) else chkJ l now jobs
open Classical in
noncomputable def plcR (l : List Stp) (now deep : Int) (jobs : List Jb) : List Slt := if chkJ l now jobs = 0 ∧ ¬ deep < 0 then placesF now l deep (orderJ jobs) else []
theorem plc_bad {l : List Stp} {now deep : Int} {jobs : List Jb} (h : ¬ chkJ l now jobs = 0) : plcE l now deep jobs = chkJ l now jobs ∧ plcR l now deep jobs = [] := by
  unfold plcE plcR; rw [if_neg h, if_neg fun k => h k.1]; exact ⟨rfl, rfl⟩
theorem plc_deep {l : List Stp} {now deep : Int} {jobs : List Jb} (h : chkJ l now jobs = 0) (hd : deep < 0) : plcE l now deep jobs = 2 ∧ plcR l now deep jobs = [] := by
  unfold plcE plcR; rw [if_pos h, if_pos hd, if_neg fun k => k.2 hd]; exact ⟨rfl, rfl⟩
theorem plc_ok {l : List Stp} {now deep : Int} {jobs : List Jb} (h : chkJ l now jobs = 0) (hd : ¬ deep < 0) : plcE l now deep jobs = 0 ∧ plcR l now deep jobs = placesF now l deep (orderJ jobs) := by
  unfold plcE plcR; rw [if_pos h, if_neg hd, if_pos ⟨h, hd⟩]; exact ⟨rfl, rfl⟩
theorem places_len (now : Int) (js : List Jb) : ∀ (l : List Stp) (deep : Int), (placesF now l deep js).length ≤ js.length := by
  induction js with
  | nil => intro l deep; simp [placesF]
  | cons j js ih =>
    intro l deep
    unfold placesF
    split
    · have := ih (laid l j now) deep; simp; omega
    · split
      · have := ih l deep; simp; omega
      · split
        · have := ih l (deep - 1); simp; omega
        · have := ih (laid l j (firstN l now j)) (deep - 1); simp; omega
theorem plcR_len (l : List Stp) (now deep : Int) (jobs : List Jb) : (plcR l now deep jobs).length ≤ jobs.length := by
  unfold plcR
  split
  · have := places_len now (orderJ jobs) l deep
    rwa [orderJ_len] at this
  · simp
/-- so far placed -/
structure PlInv (l0 : List Stp) (now deep0 : Int) (o : List Jb) (q : Nat) (l : List Stp) (deep : Int) (O : List Slt) : Prop where
  out : O ++ placesF now l deep (o.drop q) = placesF now l0 deep0 o
  prof : Prof l
  len : l.length ≤ l0.length + 2 * q
  deep : 0 ≤ deep ∧ deep ≤ deep0
  olen : O.length ≤ q
section
variable {l0 l : List Stp} {now deep0 deep : Int} {o : List Jb} {q : Nat} {O : List Slt} {j : Jb}
theorem pl_start (h : Prof l0) (hd : 0 ≤ deep0) : PlInv l0 now deep0 o 0 l0 deep0 [] := ⟨rfl, h, by omega, by omega, by simp⟩
theorem drop_at {α : Type} {l : List α} {q : Nat} {x : α} (h : l[q]? = some x) : l.drop q = x :: l.drop (q + 1) := by
  obtain ⟨h1, rfl⟩ := List.getElem?_eq_some_iff.1 h
  exact List.drop_eq_getElem_cons h1
theorem pl_fits (h : PlInv l0 now deep0 o q l deep O) (hq : o[q]? = some j) (hn : isT now = true) (hj : JobOk j) (hlen : l.length ≤ 19000) (hf : fitsN l now j now = true) : PlInv l0 now deep0 o (q + 1) (laid l j now) deep (O ++ [slotOf j now]) := by
  have hp := laid_prof h.prof hn hj ((fitsB_iff _ _ _ _ _ _).1 hf) hlen
  refine ⟨?_, hp.1, by have := h.len; omega, h.deep, by have := h.olen; simp; omega⟩
  rw [← h.out, drop_at hq, plc_fits hf, List.append_assoc]; rfl
theorem pl_none (h : PlInv l0 now deep0 o q l deep O) (hq : o[q]? = some j) (hf : fitsN l now j now = false) (hd : deep = 0) : PlInv l0 now deep0 o (q + 1) l deep O := by
  refine ⟨?_, h.prof, by have := h.len; omega, h.deep, by have := h.olen; omega⟩
  rw [← h.out, drop_at hq, plc_none hf hd]
theorem pl_nowhere (h : PlInv l0 now deep0 o q l deep O) (hq : o[q]? = some j) (hf : fitsN l now j now = false) (hd : ¬ deep = 0) (hn : firstN l now j < 0) : PlInv l0 now deep0 o (q + 1) l (deep - 1) O := by
  refine ⟨?_, h.prof, by have := h.len; omega, by have := h.deep; omega, by have := h.olen; omega⟩
  rw [← h.out, drop_at hq, plc_nowhere hf hd hn]
theorem pl_kept (h : PlInv l0 now deep0 o q l deep O) (hq : o[q]? = some j) (hn : isT now = true) (hj : JobOk j) (hlen : l.length ≤ 19000) (hf : fitsN l now j now = false) (hd : ¬ deep = 0) (hfn : ¬ firstN l now j < 0) : PlInv l0 now deep0 o (q + 1) (laid l j (firstN l now j)) (deep - 1) (O ++ [slotOf j (firstN l now j)]) := by
  have hp := laid_prof h.prof hn hj (first_fits h.prof hn hj hfn) hlen
  refine ⟨?_, hp.1, by have := h.len; omega, by have := h.deep; omega, by have := h.olen; simp; omega⟩
  rw [← h.out, drop_at hq, plc_kept hf hd hfn, List.append_assoc]; rfl
theorem pl_end (h : PlInv l0 now deep0 o q l deep O) (hq : o.length ≤ q) : O = placesF now l0 deep0 o := by
  rw [← h.out, List.drop_of_length_le hq]; simp [placesF]
end
end Go.Proofs.Ytbcpjdjlgmhohaa

/-
  Plain law: what is left without what is laid. Conditions: none.
-/
namespace Go.Proofs.Ytbcpjdjlgmhohaa
open Go.RowKit
set_option linter.unusedVariables false
set_option linter.unusedSimpArgs false

def NodeOk (s : Slt) : Prop := -10000 ≤ s.2.2.2 ∧ s.2.2.2 ≤ 10000
instance (s : Slt) : Decidable (NodeOk s) := by unfold NodeOk; infer_instance
noncomputable def sE (l : List Stp) (s : Slt) : Int := addE l s.2.1 s.2.2.1 (-s.2.2.2)
noncomputable def sR (l : List Stp) (s : Slt) : List Stp := addR l s.2.1 s.2.2.1 (-s.2.2.2)
open Classical in
noncomputable def leftV : List Stp → List Slt → List Stp × Int
  | l, [] => (l, 0)
  | l, s :: ss => if NodeOk s then (if sE l s = 0 then leftV (sR l s) ss else ([], sE l s)) else ([], 2)
open Classical in
noncomputable def leftA (l : List Stp) (ss : List Slt) : List Stp × Int := if Prof l then leftV l ss else ([], 2)
theorem left_bad {l : List Stp} {ss : List Slt} (h : ¬ Prof l) : leftA l ss = ([], 2) := if_neg h
theorem left_prof {l : List Stp} {ss : List Slt} (h : Prof l) : leftA l ss = leftV l ss := if_pos h
theorem leftV_node {l : List Stp} {s : Slt} {ss : List Slt} (h : ¬ NodeOk s) : leftV l (s :: ss) = ([], 2) := by rw [leftV, if_neg h]
theorem leftV_ok {l : List Stp} {s : Slt} {ss : List Slt} (h : NodeOk s) (h2 : sE l s = 0) : leftV l (s :: ss) = leftV (sR l s) ss := by rw [leftV, if_pos h, if_pos h2]
theorem leftV_err {l : List Stp} {s : Slt} {ss : List Slt} (h : NodeOk s) (h2 : ¬ sE l s = 0) : leftV l (s :: ss) = ([], sE l s) := by rw [leftV, if_pos h, if_neg h2]
theorem sE_ok {l : List Stp} {s : Slt} (h : sE l s = 0) (hn : l.length ≤ 19000) : Prof (sR l s) ∧ (sR l s).length ≤ l.length + 2 := by
  unfold sE at h
  unfold sR
  rcases add_cases l s.2.1 s.2.2.1 (-s.2.2.2) with h1 | h1 | h1
  · rw [h1.2.2.2]; exact ⟨addL_prof h1.1 h1.2.1 hn, addL_len⟩
  · rw [h1.2.2.1] at h; omega
  · rw [h1.2.1] at h; omega
theorem leftV_len (ss : List Slt) : ∀ l : List Stp, l.length + 2 * ss.length ≤ 19000 → (leftV l ss).1.length ≤ l.length + 2 * ss.length := by
  induction ss with
  | nil => intro l _; simp [leftV]
  | cons s ss ih =>
    intro l hl
    rw [List.length_cons] at hl ⊢
    by_cases h : NodeOk s
    · by_cases h2 : sE l s = 0
      · rw [leftV_ok h h2]
        have := (sE_ok h2 (by omega)).2
        have := ih (sR l s) (by omega)
        omega
      · rw [leftV_err h h2]; simp
    · rw [leftV_node h]; simp
/-- so far laid -/
structure LfInv (l0 : List Stp) (ss : List Slt) (q : Nat) (l : List Stp) : Prop where
  out : leftV l (ss.drop q) = leftV l0 ss
  prof : Prof l
  len : l.length ≤ l0.length + 2 * q
section
variable {l0 l : List Stp} {ss : List Slt} {q : Nat} {s : Slt}
theorem lf_start (h : Prof l0) : LfInv l0 ss 0 l0 := ⟨rfl, h, by omega⟩
theorem lf_next (h : LfInv l0 ss q l) (hs : ss[q]? = some s) (hn : NodeOk s) (he : sE l s = 0) (hl : l.length ≤ 19000) : LfInv l0 ss (q + 1) (sR l s) := by
  have hp := sE_ok he hl
  refine ⟨?_, hp.1, by have := h.len; omega⟩
  rw [← h.out, drop_at hs, leftV_ok hn he]
theorem lf_node (h : LfInv l0 ss q l) (hs : ss[q]? = some s) (hn : ¬ NodeOk s) : leftV l0 ss = ([], 2) := by rw [← h.out, drop_at hs, leftV_node hn]
theorem lf_err (h : LfInv l0 ss q l) (hs : ss[q]? = some s) (hn : NodeOk s) (he : ¬ sE l s = 0) : leftV l0 ss = ([], sE l s) := by rw [← h.out, drop_at hs, leftV_err hn he]
theorem lf_end (h : LfInv l0 ss q l) (hq : ss.length ≤ q) : leftV l0 ss = (l, 0) := by rw [← h.out, List.drop_of_length_le hq, leftV]
end
end Go.Proofs.Ytbcpjdjlgmhohaa

