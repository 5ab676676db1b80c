/-
  The way from one thing to another one, breadth first: plain. Conditions: none.
-/
import Derived.Test.YtmejjeeobhapfaaDKahn
namespace Go.Proofs.Ytmejjeeobhapfaa
open Go.RowKit
set_option linter.unusedVariables false
set_option linter.unusedSimpArgs false

/-- from w to u in k steps, each to one that the former waits for -/
def canK (ls : List (List Int)) (w : Nat) : Nat → Nat → Bool
  | 0, u => decide (u = w)
  | k + 1, u => (List.range ls.length).any fun x => canK ls w k x && decide ((u : Int) ∈ ls.getD x [])
theorem canK_succ {ls : List (List Int)} {w k u : Nat} : canK ls w (k + 1) u = true ↔ ∃ x, x < ls.length ∧ canK ls w k x = true ∧ (u : Int) ∈ ls.getD x [] := by
  rw [canK, List.any_eq_true]
  constructor
  · rintro ⟨x, hx, h⟩
    rw [Bool.and_eq_true, decide_eq_true_eq] at h
    exact ⟨x, by simpa using hx, h⟩
  · rintro ⟨x, hx, h⟩
    exact ⟨x, by simpa using hx, by rw [Bool.and_eq_true, decide_eq_true_eq]; exact h⟩
theorem getD_set' (F : List Int) (u v : Nat) (z : Int) (hu : u < F.length) : (F.set u z).getD v 0 = if u = v then z else F.getD v 0 := by
  by_cases h : u = v
  · subst h; rw [if_pos rfl, List.getD, List.getElem?_set_self hu]; rfl
  · rw [if_neg h, List.getD, List.getElem?_set_ne h, List.getD]
/-- the search: F how far each lies (-1: not yet found), T those whose own have not been looked at -/
structure Bfs (ls : List (List Int)) (w : Nat) (F T : List Int) : Prop where
  len : F.length = ls.length
  zero : F.getD w 0 = 0
  neg : ∀ u, u < ls.length → F.getD u 0 = -1 ∨ 0 ≤ F.getD u 0
  snd : ∀ u, u < ls.length → 0 ≤ F.getD u 0 → canK ls w (F.getD u 0).toNat u = true
  rg : ∀ x ∈ T, (0 ≤ x ∧ x < ls.length) ∧ 0 ≤ F.getD x.toNat 0
  srt : T.Pairwise fun a b => F.getD a.toNat 0 ≤ F.getD b.toNat 0
  top : ∀ u, u < ls.length → ∀ x ∈ T, F.getD u 0 ≤ F.getD x.toNat 0 + 1
  done : ∀ x : Nat, x < ls.length → 0 ≤ F.getD x 0 → (x : Int) ∈ T ∨ ∀ u ∈ ls.getD x [], 0 ≤ F.getD u.toNat 0 ∧ F.getD u.toNat 0 ≤ F.getD x 0 + 1
theorem Bfs.start {ls : List (List Int)} {w : Nat} (hw : w < ls.length) : Bfs ls w ((List.replicate ls.length (-1)).set w 0) [(w : Int)] := by
  have hg : ∀ u, u < ls.length → ((List.replicate ls.length (-1 : Int)).set w 0).getD u 0 = if w = u then 0 else -1 := fun u hu => by
    rw [getD_set' _ _ _ _ (by simpa using hw)]
    split
    · rfl
    · rw [List.getD, List.getElem?_replicate, if_pos hu]; rfl
  refine ⟨by simp, by rw [hg w hw, if_pos rfl], fun u hu => ?_, fun u hu h0 => ?_, fun x hx => ?_, by simp, fun u hu x hx => ?_, fun x hx h0 => ?_⟩
  · rw [hg u hu]; split <;> simp
  · rw [hg u hu] at h0 ⊢
    split at h0
    · rename_i h; subst h; simp [canK]
    · omega
  · obtain rfl : x = (w : Int) := by simpa using hx
    exact ⟨⟨by omega, by omega⟩, by rw [Int.toNat_natCast, hg w hw, if_pos rfl]; exact Int.le_refl _⟩
  · obtain rfl : x = (w : Int) := by simpa using hx
    rw [Int.toNat_natCast, hg w hw, if_pos rfl, hg u hu]; split <;> omega
  · rw [hg x hx] at h0
    split at h0
    · rename_i h; subst h; exact .inl (by simp)
    · omega
theorem Bfs.mark {ls : List (List Int)} {w : Nat} {F R : List Int} {X U : Nat} (b : Bfs ls w F ((X : Int) :: R)) (hw : w < ls.length) (hU : U < ls.length) (hin : (U : Int) ∈ ls.getD X []) (hneg : F.getD U 0 < 0) :
    Bfs ls w (F.set U (F.getD X 0 + 1)) ((X : Int) :: (R ++ [(U : Int)])) ∧ F.getD U 0 = -1 := by
  have hXr := b.rg (X : Int) (by simp)
  rw [Int.toNat_natCast] at hXr
  have hXn : X < ls.length := by omega
  have hXU : U ≠ X := fun e => by subst e; omega
  have hwU : U ≠ w := fun e => by subst e; have := b.zero; omega
  have hm1 : F.getD U 0 = -1 := by rcases b.neg U hU with h | h; exact h; omega
  have hg : ∀ v, (F.set U (F.getD X 0 + 1)).getD v 0 = if U = v then F.getD X 0 + 1 else F.getD v 0 := fun v => getD_set' _ _ _ _ (by rw [b.len]; exact hU)
  have hT : ∀ x ∈ (X : Int) :: R, U ≠ x.toNat := fun x hx e => by have := (b.rg x hx).2; rw [← e] at this; omega
  have htop : ∀ x ∈ (X : Int) :: R, F.getD x.toNat 0 ≤ F.getD X 0 + 1 := fun x hx => by
    have := b.top x.toNat (by have := (b.rg x hx).1; omega) (X : Int) (by simp); rwa [Int.toNat_natCast] at this
  have hsort : ∀ x ∈ (X : Int) :: R, F.getD X 0 ≤ F.getD x.toNat 0 := fun x hx => by
    rcases List.mem_cons.1 hx with rfl | hx
    · rw [Int.toNat_natCast]; exact Int.le_refl _
    · have := (List.pairwise_cons.1 b.srt).1 x hx; rwa [Int.toNat_natCast] at this
  have hmem : ∀ x, x ∈ (X : Int) :: (R ++ [(U : Int)]) ↔ x ∈ (X : Int) :: R ∨ x = (U : Int) := fun x => by simp [or_assoc]
  refine ⟨⟨by rw [List.length_set]; exact b.len, by rw [hg, if_neg hwU]; exact b.zero, fun u hu => ?_, fun u hu h0 => ?_, fun x hx => ?_, ?_, fun u hu x hx => ?_, fun x hx h0 => ?_⟩, hm1⟩
  · rw [hg]; split
    · exact .inr (by omega)
    · exact b.neg u hu
  · rw [hg] at h0 ⊢
    by_cases h : U = u
    · subst h
      rw [if_pos rfl, show (F.getD X 0 + 1).toNat = (F.getD X 0).toNat + 1 by omega]
      exact canK_succ.2 ⟨X, hXn, b.snd X hXn hXr.2, hin⟩
    · rw [if_neg h] at h0 ⊢; exact b.snd u hu h0
  · rcases (hmem x).1 hx with h | rfl
    · rw [hg, if_neg (hT x h)]; exact b.rg x h
    · rw [Int.toNat_natCast, hg, if_pos rfl]; exact ⟨⟨by omega, by omega⟩, by omega⟩
  · show ((X : Int) :: R ++ [(U : Int)]).Pairwise _
    rw [List.pairwise_append]
    refine ⟨List.Pairwise.imp_of_mem (fun {a c} ha hc h => ?_) b.srt, by simp, fun a ha c hc => ?_⟩
    · rw [hg, hg, if_neg (hT a ha), if_neg (hT c hc)]; exact h
    · obtain rfl : c = (U : Int) := by simpa using hc
      rw [Int.toNat_natCast, hg, hg, if_neg (hT a ha), if_pos rfl]; exact htop a ha
  · rcases (hmem x).1 hx with h | rfl
    · rw [hg, hg, if_neg (hT x h)]
      have h1 := hsort x h
      split
      · omega
      · exact b.top u hu x h
    · rw [Int.toNat_natCast, hg, hg, if_pos rfl]
      have h1 := b.top u hu (X : Int) (by simp)
      rw [Int.toNat_natCast] at h1
      split <;> omega
  · by_cases h : U = x
    · subst h; exact .inl ((hmem _).2 (.inr rfl))
    · rw [hg, if_neg h] at h0
      rcases b.done x hx h0 with h1 | h1
      · exact .inl ((hmem _).2 (.inl h1))
      · refine .inr (fun u hu => ?_)
        have h2 := h1 u hu
        rw [hg, hg, if_neg h, if_neg (fun e => by rw [← e] at h2; omega)]
        exact h2
theorem Bfs.drop {ls : List (List Int)} {w : Nat} {F R : List Int} {X : Nat} (b : Bfs ls w F ((X : Int) :: R)) (hp : ∀ u ∈ ls.getD X [], 0 ≤ F.getD u.toNat 0 ∧ F.getD u.toNat 0 ≤ F.getD X 0 + 1) : Bfs ls w F R :=
  ⟨b.len, b.zero, b.neg, b.snd, fun x hx => b.rg x (by simp [hx]), (List.pairwise_cons.1 b.srt).2, fun u hu x hx => b.top u hu x (by simp [hx]), fun x hx h0 => by
    rcases b.done x hx h0 with h | h
    · rcases List.mem_cons.1 h with h | h
      · obtain rfl : x = X := by omega
        exact .inr hp
      · exact .inl h
    · exact .inr h⟩
theorem Bfs.full {ls : List (List Int)} {w : Nat} {F : List Int} (b : Bfs ls w F []) (hr : inRg ls.length ls = true) (hw : w < ls.length) : ∀ k u, canK ls w k u = true → 0 ≤ F.getD u 0 ∧ F.getD u 0 ≤ k
  | 0, u, h => by
    obtain rfl : u = w := by simpa [canK] using h
    rw [b.zero]; simp
  | k + 1, u, h => by
    obtain ⟨x, hx, hc, hu⟩ := canK_succ.1 h
    have ih := b.full hr hw k x hc
    rcases b.done x hx ih.1 with h1 | h1
    · simp at h1
    · have := h1 _ hu
      rw [Int.toNat_natCast] at this
      omega
theorem canK_le {ls : List (List Int)} {o : List Int} (s : Stands ls o) (hr : inRg ls.length ls = true) {w : Nat} : ∀ k u, canK ls w k u = true → posO o u + k ≤ posO o w
  | 0, u, h => by
    obtain rfl : u = w := by simpa [canK] using h
    omega
  | k + 1, u, h => by
    obtain ⟨x, hx, hc, hu⟩ := canK_succ.1 h
    have ih := canK_le s hr k x hc
    have := s.edge_lt (v := x) (u := u) ⟨hx, by have := getD_rng hr x _ hu; omega, hu⟩
    omega
/-- the next one on the way to w, k steps left behind it -/
def stp (ls : List (List Int)) (w k v : Nat) : Nat := ((List.range ls.length).find? fun x => canK ls w k x && decide ((v : Int) ∈ ls.getD x [])).getD 0
def restP (ls : List (List Int)) (w : Nat) : Nat → Nat → List Int
  | 0, _ => []
  | k + 1, v => (stp ls w k v : Int) :: restP ls w k (stp ls w k v)
/-- the document's way -/
def pathT (ls : List (List Int)) (v w : Int) : List Int :=
  if (0 ≤ v ∧ v < ls.length) ∧ 0 ≤ w ∧ w < ls.length then
    match (List.range (ls.length + 1)).find? (fun k => canK ls w.toNat k v.toNat) with
    | some k => v :: restP ls w.toNat k v.toNat
    | none => []
  else []
theorem restP_len (ls : List (List Int)) (w : Nat) : ∀ k v, (restP ls w k v).length = k
  | 0, _ => rfl
  | k + 1, v => by rw [restP, List.length_cons, restP_len]
theorem find_range {n : Nat} {p : Nat → Bool} {x : Nat} (hx : x < n) (hp : p x = true) (hm : ∀ y, y < x → p y = false) : (List.range n).find? p = some x := by
  rw [List.find?_eq_some_iff_getElem]
  exact ⟨hp, x, by simpa using hx, by simp, fun j hj => by rw [List.getElem_range, hm j hj]; rfl⟩
theorem stp_eq {ls : List (List Int)} {w k v x : Nat} (hx : x < ls.length) (hc : canK ls w k x = true) (hv : (v : Int) ∈ ls.getD x []) (hm : ∀ y, y < x → ¬ (canK ls w k y = true ∧ (v : Int) ∈ ls.getD y [])) : stp ls w k v = x := by
  rw [stp, find_range hx (by rw [Bool.and_eq_true, decide_eq_true_eq]; exact ⟨hc, hv⟩) (fun y hy => by
    have := hm y hy
    rw [Bool.eq_false_iff, ne_eq, Bool.and_eq_true, decide_eq_true_eq]; exact this)]
  rfl
theorem stp_ok {ls : List (List Int)} {w k v : Nat} (h : canK ls w (k + 1) v = true) : stp ls w k v < ls.length ∧ canK ls w k (stp ls w k v) = true ∧ (v : Int) ∈ ls.getD (stp ls w k v) [] := by
  obtain ⟨x, hx, hc, hu⟩ := canK_succ.1 h
  have hs : ((List.range ls.length).find? fun x => canK ls w k x && decide ((v : Int) ∈ ls.getD x [])).isSome = true := by
    rw [List.find?_isSome]; exact ⟨x, by simpa using hx, by rw [Bool.and_eq_true, decide_eq_true_eq]; exact ⟨hc, hu⟩⟩
  obtain ⟨y, hy⟩ := Option.isSome_iff_exists.1 hs
  have e : stp ls w k v = y := by rw [stp, hy]; rfl
  have h1 := List.find?_some hy
  rw [Bool.and_eq_true, decide_eq_true_eq] at h1
  have h2 := List.mem_of_find?_eq_some hy
  rw [e]; exact ⟨by simpa using h2, h1.1, h1.2⟩
theorem stp_min {ls : List (List Int)} {w k v : Nat} {y : Nat} (hy : y < stp ls w k v) (h : canK ls w (k + 1) v = true) : ¬ (canK ls w k y = true ∧ (v : Int) ∈ ls.getD y []) := fun ⟨h1, h2⟩ => by
  have ho := stp_ok h
  have hyn : y < ls.length := by omega
  have hs : ((List.range ls.length).find? fun x => canK ls w k x && decide ((v : Int) ∈ ls.getD x [])) = some (stp ls w k v) := by
    have hs : ((List.range ls.length).find? fun x => canK ls w k x && decide ((v : Int) ∈ ls.getD x [])).isSome = true := by
      rw [List.find?_isSome]; exact ⟨y, by simpa using hyn, by rw [Bool.and_eq_true, decide_eq_true_eq]; exact ⟨h1, h2⟩⟩
    obtain ⟨z, hz⟩ := Option.isSome_iff_exists.1 hs
    rw [hz, stp, hz]; rfl
  rw [List.find?_eq_some_iff_getElem] at hs
  obtain ⟨_, i, hi, e, hm⟩ := hs
  rw [List.getElem_range] at e
  have := hm y (by omega)
  rw [List.getElem_range, Bool.not_eq_true', Bool.eq_false_iff, ne_eq, Bool.and_eq_true, decide_eq_true_eq] at this
  exact this ⟨h1, h2⟩
/-- how far those that wait for v lie: the program's test is the document's -/
theorem Bfs.near {ls : List (List Int)} {w : Nat} {F : List Int} (b : Bfs ls w F []) (hr : inRg ls.length ls = true) (hw : w < ls.length) {v x k : Nat} (hv : v < ls.length) (hF : F.getD v 0 = (k : Int) + 1) (hx : x < ls.length) (hin : (v : Int) ∈ ls.getD x []) :
    F.getD x 0 = (k : Int) ↔ canK ls w k x = true := by
  constructor
  · intro h
    have := b.snd x hx (by omega)
    rwa [h, Int.toNat_natCast] at this
  · intro h
    have h1 := b.full hr hw k x h
    have h2 := b.snd x hx h1.1
    have h3 := b.full hr hw ((F.getD x 0).toNat + 1) v (canK_succ.2 ⟨x, hx, h2, hin⟩)
    omega
theorem Bfs.path {ls : List (List Int)} {w : Nat} {F : List Int} (b : Bfs ls w F []) (hr : inRg ls.length ls = true) (hw : w < ls.length) {o : List Int} (s : Stands ls o) (ho : o.length = ls.length) {v : Nat} (hv : v < ls.length) :
    pathT ls v w = if F.getD v 0 < 0 then [] else (v : Int) :: restP ls w (F.getD v 0).toNat v := by
  rw [pathT, if_pos ⟨⟨by omega, by omega⟩, by omega, by omega⟩, Int.toNat_natCast, Int.toNat_natCast]
  by_cases h : F.getD v 0 < 0
  · rw [if_pos h]
    have : (List.range (ls.length + 1)).find? (fun k => canK ls w k v) = none := by
      rw [List.find?_eq_none]
      intro k _ hk
      have := b.full hr hw k v hk
      omega
    rw [this]
  · rw [if_neg h]
    have h1 := b.snd v hv (by omega)
    have h2 := canK_le s hr _ _ h1
    have h3 : posO o w < o.length := List.idxOf_lt_length_of_mem (s.all w hw)
    rw [find_range (x := (F.getD v 0).toNat) (by omega) h1 (fun y hy => by
      rw [Bool.eq_false_iff]; intro hc
      have := b.full hr hw y v hc
      omega)]
end Go.Proofs.Ytmejjeeobhapfaa
