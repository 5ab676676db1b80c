/-
  The order stands, and there is one if there can be: plain. Conditions: none.
-/
import Derived.Test.YtmejjeeobhapfaaDFarP
namespace Go.Proofs.Ytmejjeeobhapfaa
open Go.RowKit
set_option linter.unusedVariables false
set_option linter.unusedSimpArgs false

theorem readyK_perm (bs : List (List Int)) : ∀ k, (readyK bs k).Perm (numsK (fun v => decide ((bs.getD v []).length = 0)) k)
  | 0 => by simp [readyK, numsK]
  | k + 1 => by
    rw [readyK, numsK_succ]
    by_cases h : (bs.getD k []).length = 0
    · rw [if_pos h, if_pos (decide_eq_true h)]
      exact (hpush_perm _ _).trans ((List.Perm.cons _ (readyK_perm bs k)).trans (List.perm_append_comm (l₁ := [(k : Int)])))
    · rw [if_neg h, if_neg (by simpa using h), List.append_nil]
      exact readyK_perm bs k
/-- what is still waited for -/
def cntL (bs : List (List Int)) (o : List Int) (i : Nat) : Nat := ((bs.getD i []).filter fun u => decide (u ∉ o)).length
theorem cnt_snoc {L o : List Int} {v : Int} (hL : L.Nodup) (hv : v ∉ o) : (L.filter fun u => decide (u ∉ o)).length = (L.filter fun u => decide (u ∉ o ++ [v])).length + if v ∈ L then 1 else 0 := by
  induction L with
  | nil => simp
  | cons x L ih =>
    have hx := List.nodup_cons.1 hL
    have ih := ih hx.2
    by_cases hxv : x = v
    · subst hxv
      rw [List.filter_cons_of_pos (by simpa using hv), List.filter_cons_of_neg (by simp), if_pos (List.mem_cons_self ..), List.length_cons, ih, if_neg hx.1]
    · have h1 : (v ∈ x :: L) ↔ v ∈ L := ⟨fun h => (List.mem_cons.1 h).elim (fun e => absurd e.symm hxv) id, List.mem_cons_of_mem _⟩
      by_cases hxo : x ∈ o
      · rw [List.filter_cons_of_neg (by simpa using hxo), List.filter_cons_of_neg (by simp [hxo]), ih]
        simp only [h1]
      · rw [List.filter_cons_of_pos (by simpa using hxo), List.filter_cons_of_pos (by simp [hxo, hxv]), List.length_cons, List.length_cons, ih]
        simp only [h1]; omega
theorem cnt_zero {L o : List Int} : (L.filter fun u => decide (u ∉ o)).length = 0 ↔ ∀ u ∈ L, u ∈ o := by
  rw [List.length_eq_zero_iff, List.filter_eq_nil_iff]
  simp
theorem decs_spec : ∀ (l : List Int) (s : List Int × List Int), l.Nodup → (∀ w ∈ l, 0 ≤ w ∧ w.toNat < s.1.length ∧ 1 ≤ s.1.getD w.toNat 0 ∧ s.1.getD w.toNat 0 ≤ 1000) →
    (∀ i : Nat, (l.foldl decOne s).1.getD i 0 = s.1.getD i 0 - if (i : Int) ∈ l then 1 else 0) ∧ (l.foldl decOne s).2.Perm (s.2 ++ l.filter fun w => decide (s.1.getD w.toNat 0 = 1))
  | [], s, _, _ => by simp
  | x :: l, s, hn, h => by
    have hx := List.nodup_cons.1 hn
    obtain ⟨h0, hxl, h1, h2⟩ := h x (List.mem_cons_self ..)
    have hw : IntKind.i64.wrap (s.1.getD x.toNat 0 - 1) = s.1.getD x.toNat 0 - 1 := IntWalk.i64_in _ (by omega)
    have hother : ∀ i : Nat, i ≠ x.toNat → (decOne s x).1.getD i 0 = s.1.getD i 0 := fun i hi => by
      simp only [decOne, List.getD]; rw [List.getElem?_set_ne (fun e => hi e.symm)]
    have hself : (decOne s x).1.getD x.toNat 0 = s.1.getD x.toNat 0 - 1 := by
      simp only [decOne]
      rw [List.getD, List.getElem?_set_self hxl, hw]; rfl
    have hne : ∀ w ∈ l, w.toNat ≠ x.toNat := fun w hwl e => by
      have := (h w (List.mem_cons_of_mem _ hwl)).1
      have : w = x := by omega
      subst this; exact hx.1 hwl
    obtain ⟨k1, k2⟩ := decs_spec l (decOne s x) hx.2 (fun w hwl => by
      obtain ⟨a, b, c, d⟩ := h w (List.mem_cons_of_mem _ hwl)
      rw [hother _ (hne w hwl)]
      exact ⟨a, by simpa [decOne] using b, c, d⟩)
    rw [List.foldl_cons]
    refine ⟨fun i => ?_, k2.trans ?_⟩
    · rw [k1]
      by_cases hi : (i : Int) = x
      · have hi' : i = x.toNat := by omega
        rw [hi', hself, if_neg (fun hm => hx.1 (by rw [show ((x.toNat : Nat) : Int) = x by omega] at hm; exact hm)), if_pos (by rw [show ((x.toNat : Nat) : Int) = x by omega]; exact List.mem_cons_self ..)]; omega
      · rw [hother i (by omega)]
        have : ((i : Int) ∈ x :: l) ↔ (i : Int) ∈ l := ⟨fun h => (List.mem_cons.1 h).elim (fun e => absurd e hi) id, List.mem_cons_of_mem _⟩
        simp only [this]
    · have hf : (l.filter fun w => decide ((decOne s x).1.getD w.toNat 0 = 1)) = l.filter fun w => decide (s.1.getD w.toNat 0 = 1) :=
        List.filter_congr (fun w hwl => by rw [hother _ (hne w hwl)])
      rw [hf]
      by_cases hz : s.1.getD x.toNat 0 = 1
      · rw [List.filter_cons_of_pos (by simpa using hz)]
        have : (decOne s x).2 = hpush s.2 x := by simp only [decOne]; rw [hw, if_pos (by omega)]
        rw [this]
        refine (List.Perm.append_right _ (hpush_perm _ _)).trans ?_
        exact List.perm_middle.symm
      · rw [List.filter_cons_of_neg (by simpa using hz)]
        have : (decOne s x).2 = s.2 := by simp only [decOne]; rw [hw, if_neg (by omega)]
        rw [this]
structure Kahn (bs : List (List Int)) (n : Nat) (s : SS) : Prop where
  nd : (s.2.2 ++ s.2.1).Nodup
  rg : Rng n (s.2.2 ++ s.2.1)
  wl : s.1.length = n
  wt : ∀ i, i < n → s.1.getD i 0 = (cntL bs s.2.2 i : Int)
  zr : ∀ i : Nat, i < n → ((i : Int) ∈ s.2.2 ++ s.2.1 ↔ cntL bs s.2.2 i = 0)
  tp : ∀ i v, s.2.2[i]? = some v → ∀ u ∈ bs.getD v.toNat [], u ∈ s.2.2.take i
structure GraphOk (bs hs : List (List Int)) (n : Nat) : Prop where
  bl : bs.length = n
  bn : ∀ i, (bs.getD i []).Nodup ∧ (bs.getD i []).length ≤ 1000
  hs : ∀ v, v < n → hs.getD v [] = numsK (fun u => decide ((v : Int) ∈ bs.getD u [])) n
theorem nodup_asc {l : List Int} (h : l.Pairwise (· < ·)) : l.Nodup := h.imp (fun h => by omega)
theorem kahn_start {bs hs : List (List Int)} {n : Nat} (g : GraphOk bs hs n) : Kahn bs n (startS bs) := by
  have hp := readyK_perm bs bs.length
  have hc : ∀ i, cntL bs [] i = (bs.getD i []).length := fun i => by simp [cntL]
  refine ⟨?_, ?_, ?_, fun i hi => ?_, fun i hi => ?_, fun i v h => by simp [startS] at h⟩
  · show ([] ++ readyK bs bs.length).Nodup
    rw [List.nil_append]; exact hp.nodup_iff.2 (nodup_asc (numsK_asc _ _))
  · show Rng n ([] ++ readyK bs bs.length)
    rw [List.nil_append]; exact (readyK_ok bs n bs.length (by rw [g.bl]; exact Nat.le_refl _)).1
  · show (lensK bs bs.length bs.length).length = n
    rw [lensK_len, g.bl]
  · show (lensK bs bs.length bs.length).getD i 0 = (cntL bs [] i : Int)
    rw [hc, lensK, List.getD, List.getElem?_map, List.getElem?_range (by rw [g.bl]; exact hi)]
    simp [g.bl, hi]
  · show (i : Int) ∈ [] ++ readyK bs bs.length ↔ cntL bs [] i = 0
    rw [List.nil_append, hp.mem_iff, numsK_mem, hc, g.bl]
    constructor
    · rintro ⟨j, hj, _, h⟩
      obtain rfl : i = j := by omega
      simpa using h
    · intro h; exact ⟨i, rfl, hi, by simpa using h⟩
theorem kahn_step {bs hs : List (List Int)} {n : Nat} (g : GraphOk bs hs n) {s : SS} (k : Kahn bs n s) : Kahn bs n (stepS hs s) := by
  rw [stepS]
  split
  · exact k
  rename_i hne
  obtain ⟨wait, hp, o⟩ := s
  simp only at hne ⊢
  obtain ⟨nd, rg, wl, wt, zr, tp⟩ := k
  simp only at nd rg wl wt zr tp
  cases hp with
  | nil => simp at hne
  | cons v t =>
    have hv0 : (v :: t).getD 0 0 = v := rfl
    rw [hv0]
    have hPp : (hpop (v :: t)).Perm t := (List.perm_cons v).1 (hpop_perm (x := v) (l := t))
    have hvr := rg v (by simp)
    have hvn : v.toNat < n := by omega
    have hvv : ((v.toNat : Nat) : Int) = v := by omega
    have hvo : v ∉ o := fun h => (List.nodup_append.1 nd).2.2 v h v (by simp) rfl
    have hl := g.hs v.toNat hvn
    rw [hvv] at hl
    obtain ⟨l, hle⟩ : ∃ l, hs.getD v.toNat [] = l := ⟨_, rfl⟩
    rw [hle] at hl ⊢
    have hlm : ∀ w : Int, w ∈ l ↔ (0 ≤ w ∧ w < n) ∧ v ∈ bs.getD w.toNat [] := fun w => by
      rw [hl, numsK_mem]
      constructor
      · rintro ⟨i, rfl, hi, h⟩; exact ⟨⟨by omega, by omega⟩, by simpa using h⟩
      · rintro ⟨⟨h1, h2⟩, h3⟩; exact ⟨w.toNat, by omega, by omega, by simpa using h3⟩
    have hln : l.Nodup := by rw [hl]; exact nodup_asc (numsK_asc _ _)
    have hcs : ∀ i, cntL bs o i = cntL bs (o ++ [v]) i + if v ∈ bs.getD i [] then 1 else 0 := fun i => cnt_snoc (g.bn i).1 hvo
    have hcb : ∀ i, cntL bs o i ≤ 1000 := fun i => Nat.le_trans (List.length_filter_le _ _) (g.bn i).2
    obtain ⟨d1, d2⟩ := decs_spec l (wait, hpop (v :: t)) hln (fun w hw => by
      obtain ⟨⟨h1, h2⟩, h3⟩ := (hlm w).1 hw
      have h4 := wt w.toNat (by omega)
      have h5 := hcs w.toNat
      rw [if_pos h3] at h5
      have h6 := hcb w.toNat
      simp only
      exact ⟨h1, by omega, by omega, by omega⟩)
    simp only at d1 d2
    obtain ⟨r, hr⟩ : ∃ r, l.foldl decOne (wait, hpop (v :: t)) = r := ⟨_, rfl⟩
    have hrl : r.1.length = n := by
      have := (decs_ok (n := n) l (wait, hpop (v :: t)) (fun w hw => ((hlm w).1 hw).1) (fun x hx => rg x (by
        have := hPp.mem_iff.1 hx; simp [this])) wl).2.1
      rwa [hr] at this
    rw [hr] at d1 d2 ⊢
    have hfil : ∀ w ∈ l.filter (fun w => decide (wait.getD w.toNat 0 = 1)), w ∉ o ++ v :: t := fun w hw hm => by
      obtain ⟨h1, h2⟩ := List.mem_filter.1 hw
      have h3 := ((hlm w).1 h1).1
      have h4 := (zr w.toNat (by omega)).1 (by rw [show ((w.toNat : Nat) : Int) = w by omega]; exact hm)
      have h5 := wt w.toNat (by omega)
      have h6 : wait.getD w.toNat 0 = 1 := by simpa using h2
      omega
    have hperm : ((o ++ [v]) ++ r.2).Perm ((o ++ v :: t) ++ l.filter (fun w => decide (wait.getD w.toNat 0 = 1))) := by
      rw [List.append_assoc, List.append_assoc]
      refine List.Perm.append_left o ?_
      show (v :: r.2).Perm (v :: t ++ _)
      rw [List.cons_append]
      exact List.Perm.cons v (d2.trans (List.Perm.append_right _ hPp))
    refine ⟨?_, ?_, hrl, fun i hi => ?_, fun i hi => ?_, fun i x hx => ?_⟩
    · refine hperm.nodup_iff.2 (List.nodup_append.2 ⟨nd, List.Pairwise.sublist List.filter_sublist hln, fun a ha b hb e => ?_⟩)
      subst e; exact hfil a hb ha
    · intro x hx
      rcases List.mem_append.1 (hperm.mem_iff.1 hx) with h | h
      · exact rg x h
      · exact ((hlm x).1 (List.mem_filter.1 h).1).1
    · simp only
      rw [d1 i, wt i hi, hcs i]
      have : ((i : Int) ∈ l) ↔ v ∈ bs.getD i [] := by rw [hlm]; simp [hi]
      by_cases h : v ∈ bs.getD i []
      · rw [if_pos h, if_pos (this.2 h)]; omega
      · rw [if_neg h, if_neg (fun hm => h (this.1 hm))]; omega
    · simp only
      rw [hperm.mem_iff, List.mem_append, zr i hi]
      have h1 := hcs i
      constructor
      · rintro (h | h)
        · omega
        · obtain ⟨h2, h3⟩ := List.mem_filter.1 h
          have h4 := ((hlm i).1 h2).2
          rw [Int.toNat_natCast] at h4 h3
          rw [if_pos h4] at h1
          have h5 : wait.getD i 0 = 1 := by simpa using h3
          have h6 := wt i hi
          omega
      · intro h
        rw [h] at h1
        by_cases h2 : v ∈ bs.getD i []
        · rw [if_pos h2] at h1
          right
          refine List.mem_filter.2 ⟨(hlm i).2 ⟨⟨by omega, by omega⟩, by rw [Int.toNat_natCast]; exact h2⟩, ?_⟩
          have := wt i hi
          simp only [Int.toNat_natCast, decide_eq_true_eq]; omega
        · rw [if_neg h2] at h1; exact .inl (by omega)
    · simp only at hx ⊢
      rcases Nat.lt_or_ge i o.length with h | h
      · rw [List.getElem?_append_left h] at hx
        intro u hu
        rw [List.take_append_of_le_length (by omega)]
        exact tp i x hx u hu
      · rw [List.getElem?_append_right h] at hx
        have hio : i = o.length := by
          have := (List.getElem?_eq_some_iff.1 hx).1; simp at this; omega
        subst hio
        rw [Nat.sub_self] at hx
        simp at hx
        subst hx
        intro u hu
        rw [List.take_append_of_le_length (Nat.le_refl _), List.take_length]
        have h2 := (zr v.toNat hvn).1 (by rw [hvv]; simp)
        exact cnt_zero.1 h2 u hu
theorem kahn_all {bs hs : List (List Int)} {n : Nat} (g : GraphOk bs hs n) : ∀ k, Kahn bs n (itS hs (startS bs) k)
  | 0 => kahn_start g
  | k + 1 => kahn_step g (kahn_all g k)
theorem it_len (hs : List (List Int)) (s : SS) (h0 : s.2.2.length = 0) : ∀ k, (itS hs s k).2.2.length = k ∨ (itS hs s k).2.1.length = 0
  | 0 => .inl h0
  | k + 1 => by
    rcases it_len hs s h0 k with h | h
    · rw [itS, stepS]
      split
      · rename_i h1; exact .inr h1
      · left; simp; omega
    · right; rw [itS, stepS, if_pos h]; exact h
/-- if things have ranks, lower ones ahead, there is an order of all -/
theorem kahn_full {bs hs : List (List Int)} {n : Nat} (g : GraphOk bs hs n) (rank : Nat → Nat) (hrk : ∀ v u : Nat, v < n → (u : Int) ∈ bs.getD v [] → rank u < rank v) (hb : ∀ i, Rng n (bs.getD i [])) : (ordS bs hs).length = n := by
  have k := kahn_all g n
  have hord : ordS bs hs = (itS hs (startS bs) n).2.2 := by rw [ordS, g.bl]
  rw [hord]
  rcases it_len hs (startS bs) rfl n with h | h
  · exact h
  have hh : (itS hs (startS bs) n).2.1 = [] := List.length_eq_zero_iff.1 h
  obtain ⟨nd, rg, wl, wt, zr, tp⟩ := k
  rw [hh, List.append_nil] at nd rg
  simp only [hh, List.append_nil] at zr
  have all : ∀ m v, v < n → rank v < m → (v : Int) ∈ (itS hs (startS bs) n).2.2 := by
    intro m
    induction m with
    | zero => intro v _ h; omega
    | succ m ih =>
      intro v hv hm
      refine (zr v hv).2 (cnt_zero.2 (fun u hu => ?_))
      have h1 := hb v u hu
      have h2 := ih u.toNat (by omega) (by
        have := hrk v u.toNat hv (by rw [show ((u.toNat : Nat) : Int) = u by omega]; exact hu); omega)
      rwa [show ((u.toNat : Nat) : Int) = u by omega] at h2
  have hperm : ((itS hs (startS bs) n).2.2).Perm (numsK (fun _ => true) n) := by
    refine (List.perm_ext_iff_of_nodup nd (nodup_asc (numsK_asc _ _))).2 (fun x => ?_)
    rw [numsK_mem]
    constructor
    · intro hx; have := rg x hx; exact ⟨x.toNat, by omega, by omega, rfl⟩
    · rintro ⟨i, rfl, hi, _⟩; exact all (rank i + 1) i hi (by omega)
  rw [hperm.length_eq, numsK, List.length_map, List.filter_eq_self.2 (by simp), List.length_range]
/-- where in the order a thing stands -/
def posO (o : List Int) (v : Nat) : Nat := o.idxOf (v : Int)
/-- THE ORDER: each once, all, each behind what it waits for. -/
structure Stands (ls : List (List Int)) (o : List Int) : Prop where
  nd : o.Nodup
  rg : Rng ls.length o
  all : ∀ v, v < ls.length → (v : Int) ∈ o
  tp : ∀ i v, o[i]? = some v → ∀ u ∈ ls.getD v.toNat [], u ∈ o.take i
theorem graphOk {ls : List (List Int)} (h : inRg ls.length ls = true) (ht : tot ls ≤ 100) : GraphOk (befG ls) (behG ls) ls.length :=
  ⟨befG_len ls, fun i => by
    rw [befG_getD]
    refine ⟨nodup_asc (tidyI_ok _).1, ?_⟩
    have h1 := tidyI_len (ls.getD i [])
    have h2 : (ls.getD i []).length ≤ tot ls := by
      rw [List.getD]
      cases hh : ls[i]? with
      | none => simp
      | some l => exact len_le_tot (List.mem_of_getElem? hh)
    omega, fun v hv => by
    rw [behG_at h hv]
    congr 1
    funext u
    rw [befG_getD, decide_eq_decide]
    exact ((tidyI_ok _).2 _).symm⟩
theorem perm_of_len {o : List Int} {n : Nat} (nd : o.Nodup) (rg : Rng n o) (hl : o.length = n) : ∀ v, v < n → (v : Int) ∈ o := by
  intro v hv
  refine Classical.byContradiction (fun hm => ?_)
  have h1 : ((v : Int) :: o).Nodup := List.nodup_cons.2 ⟨hm, nd⟩
  have h2 : ∀ x ∈ (v : Int) :: o, x ∈ numsK (fun _ => true) n := fun x hx => by
    rw [numsK_mem]
    rcases List.mem_cons.1 hx with h | h
    · exact ⟨v, h, hv, rfl⟩
    · have := rg x h; exact ⟨x.toNat, by omega, by omega, rfl⟩
  have hn2 : (numsK (fun _ => true) n).Nodup := nodup_asc (numsK_asc _ _)
  have hp : ((v : Int) :: o).Perm ((numsK (fun _ => true) n).filter fun x => decide (x ∈ (v : Int) :: o)) := by
    refine (List.perm_ext_iff_of_nodup h1 (List.Pairwise.sublist List.filter_sublist hn2)).2 (fun x => ?_)
    rw [List.mem_filter, decide_eq_true_eq]
    exact ⟨fun h => ⟨h2 x h, h⟩, fun h => h.2⟩
  have h3 := hp.length_eq
  have h4 := List.length_filter_le (fun x => decide (x ∈ (v : Int) :: o)) (numsK (fun _ => true) n)
  have h5 := numsK_len (fun _ => true) n
  rw [List.length_cons] at h3
  omega
theorem stands {ls : List (List Int)} (hok : okG ls) (ht : tot ls ≤ 100) : Stands ls (ordG ls) := by
  have g := graphOk hok.1 ht
  have k := kahn_all g ls.length
  have hord : ordG ls = (itS (behG ls) (startS (befG ls)) ls.length).2.2 := by rw [ordG, ordS, befG_len]
  obtain ⟨nd, rg, wl, wt, zr, tp⟩ := k
  rw [← hord] at nd rg tp
  have nd' := (List.nodup_append.1 nd).1
  have rg' : Rng ls.length (ordG ls) := fun x hx => rg x (List.mem_append.2 (.inl hx))
  refine ⟨nd', rg', perm_of_len nd' rg' hok.2, fun i v h u hu => ?_⟩
  refine tp i v h u ?_
  rw [befG_getD, (tidyI_ok _).2]; exact hu
theorem Stands.edge_lt {ls : List (List Int)} {o : List Int} (s : Stands ls o) {v u : Nat} (h : edge ls ls.length v u) : posO o u < posO o v := by
  have hv := s.all v h.1
  have h1 : posO o v < o.length := List.idxOf_lt_length_of_mem hv
  have h2 : o[posO o v]? = some (v : Int) := by rw [List.getElem?_eq_getElem h1]; exact congrArg some (List.getElem_idxOf h1)
  have h3 := s.tp _ _ h2 u (by rw [Int.toNat_natCast]; exact h.2.2)
  obtain ⟨j, hj, hju⟩ := List.getElem_of_mem h3
  have hjl : j < posO o v := by simp at hj; omega
  have hoj : o[j]? = some (u : Int) := by rw [List.getElem_take] at hju; rw [List.getElem?_eq_getElem (by omega), hju]
  have : posO o u ≤ j := by
    have h4 : o.idxOf (u : Int) ≤ j := by
      refine Nat.le_of_not_lt (fun hlt => ?_)
      have hjl2 : j < o.length := by omega
      have := List.not_of_lt_findIdx (p := (· == (u : Int))) (xs := o) (i := j) hlt
      rw [List.getElem?_eq_getElem hjl2] at hoj
      simp at hoj
      simp [hoj] at this
    exact h4
  omega
theorem Stands.way_lt {ls : List (List Int)} {o : List Int} (s : Stands ls o) {v u : Nat} (h : Way (edge ls ls.length) v u) : posO o u < posO o v := by
  induction h with
  | one e => exact s.edge_lt e
  | more e _ ih => have := s.edge_lt e; omega
theorem Stands.no_self {ls : List (List Int)} {o : List Int} (s : Stands ls o) (v : Nat) : ¬ Way (edge ls ls.length) v v := fun h => by have := s.way_lt h; omega
end Go.Proofs.Ytmejjeeobhapfaa
