/-
  Rows of yes and no, as the words for rows of numbers. Conditions: none.
-/
import Derived.Test.YtmejjeeobhapfaaDLev
namespace Go.Proofs.Ytmejjeeobhapfaa
open Go.RowKit
set_option linter.unusedVariables false
set_option linter.unusedSimpArgs false
abbrev RdV := RdL encB 1
abbrev RowB := Value × List Bool
theorem encB_len (x : Bool) : (encB x).length = 1 := rfl
theorem flat_encB (l : List Bool) : flat encB l = l.map Value.bool := by
  induction l with
  | nil => rfl
  | cons x l ih => simp only [flat, List.flatMap_cons, List.map_cons] at ih ⊢; rw [ih]; rfl
/-- A row of numbers of one's own. -/
abbrev OV (w : World) (base : Nat) (v : Value) (l : List Bool) : Prop := w.ownsRow base 4 1 v l.length (flat encB l)
theorem OV.nil (w : World) (base : Nat) : OV w base (.slice none 0 0) [] := World.ownsRow_nil _ _ _ _
section
variable {w w' : World} {base : Nat} {v : Value} {l : List Bool}
theorem OV.slice (h : OV w base v l) : ∃ A c, v = .slice A l.length c ∧ l.length ≤ c ∧ RdV w A l.length l := by
  obtain ⟨A, c, hv, hc, hr⟩ := RdL.of_own encB_len h rfl
  exact ⟨A, c, hv, hc, hr⟩
theorem OV.at_ (h : OV w base v l) {i : Nat} (hi : i < l.length) : ∃ g c, v = .slice (some ⟨g, 0, none⟩) l.length c ∧ l.length ≤ c ∧ base ≤ g ∧ g < w.heap.size ∧ v.ownBlock = some g ∧
    (∀ j x, l[j]? = some x → w.cell? ⟨g, j, none⟩ = some (.bool x)) ∧ (∀ j, w.frozen? ⟨g, j, none⟩ = false) := by
  rcases h.2 with ⟨_, h0⟩ | ⟨g, cap, cur, rfl, hb, hg, hn, hm, hs, ht⟩
  · omega
  · refine ⟨g, cap, rfl, hn, hb, (Array.getElem?_eq_some_iff.1 hg).1, rfl, fun j x hx => ?_, fun j => h.frozenAt j⟩
    have hjl : j < l.length := (List.getElem?_eq_some_iff.1 hx).1
    rw [h.cellAt j (by omega), flat_encB, List.getElem?_map, hx]; rfl
theorem OV.cells2 {g n cap : Nat} (h : OV w base (.slice (some ⟨g, 0, none⟩) n cap) l) : (∀ j x, l[j]? = some x → w.cell? ⟨g, j, none⟩ = some (.bool x)) ∧ ∀ j, w.frozen? ⟨g, j, none⟩ = false := by
  rcases h.2 with ⟨h0, _⟩ | ⟨g', cap', cur, hv, hb, hg, hn, hm, hs, ht⟩
  · cases h0
  · injection hv with hv hn' hc'
    subst hn'
    exact ⟨fun j x hx => by
      have hjl : j < l.length := (List.getElem?_eq_some_iff.1 hx).1
      rw [World.ownsRow.cellAt h j (by omega), flat_encB, List.getElem?_map, hx]; rfl, fun j => World.ownsRow.frozenAt h j⟩
theorem OV.obj (h : OV w base v l) {g : Nat} (hg : v.ownBlock = some g) : base ≤ g ∧ ∃ cur, w.heap[g]? = some (.cells cur 4) := by
  rcases h.2 with ⟨rfl, _⟩ | ⟨g', cap, cur, rfl, hb, hg', _⟩
  · cases hg
  · cases hg; exact ⟨hb, cur, hg'⟩
theorem OV.lt_ (h : OV w base v l) {g : Nat} (hg : v.ownBlock = some g) : g < w.heap.size := by
  obtain ⟨_, cur, hc⟩ := h.obj hg
  exact (Array.getElem?_eq_some_iff.1 hc).1
theorem OV.store {g cap : Nat} (h : OV w base (.slice (some ⟨g, 0, none⟩) l.length cap) l) (j : Nat) (x : Bool) : OV (w.setCell ⟨g, j, none⟩ (.bool x)) base (.slice (some ⟨g, 0, none⟩) l.length cap) (l.set j x) := by
  have := (World.ownsRow.stored h j (.bool x)).1
  rw [flat_encB, ← List.map_set, ← flat_encB] at this
  simpa [OV] using this
theorem OV.store2 {g cap n : Nat} (h : OV w base (.slice (some ⟨g, 0, none⟩) n cap) l) (hl : l.length = n) (j : Nat) (x : Bool) : OV (w.setCell ⟨g, j, none⟩ (.bool x)) base (.slice (some ⟨g, 0, none⟩) n cap) (l.set j x) := by
  subst hl; exact h.store j x
theorem OV.n_ {n : Nat} (h : OV w base v l) (hl : l.length = n) : w.ownsRow base 4 1 v n (flat encB l) := by subst hl; exact h
theorem OV.of_n {n : Nat} (h : w.ownsRow base 4 1 v n (flat encB l)) (hl : l.length = n) : OV w base v l := by subst hl; exact h
theorem OV.ext (h : OV w base v l) (hx : Ext w w') : OV w' base v l := Mod.own (Mod.of_ext (S := []) hx) h (by simp)
theorem OV.low (h : OV w base v l) {b : Nat} (hb : b ≤ base) : OV w b v l := by
  refine ⟨h.1, ?_⟩
  rcases h.2 with h1 | ⟨g, cap, cur, h1, h2, h3⟩
  · exact .inl h1
  · exact .inr ⟨g, cap, cur, h1, Nat.le_trans hb h2, h3⟩
end

/-- Rows of one's own, one apart from the other. -/
def SepB (w : World) (base : Nat) (rs : List RowB) : Prop := (∀ r ∈ rs, OV w base r.1 r.2) ∧ rs.Pairwise fun a b => Apart a.1 b.1
section
variable {w w' : World} {base : Nat} {rs rs' : List RowB} {S : List Nat}
theorem SepB.perm (h : SepB w base rs) (p : rs.Perm rs') : SepB w base rs' := ⟨fun r hr => h.1 r (p.mem_iff.2 hr), h.2.perm p (fun h => h.symm)⟩
theorem SepB.keep (h : SepB w base rs) (hm : Mod S w w') (hS : ∀ s ∈ S, ∀ r ∈ rs, r.1.ownBlock ≠ some s) : SepB w' base rs :=
  ⟨fun r hr => hm.own (h.1 r hr) (fun s hs hs2 => hS s hs2 r hr hs), h.2⟩
theorem SepB.ext (h : SepB w base rs) (hx : Ext w w') : SepB w' base rs := h.keep (Mod.of_ext (S := []) hx) (by simp)
theorem SepB.at_ (h : SepB w base rs) {i : Nat} {r : RowB} (hi : rs[i]? = some r) : OV w base r.1 r.2 := h.1 r (List.mem_of_getElem? hi)
theorem SepB.apart (h : SepB w base rs) {i j : Nat} {r s : RowB} (hi : rs[i]? = some r) (hj : rs[j]? = some s) (hne : i ≠ j) : Apart r.1 s.1 := by
  obtain ⟨hi1, rfl⟩ := List.getElem?_eq_some_iff.1 hi
  obtain ⟨hj1, rfl⟩ := List.getElem?_eq_some_iff.1 hj
  rcases Nat.lt_or_gt_of_ne hne with h1 | h1
  · exact List.pairwise_iff_getElem.1 h.2 i j hi1 hj1 h1
  · exact (List.pairwise_iff_getElem.1 h.2 j i hj1 hi1 h1).symm
theorem SepB.upd (h : SepB w base rs) {i : Nat} {r : RowB} (hi : rs[i]? = some r) (hm : Mod S w w') (hS : ∀ s ∈ S, r.1.ownBlock = some s ∨ ∀ r' ∈ rs, r'.1.ownBlock ≠ some s) {v' : Value} {l' : List Bool}
    (ho : OV w' base v' l') (hv : ∀ g, v'.ownBlock = some g → r.1.ownBlock = some g ∨ w.heap.size ≤ g) : SepB w' base (rs.set i (v', l')) := by
  have hil := (List.getElem?_eq_some_iff.1 hi).1
  have other : ∀ j s, rs[j]? = some s → j ≠ i → OV w' base s.1 s.2 ∧ Apart s.1 v' := fun j s hj hne => by
    have hsm := List.mem_of_getElem? hj
    have hap := h.apart hj hi hne
    refine ⟨hm.own (h.at_ hj) (fun g hg hgS => ?_), fun g hg hg2 => ?_⟩
    · rcases hS g hgS with h1 | h1
      · exact hap g hg h1
      · exact h1 s hsm hg
    · rcases hv g hg2 with h1 | h1
      · exact hap g hg h1
      · have := (h.at_ hj).lt_ hg; omega
  constructor
  · intro s hs
    obtain ⟨j, hj⟩ := List.mem_iff_getElem?.1 hs
    rw [List.getElem?_set] at hj
    split at hj
    · rename_i hji; (try rw [if_pos hil] at hj); cases hj; exact ho
    · rename_i hji; exact (other j s hj (fun e => hji e.symm)).1
  · rw [List.pairwise_iff_getElem]
    intro j k hj hk hjk
    simp only [List.length_set] at hj hk
    rw [List.getElem_set, List.getElem_set]
    split
    · rename_i h1
      rw [if_neg (by omega)]
      exact (other k _ (List.getElem?_eq_getElem hk) (by omega)).2.symm
    · rename_i h1
      split
      · rename_i h2
        exact (other j _ (List.getElem?_eq_getElem hj) (by omega)).2
      · exact List.pairwise_iff_getElem.1 h.2 j k hj hk hjk
theorem SepB.left {ps bs : List RowB} (h : SepB w base (ps ++ bs)) : SepB w base ps := ⟨fun r hr => h.1 r (List.mem_append.2 (.inl hr)), (List.pairwise_append.1 h.2).1⟩
theorem SepB.right {ps bs : List RowB} (h : SepB w base (ps ++ bs)) : SepB w base bs := ⟨fun r hr => h.1 r (List.mem_append.2 (.inr hr)), (List.pairwise_append.1 h.2).2.1⟩
theorem SepB.snoc (h : SepB w base rs) {v : Value} {l : List Bool} (ho : OV w base v l) (ha : ∀ r ∈ rs, Apart r.1 v) : SepB w base (rs ++ [(v, l)]) := by
  refine ⟨fun r hr => ?_, ?_⟩
  · rcases List.mem_append.1 hr with h1 | h1
    · exact h.1 r h1
    · simp at h1; subst h1; exact ho
  · rw [List.pairwise_append]
    exact ⟨h.2, by simp, fun a ha1 b hb1 => by simp at hb1; subst hb1; exact ha a ha1⟩
theorem SepB.mid {ps bs : List RowB} (h : SepB w base (ps ++ bs)) {v : Value} {l : List Bool} (ho : OV w base v l) (ha : ∀ r ∈ ps ++ bs, Apart r.1 v) : SepB w base ((ps ++ [(v, l)]) ++ bs) :=
  (h.snoc ho ha).perm (by rw [List.append_assoc, List.append_assoc]; exact List.Perm.append_left ps List.perm_append_comm)
theorem SepB.new {w0 : World} (h : SepB w base rs) (h0 : SepB w0 base rs) {v : Value} {l : List Bool} (ho : OV w w0.heap.size v l) (hb : base ≤ w0.heap.size) : (∀ r ∈ rs, Apart r.1 v) ∧ OV w base v l :=
  ⟨fun r hr g hg hg2 => by have := (h0.1 r hr).lt_ hg; have := (ho.obj hg2).1; omega, ho.low hb⟩
end

/-- A slice of slices of numbers reads as ls; all lies in blocks of which X holds. -/
def RdLLB (X : Nat → Prop) (w : World) (A : Option Addr) (n : Nat) (ls : List (List Bool)) : Prop :=
  ls.length = n ∧ ∀ (i : Nat) (l : List Bool), ls[i]? = some l → ∃ b off A' c', A = some ⟨b, off, none⟩ ∧ b < w.heap.size ∧ X b ∧ w.cell? ⟨b, off + i, none⟩ = some (.slice A' l.length c') ∧ l.length ≤ c' ∧
    ∀ (j : Nat) (x : Bool), l[j]? = some x → ∃ b' off', A' = some ⟨b', off', none⟩ ∧ b' < w.heap.size ∧ X b' ∧ w.cell? ⟨b', off' + j, none⟩ = some (.bool x)
section
variable {X : Nat → Prop} {w w' : World} {A : Option Addr} {n : Nat} {ls : List (List Bool)} {S : List Nat}
theorem RdLLB.len (h : RdLLB X w A n ls) : ls.length = n := h.1
theorem RdLLB.mod (h : RdLLB X w A n ls) (hm : Mod S w w') (hS : ∀ b, X b → b ∉ S) : RdLLB X w' A n ls := by
  refine ⟨h.1, fun i l hl => ?_⟩
  obtain ⟨b, off, A', c', hA, hb, hX, hc, hlc, hr⟩ := h.2 i l hl
  refine ⟨b, off, A', c', hA, Nat.lt_of_lt_of_le hb hm.size, hX, (hm.cell hb (hS b hX)).trans hc, hlc, fun j x hx => ?_⟩
  obtain ⟨b', off', hA', hb', hX', hc'⟩ := hr j x hx
  exact ⟨b', off', hA', Nat.lt_of_lt_of_le hb' hm.size, hX', (hm.cell hb' (hS b' hX')).trans hc'⟩
theorem RdLLB.ext (h : RdLLB X w A n ls) (hx : Ext w w') : RdLLB X w' A n ls := h.mod (Mod.of_ext (S := []) hx) (by simp)
theorem RdLLB.all (h : RdLLB X w A n ls) {Y : Nat → Prop} (hY : ∀ b, b < w.heap.size → X b → Y b) : RdLLB Y w A n ls := by
  refine ⟨h.1, fun i l hl => ?_⟩
  obtain ⟨b, off, A', c', hA, hb, hX, hc, hlc, hr⟩ := h.2 i l hl
  refine ⟨b, off, A', c', hA, hb, hY b hb hX, hc, hlc, fun j x hx => ?_⟩
  obtain ⟨b', off', hA', hb', hX', hc'⟩ := hr j x hx
  exact ⟨b', off', hA', hb', hY b' hb' hX', hc'⟩
theorem RdLLB.at_ (h : RdLLB X w A n ls) {k : Nat} (hk : k < n) : ∃ b off A' c' l, A = some ⟨b, off, none⟩ ∧ b < w.heap.size ∧ ls[k]? = some l ∧ w.cell? ⟨b, off + k, none⟩ = some (.slice A' l.length c') ∧ l.length ≤ c' ∧ RdV w A' l.length l ∧ X b ∧
    ∀ (j : Nat) (x : Bool), l[j]? = some x → ∃ b' off', A' = some ⟨b', off', none⟩ ∧ b' < w.heap.size ∧ X b' ∧ w.cell? ⟨b', off' + j, none⟩ = some (.bool x) := by
  have hk' : k < ls.length := by have := h.1; omega
  obtain ⟨b, off, A', c', hA, hb, hX, hc, hlc, hr⟩ := h.2 k ls[k] (List.getElem?_eq_getElem hk')
  refine ⟨b, off, A', c', ls[k], hA, hb, List.getElem?_eq_getElem hk', hc, hlc, ⟨encB_len, rfl, by rw [flat_encB]; simp, ?_⟩, hX, hr⟩
  rcases Nat.eq_zero_or_pos ls[k].length with h0 | h0
  · exact .inl h0
  · obtain ⟨b', off', hA', hb', hX', hc'⟩ := hr 0 _ (List.getElem?_eq_getElem h0)
    refine .inr ⟨b', off', hA', hb', fun j u hu => ?_⟩
    rw [flat_encB, List.getElem?_map] at hu
    cases hx : ls[k][j]? with
    | none => rw [hx] at hu; cases hu
    | some x =>
      rw [hx] at hu; cases hu
      obtain ⟨b2, off2, hA2, _, _, hc2⟩ := hr j x hx
      rw [hA'] at hA2; cases hA2
      exact hc2
/-- rows of one's own, their slices in a row of one's own: that reads as their lists -/
theorem RdLLB.of_sep {base b2 : Nat} {e : TypeId} {rs : List RowB} {v : Value} (hs : SepB w base rs) (ho : w.ownsRow b2 e 1 v rs.length (rs.map (·.1))) (hX : ∀ g, v.ownBlock = some g → X g) (hX' : ∀ r ∈ rs, ∀ g, r.1.ownBlock = some g → X g) :
    ∃ A c, v = .slice A rs.length c ∧ rs.length ≤ c ∧ RdLLB X w A rs.length (rs.map (·.2)) := by
  obtain ⟨A, c, rfl, hc, hr⟩ := Rd.own ho
  refine ⟨A, c, rfl, hc, by simp, fun i l hl => ?_⟩
  rw [List.getElem?_map] at hl
  cases hi : rs[i]? with
  | none => rw [hi] at hl; cases hl
  | some r =>
    rw [hi] at hl; cases hl
    have hil : i < rs.length := (List.getElem?_eq_some_iff.1 hi).1
    rcases hr.2 with h0 | ⟨b, off, hA, hb, hcell⟩
    · omega
    have hX1 : X b := by
      rcases ho.2 with ⟨h0, _⟩ | ⟨g, cap, cur, hv, hbg, _⟩
      · rw [hA] at h0; injection h0 with h0 _ _; cases h0
      · rw [hA] at hv; injection hv with hv _ _; injection hv with hv; injection hv with hv _ _; subst hv; exact hX _ (by rw [hA]; rfl)
    have hoi := hs.at_ hi
    obtain ⟨A', c', hv', hlc, hr'⟩ := hoi.slice
    refine ⟨b, off, A', c', hA, hb, hX1, ?_, hlc, fun j x hx => ?_⟩
    · exact hcell i _ (by rw [List.getElem?_map, hi]; simp [hv'])
    · have hj : j < r.2.length := (List.getElem?_eq_some_iff.1 hx).1
      obtain ⟨g, c2, hg, _, hbg, hgl, hob, hcl, _⟩ := hoi.at_ hj
      have hXg := hX' r (List.mem_of_getElem? hi) g hob
      rw [hv'] at hg; cases hg
      exact ⟨g, 0, rfl, hgl, hXg, by rw [Nat.zero_add]; exact hcl j x hx⟩
end

/-- The memory of a table of yes and no. -/
structure OutB (w wr : World) (vO : Value) (Or : List RowB) : Prop where
  sep : SepB wr w.heap.size Or
  oo : wr.ownsRow w.heap.size 39 1 vO Or.length (Or.map (·.1))
  ex : Ext w wr
section
variable {w wr w1 w2 : World} {Or : List RowB} {vO : Value}
theorem OutB.ext (h : OutB w wr vO Or) (hx : Ext wr w1) : OutB w w1 vO Or := ⟨h.sep.ext hx, (Mod.of_ext (S := []) hx).own h.oo (by simp), h.ex.trans' hx⟩
theorem OutB.add {k gg cap : Nat} {v : Value} {l : List Bool} (h : OutB w wr vO Or) (hk : Or.length = k) (ho : OV w1 wr.heap.size v l) (hx : Ext wr w1) (hm : Mod vO.ownBlock.toList w1 w2)
    (hown : w2.ownsRow w.heap.size 39 1 (.slice (some ⟨gg, 0, none⟩) (k + 1) cap) (k + 1) (Or.map (·.1) ++ [v])) : OutB w w2 (.slice (some ⟨gg, 0, none⟩) (k + 1) cap) (Or ++ [(v, l)]) := by
  subst hk
  have h1 := h.ext hx
  have hnew := SepB.new (w0 := wr) h1.sep h.sep ho h.ex.size
  have s1 := h1.sep.snoc hnew.2 hnew.1
  have hB : ∀ s ∈ vO.ownBlock.toList, vO.ownBlock = some s := fun s hs => by simpa using hs
  refine ⟨s1.keep hm (fun s hs r hr e => own_apart2 (s1.1 r hr) h1.oo (by decide) s e (hB s hs)), by rw [List.length_append, List.map_append]; exact hown, ((Mod.of_ext (S := vO.ownBlock.toList) h1.ex).trans hm (fun t ht => .inl ht)).ext (fun s hs => (own_obj h1.oo (hB s hs)).1)⟩
theorem map_fst_set {α β : Type} {l : List (α × β)} {i : Nat} {a : α} {b b' : β} (h : l[i]? = some (a, b)) : (l.set i (a, b')).map (·.1) = l.map (·.1) := by
  rw [List.map_set]
  apply List.ext_getElem?
  intro j
  rw [List.getElem?_set]
  split
  · rename_i hij; subst hij
    rw [List.getElem?_map, h]
    have := (List.getElem?_eq_some_iff.1 h).1
    simp [this]
  · rfl
theorem OutB.set {v u g n cap : Nat} {l : List Bool} (h : OutB w wr vO Or) (hv : Or[v]? = some (.slice (some ⟨g, 0, none⟩) n cap, l)) (hl : l.length = n) : OutB w (wr.setCell ⟨g, u, none⟩ (.bool true)) vO (Or.set v (.slice (some ⟨g, 0, none⟩) n cap, l.set u true)) := by
  have ho := h.sep.at_ hv
  have hm : Mod [g] wr (wr.setCell ⟨g, u, none⟩ (.bool true)) := (Mod.refl _ wr).setCell (.inl (by simp)) _
  refine ⟨h.sep.upd hv hm (fun s hs => .inl (by simp at hs; subst hs; rfl)) (ho.store2 hl u true) (fun s hs => .inl hs), ?_, h.ex.setCell (own_obj ho (g := g) rfl).1 _⟩
  rw [List.length_set, map_fst_set hv]
  exact hm.own h.oo (fun s hs hs2 => by simp at hs2; subst hs2; exact own_apart2 ho h.oo (by decide) s rfl hs)
def GivesMB (n : Nat) (rows : List (List Bool)) (w : World) (e : Ending) (w' : World) : Prop := ∃ A c, e = .returned (.slice A n c) ∧ RdLLB (fun _ => True) w' A n rows ∧ Ext w w'
theorem OutB.gives {n : Nat} (h : OutB w wr vO Or) (hn : Or.length = n) : GivesMB n (Or.map (·.2)) w (.returned vO) wr := by
  subst hn
  obtain ⟨A, c, rfl, _, hr⟩ := RdLLB.of_sep (X := fun _ => True) h.sep h.oo (fun _ _ => trivial) (fun _ _ _ _ => trivial)
  exact ⟨A, c, rfl, hr, h.ex⟩
end
end Go.Proofs.Ytmejjeeobhapfaa
