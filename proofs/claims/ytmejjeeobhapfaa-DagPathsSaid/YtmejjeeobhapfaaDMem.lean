/-
  Words for memory that is written: all but some blocks is as it was; rows of numbers that lie apart; slices of slices. Conditions: none.
-/
import Derived.Test.YtmejjeeobhapfaaExt
import Derived.Deep.AppendLies
namespace Go.Proofs.Ytmejjeeobhapfaa
open Go.RowKit
set_option linter.unusedVariables false

/-- The blocks of S aside, all that was there is as it was. -/
structure Mod (S : List Nat) (w w' : World) : Prop where
  os : w'.os = w.os
  tape : w'.tape = w.tape
  output : w'.output = w.output
  size : w.heap.size ≤ w'.heap.size
  block : ∀ k, k < w.heap.size → k ∉ S → w'.heap[k]? = w.heap[k]?

section
variable {S T : List Nat} {a b c w w' : World}
theorem Mod.refl (S : List Nat) (w : World) : Mod S w w := ⟨rfl, rfl, rfl, Nat.le_refl _, fun _ _ _ => rfl⟩
theorem Mod.of_ext (h : Ext w w') : Mod S w w' := ⟨h.os, h.tape, h.output, h.size, fun k hk _ => h.block k hk⟩
theorem Mod.ext (h : Mod S w w') (hS : ∀ s ∈ S, w.heap.size ≤ s) : Ext w w' := ⟨h.os, h.tape, h.output, h.size, fun k hk => h.block k hk (fun hs => by have := hS k hs; omega)⟩
theorem Mod.trans (h : Mod S a b) (k : Mod T b c) (hT : ∀ t ∈ T, t ∈ S ∨ a.heap.size ≤ t) : Mod S a c :=
  ⟨k.os.trans h.os, k.tape.trans h.tape, k.output.trans h.output, Nat.le_trans h.size k.size, fun i hi hs => (k.block i (by have := h.size; omega) (fun ht => by
    rcases hT i ht with h1 | h1
    · exact hs h1
    · omega)).trans (h.block i hi hs)⟩
theorem Mod.more (h : Mod S a b) (hT : ∀ s ∈ S, s ∈ T) : Mod T a b := ⟨h.os, h.tape, h.output, h.size, fun k hk hs => h.block k hk (fun h1 => hs (hT k h1))⟩
theorem Mod.then_ext (h : Mod S a b) (k : Ext b c) : Mod S a c := h.trans (Mod.of_ext (S := []) k) (by simp)
theorem Mod.grown {row : Option Nat} (h : Mod S a b) (hg : b.grownBy c row) (hr : ∀ k, row = some k → k ∈ S ∨ a.heap.size ≤ k) : Mod S a c :=
  ⟨hg.os.trans h.os, hg.tape.trans h.tape, hg.output.trans h.output, Nat.le_trans h.size hg.size, fun i hi hs => (hg.block i (by have := h.size; omega) (fun e => by
    rcases hr i e.symm with h1 | h1
    · exact hs h1
    · omega)).trans (h.block i hi hs)⟩
theorem Mod.setCell (h : Mod S a b) {p : Addr} (hp : p.block ∈ S ∨ a.heap.size ≤ p.block) (u : Value) : Mod S a (b.setCell p u) :=
  ⟨h.os, h.tape, h.output, by simpa using h.size, fun i hi hs => (Below.heap_setCell _ _ _ _ (fun e => by
    rcases hp with h1 | h1
    · exact hs (e ▸ h1)
    · omega)).trans (h.block i hi hs)⟩
theorem Mod.alloc (h : Mod S a b) (o : Obj) : Mod S a (b.alloc o) :=
  ⟨h.os, h.tape, h.output, by have := h.size; simp; omega, fun i hi hs => (Below.heap_alloc _ _ _ (by have := h.size; omega)).trans (h.block i hi hs)⟩
theorem Mod.drew (h : Mod S a b) : Mod S a b.drew := ⟨h.os, h.tape, h.output, h.size, h.block⟩
theorem Mod.drewN (h : Mod S a b) (n : Nat) : Mod S a (b.drewN n) := ⟨h.os, h.tape, h.output, h.size, h.block⟩
theorem Mod.cell (h : Mod S w w') {p : Addr} (hp : p.block < w.heap.size) (hs : p.block ∉ S) : w'.cell? p = w.cell? p := World.cell?_of_block (w := w) (h.block p.block hp hs)
theorem Mod.cell' (h : Mod S w w') {p : Addr} {v : Value} (hc : w.cell? p = some v) (hs : p.block ∉ S) : w'.cell? p = some v := (h.cell (World.block_lt_of_cell? w p hc) hs).trans hc
theorem Mod.own (h : Mod S w w') {base : Nat} {e : TypeId} {size n : Nat} {v : Value} {xs : List Value} (k : w.ownsRow base e size v n xs) (hS : ∀ s, v.ownBlock = some s → s ∉ S) : w'.ownsRow base e size v n xs := by
  refine ⟨k.1, ?_⟩
  rcases k.2 with h1 | ⟨g, cap, cur, h1, h2, h3, h4⟩
  · exact .inl h1
  · exact .inr ⟨g, cap, cur, h1, h2, by rw [h.block g (Array.getElem?_eq_some_iff.1 h3).1 (hS g (by rw [h1]; rfl))]; exact h3, h4⟩
theorem Mod.obj (h : Mod S w w') {g : Nat} {o : Obj} (k : w.heap[g]? = some o) (hS : g ∉ S) : w'.heap[g]? = some o := by
  rw [h.block g (Array.getElem?_eq_some_iff.1 k).1 hS]; exact k
end

theorem ext_undrew {w w' : World} (h : Ext w.drew w') : Ext w w' := ⟨h.os, h.tape, h.output, h.size, h.block⟩
theorem flat_encI (l : List Int) : flat encI l = l.map (Value.int .i64) := by
  induction l with
  | nil => rfl
  | cons x l ih => simp only [flat, List.flatMap_cons, List.map_cons] at ih ⊢; rw [ih]; rfl

/-- A row of numbers of one's own. -/
abbrev OI (w : World) (base : Nat) (v : Value) (l : List Int) : Prop := w.ownsRow base 3 1 v l.length (flat encI l)
theorem OI.nil (w : World) (base : Nat) : OI w base (.slice none 0 0) [] := World.ownsRow_nil _ _ _ _
section
variable {w w' : World} {base : Nat} {v : Value} {l : List Int}
theorem OI.slice (h : OI w base v l) : ∃ A c, v = .slice A l.length c ∧ l.length ≤ c ∧ RdI w A l.length l := by
  obtain ⟨A, c, hv, hc, hr⟩ := RdL.of_own encI_len h rfl
  exact ⟨A, c, hv, hc, hr⟩
theorem OI.at_ (h : OI w base v l) {i : Nat} (hi : i < l.length) : ∃ g c, v = .slice (some ⟨g, 0, none⟩) l.length c ∧ l.length ≤ c ∧ base ≤ g ∧ g < w.heap.size ∧ v.ownBlock = some g ∧
    (∀ j x, l[j]? = some x → w.cell? ⟨g, j, none⟩ = some (.int .i64 x)) ∧ (∀ j, w.frozen? ⟨g, j, none⟩ = false) := by
  rcases h.2 with ⟨_, h0⟩ | ⟨g, cap, cur, rfl, hb, hg, hn, hm, hs, ht⟩
  · omega
  · refine ⟨g, cap, rfl, hn, hb, (Array.getElem?_eq_some_iff.1 hg).1, rfl, fun j x hx => ?_, fun j => h.frozenAt j⟩
    have hjl : j < l.length := (List.getElem?_eq_some_iff.1 hx).1
    rw [h.cellAt j (by omega), flat_encI, List.getElem?_map, hx]; rfl
theorem OI.cells2 {g n cap : Nat} (h : OI w base (.slice (some ⟨g, 0, none⟩) n cap) l) : (∀ j x, l[j]? = some x → w.cell? ⟨g, j, none⟩ = some (.int .i64 x)) ∧ ∀ j, w.frozen? ⟨g, j, none⟩ = false := by
  rcases h.2 with ⟨h0, _⟩ | ⟨g', cap', cur, hv, hb, hg, hn, hm, hs, ht⟩
  · cases h0
  · injection hv with hv hn' hc'
    subst hn'
    exact ⟨fun j x hx => by
      have hjl : j < l.length := (List.getElem?_eq_some_iff.1 hx).1
      rw [World.ownsRow.cellAt h j (by omega), flat_encI, List.getElem?_map, hx]; rfl, fun j => World.ownsRow.frozenAt h j⟩
theorem OI.obj (h : OI w base v l) {g : Nat} (hg : v.ownBlock = some g) : base ≤ g ∧ ∃ cur, w.heap[g]? = some (.cells cur 3) := by
  rcases h.2 with ⟨rfl, _⟩ | ⟨g', cap, cur, rfl, hb, hg', _⟩
  · cases hg
  · cases hg; exact ⟨hb, cur, hg'⟩
theorem OI.lt_ (h : OI w base v l) {g : Nat} (hg : v.ownBlock = some g) : g < w.heap.size := by
  obtain ⟨_, cur, hc⟩ := h.obj hg
  exact (Array.getElem?_eq_some_iff.1 hc).1
theorem OI.store {g cap : Nat} (h : OI w base (.slice (some ⟨g, 0, none⟩) l.length cap) l) (j : Nat) (x : Int) : OI (w.setCell ⟨g, j, none⟩ (.int .i64 x)) base (.slice (some ⟨g, 0, none⟩) l.length cap) (l.set j x) := by
  have := (World.ownsRow.stored h j (.int .i64 x)).1
  rw [flat_encI, ← List.map_set, ← flat_encI] at this
  simpa [OI] using this
theorem OI.store2 {g cap n : Nat} (h : OI w base (.slice (some ⟨g, 0, none⟩) n cap) l) (hl : l.length = n) (j : Nat) (x : Int) : OI (w.setCell ⟨g, j, none⟩ (.int .i64 x)) base (.slice (some ⟨g, 0, none⟩) n cap) (l.set j x) := by
  subst hl; exact h.store j x
theorem OI.n_ {n : Nat} (h : OI w base v l) (hl : l.length = n) : w.ownsRow base 3 1 v n (flat encI l) := by subst hl; exact h
theorem OI.of_n {n : Nat} (h : w.ownsRow base 3 1 v n (flat encI l)) (hl : l.length = n) : OI w base v l := by subst hl; exact h
theorem OI.take {A : Option Addr} {n c : Nat} (h : OI w base (.slice A n c) l) {k : Nat} (hk : k ≤ l.length) : OI w base (.slice A k c) (l.take k) := by
  have hlen : (l.take k).length = k := by simp; omega
  rcases h.2 with ⟨h0, h1⟩ | ⟨g, cap, cur, hv, hb, hg, hn, hm, hs, ht⟩
  · cases h0
    obtain rfl : l = [] := List.length_eq_zero_iff.1 h1
    obtain rfl : k = 0 := by simpa using hk
    exact World.ownsRow_nil _ _ _ _
  · cases hv
    refine ⟨by simp [flat_encI], .inr ⟨g, c, cur, by rw [hlen], hb, hg, by rw [hlen]; omega, hm, hs, ?_⟩⟩
    rw [hlen, flat_encI, List.map_take, ← flat_encI, ← ht, List.take_take]
    congr 1; omega
theorem OI.ext (h : OI w base v l) (hx : Ext w w') : OI w' base v l := Mod.own (Mod.of_ext (S := []) hx) h (by simp)
theorem OI.low (h : OI w base v l) {b : Nat} (hb : b ≤ base) : OI w b v l := by
  refine ⟨h.1, ?_⟩
  rcases h.2 with h1 | ⟨g, cap, cur, h1, h2, h3⟩
  · exact .inl h1
  · exact .inr ⟨g, cap, cur, h1, Nat.le_trans hb h2, h3⟩
theorem OI.of_push {g cap n : Nat} {x : Int} (h : w.ownsRow base 3 1 (.slice (some ⟨g, 0, none⟩) (n + 1) cap) (n + 1) (flat encI l ++ [.int .i64 x])) (hn : l.length = n) : OI w base (.slice (some ⟨g, 0, none⟩) (n + 1) cap) (l ++ [x]) := by
  show w.ownsRow _ _ _ _ (l ++ [x]).length (flat encI (l ++ [x]))
  rw [flat_append, List.length_append, hn]; exact h
end

/-- Two rows that do not lie in one block. -/
def Apart (a b : Value) : Prop := ∀ g, a.ownBlock = some g → b.ownBlock ≠ some g
theorem Apart.symm {a b : Value} (h : Apart a b) : Apart b a := fun g hb ha => h g ha hb
abbrev Row := Value × List Int
/-- Rows of one's own, one apart from the other. -/
def Sep (w : World) (base : Nat) (rs : List Row) : Prop := (∀ r ∈ rs, OI w base r.1 r.2) ∧ rs.Pairwise fun a b => Apart a.1 b.1
section
variable {w w' : World} {base : Nat} {rs rs' : List Row} {S : List Nat}
theorem Sep.perm (h : Sep w base rs) (p : rs.Perm rs') : Sep w base rs' := ⟨fun r hr => h.1 r (p.mem_iff.2 hr), h.2.perm p (fun h => h.symm)⟩
theorem Sep.keep (h : Sep w base rs) (hm : Mod S w w') (hS : ∀ s ∈ S, ∀ r ∈ rs, r.1.ownBlock ≠ some s) : Sep w' base rs :=
  ⟨fun r hr => hm.own (h.1 r hr) (fun s hs hs2 => hS s hs2 r hr hs), h.2⟩
theorem Sep.ext (h : Sep w base rs) (hx : Ext w w') : Sep w' base rs := h.keep (Mod.of_ext (S := []) hx) (by simp)
theorem Sep.at_ (h : Sep w base rs) {i : Nat} {r : Row} (hi : rs[i]? = some r) : OI w base r.1 r.2 := h.1 r (List.mem_of_getElem? hi)
theorem Sep.apart (h : Sep w base rs) {i j : Nat} {r s : Row} (hi : rs[i]? = some r) (hj : rs[j]? = some s) (hne : i ≠ j) : Apart r.1 s.1 := by
  obtain ⟨hi1, rfl⟩ := List.getElem?_eq_some_iff.1 hi
  obtain ⟨hj1, rfl⟩ := List.getElem?_eq_some_iff.1 hj
  rcases Nat.lt_or_gt_of_ne hne with h1 | h1
  · exact List.pairwise_iff_getElem.1 h.2 i j hi1 hj1 h1
  · exact (List.pairwise_iff_getElem.1 h.2 j i hj1 hi1 h1).symm
theorem Sep.upd (h : Sep w base rs) {i : Nat} {r : Row} (hi : rs[i]? = some r) (hm : Mod S w w') (hS : ∀ s ∈ S, r.1.ownBlock = some s ∨ ∀ r' ∈ rs, r'.1.ownBlock ≠ some s) {v' : Value} {l' : List Int}
    (ho : OI w' base v' l') (hv : ∀ g, v'.ownBlock = some g → r.1.ownBlock = some g ∨ w.heap.size ≤ g) : Sep w' base (rs.set i (v', l')) := by
  have hil := (List.getElem?_eq_some_iff.1 hi).1
  have other : ∀ j s, rs[j]? = some s → j ≠ i → OI w' base s.1 s.2 ∧ Apart s.1 v' := fun j s hj hne => by
    have hsm := List.mem_of_getElem? hj
    have hap := h.apart hj hi hne
    refine ⟨hm.own (h.at_ hj) (fun g hg hgS => ?_), fun g hg hg2 => ?_⟩
    · rcases hS g hgS with h1 | h1
      · exact hap g hg h1
      · exact h1 s hsm hg
    · rcases hv g hg2 with h1 | h1
      · exact hap g hg h1
      · have := (h.at_ hj).lt_ hg; omega
  constructor
  · intro s hs
    obtain ⟨j, hj⟩ := List.mem_iff_getElem?.1 hs
    rw [List.getElem?_set] at hj
    split at hj
    · rename_i hji; (try rw [if_pos hil] at hj); cases hj; exact ho
    · rename_i hji; exact (other j s hj (fun e => hji e.symm)).1
  · rw [List.pairwise_iff_getElem]
    intro j k hj hk hjk
    simp only [List.length_set] at hj hk
    rw [List.getElem_set, List.getElem_set]
    split
    · rename_i h1
      rw [if_neg (by omega)]
      exact (other k _ (List.getElem?_eq_getElem hk) (by omega)).2.symm
    · rename_i h1
      split
      · rename_i h2
        exact (other j _ (List.getElem?_eq_getElem hj) (by omega)).2
      · exact List.pairwise_iff_getElem.1 h.2 j k hj hk hjk
theorem Sep.left {ps bs : List Row} (h : Sep w base (ps ++ bs)) : Sep w base ps := ⟨fun r hr => h.1 r (List.mem_append.2 (.inl hr)), (List.pairwise_append.1 h.2).1⟩
theorem Sep.right {ps bs : List Row} (h : Sep w base (ps ++ bs)) : Sep w base bs := ⟨fun r hr => h.1 r (List.mem_append.2 (.inr hr)), (List.pairwise_append.1 h.2).2.1⟩
theorem Sep.snoc (h : Sep w base rs) {v : Value} {l : List Int} (ho : OI w base v l) (ha : ∀ r ∈ rs, Apart r.1 v) : Sep w base (rs ++ [(v, l)]) := by
  refine ⟨fun r hr => ?_, ?_⟩
  · rcases List.mem_append.1 hr with h1 | h1
    · exact h.1 r h1
    · simp at h1; subst h1; exact ho
  · rw [List.pairwise_append]
    exact ⟨h.2, by simp, fun a ha1 b hb1 => by simp at hb1; subst hb1; exact ha a ha1⟩
theorem Sep.mid {ps bs : List Row} (h : Sep w base (ps ++ bs)) {v : Value} {l : List Int} (ho : OI w base v l) (ha : ∀ r ∈ ps ++ bs, Apart r.1 v) : Sep w base ((ps ++ [(v, l)]) ++ bs) :=
  (h.snoc ho ha).perm (by rw [List.append_assoc, List.append_assoc]; exact List.Perm.append_left ps List.perm_append_comm)
theorem Sep.new {w0 : World} (h : Sep w base rs) (h0 : Sep w0 base rs) {v : Value} {l : List Int} (ho : OI w w0.heap.size v l) (hb : base ≤ w0.heap.size) : (∀ r ∈ rs, Apart r.1 v) ∧ OI w base v l :=
  ⟨fun r hr g hg hg2 => by have := (h0.1 r hr).lt_ hg; have := (ho.obj hg2).1; omega, ho.low hb⟩
end

/-- What an append of one number leaves. -/
theorem app1 {w w1 : World} {base n gg cap : Nat} {v : Value} {l : List Int} {x : Int} {o : Obj} (ho : OI w base v l) (hn : l.length = n)
    (hown : w1.ownsRow base 3 1 (.slice (some ⟨gg, 0, none⟩) (n + 1) cap) (n + 1) (flat encI l ++ [.int .i64 x])) (hg : (w.alloc o).grownBy w1 v.ownBlock) (hat : v.ownBlock = some gg ∨ gg = w.heap.size + 1) :
    OI w1 base (.slice (some ⟨gg, 0, none⟩) (n + 1) cap) (l ++ [x]) ∧ Mod v.ownBlock.toList w w1 ∧ (v.ownBlock = some gg ∨ w.heap.size ≤ gg) :=
  ⟨OI.of_push hown hn, ((Mod.refl _ w).alloc o).grown hg (fun k hk => by rw [hk]; simp), hat.elim .inl (fun h => .inr (by omega))⟩
theorem app1_n {w w1 : World} {base n gg cap : Nat} {v : Value} {l : List Int} {x : Int} {o : Obj} (ho : OI w base v l) (hn : l.length = n)
    (hown : w1.ownsRow base 3 1 (.slice (some ⟨gg, 0, none⟩) (n + 1) cap) (n + 1) (flat encI l ++ [.int .i64 x])) : ∀ j y, (l ++ [x])[j]? = some y → w1.cell? ⟨gg, j, none⟩ = some (.int .i64 y) := fun j y hj => by
  have h := OI.of_push hown hn
  have hl : (l ++ [x]).length = n + 1 := by simp [hn]
  rw [← hl] at h
  have hjl : j < (l ++ [x]).length := (List.getElem?_eq_some_iff.1 hj).1
  obtain ⟨g, c, hv, _, _, _, _, hc, _⟩ := h.at_ hjl
  injection hv with hv; injection hv with hv; injection hv with hv; subst hv
  exact hc j y hj

/-- A slice of slices of numbers reads as ls; all lies in blocks of which X holds. -/
def RdLL (X : Nat → Prop) (w : World) (A : Option Addr) (n : Nat) (ls : List (List Int)) : Prop :=
  ls.length = n ∧ ∀ (i : Nat) (l : List Int), ls[i]? = some l → ∃ b off A' c', A = some ⟨b, off, none⟩ ∧ b < w.heap.size ∧ X b ∧ w.cell? ⟨b, off + i, none⟩ = some (.slice A' l.length c') ∧ l.length ≤ c' ∧
    ∀ (j : Nat) (x : Int), l[j]? = some x → ∃ b' off', A' = some ⟨b', off', none⟩ ∧ b' < w.heap.size ∧ X b' ∧ w.cell? ⟨b', off' + j, none⟩ = some (.int .i64 x)
section
variable {X : Nat → Prop} {w w' : World} {A : Option Addr} {n : Nat} {ls : List (List Int)} {S : List Nat}
theorem RdLL.len (h : RdLL X w A n ls) : ls.length = n := h.1
theorem RdLL.mod (h : RdLL X w A n ls) (hm : Mod S w w') (hS : ∀ b, X b → b ∉ S) : RdLL X w' A n ls := by
  refine ⟨h.1, fun i l hl => ?_⟩
  obtain ⟨b, off, A', c', hA, hb, hX, hc, hlc, hr⟩ := h.2 i l hl
  refine ⟨b, off, A', c', hA, Nat.lt_of_lt_of_le hb hm.size, hX, (hm.cell hb (hS b hX)).trans hc, hlc, fun j x hx => ?_⟩
  obtain ⟨b', off', hA', hb', hX', hc'⟩ := hr j x hx
  exact ⟨b', off', hA', Nat.lt_of_lt_of_le hb' hm.size, hX', (hm.cell hb' (hS b' hX')).trans hc'⟩
theorem RdLL.ext (h : RdLL X w A n ls) (hx : Ext w w') : RdLL X w' A n ls := h.mod (Mod.of_ext (S := []) hx) (by simp)
theorem RdLL.all (h : RdLL X w A n ls) {Y : Nat → Prop} (hY : ∀ b, b < w.heap.size → X b → Y b) : RdLL Y w A n ls := by
  refine ⟨h.1, fun i l hl => ?_⟩
  obtain ⟨b, off, A', c', hA, hb, hX, hc, hlc, hr⟩ := h.2 i l hl
  refine ⟨b, off, A', c', hA, hb, hY b hb hX, hc, hlc, fun j x hx => ?_⟩
  obtain ⟨b', off', hA', hb', hX', hc'⟩ := hr j x hx
  exact ⟨b', off', hA', hb', hY b' hb' hX', hc'⟩
theorem RdLL.at_ (h : RdLL X w A n ls) {k : Nat} (hk : k < n) : ∃ b off A' c' l, A = some ⟨b, off, none⟩ ∧ b < w.heap.size ∧ ls[k]? = some l ∧ w.cell? ⟨b, off + k, none⟩ = some (.slice A' l.length c') ∧ l.length ≤ c' ∧ RdI w A' l.length l ∧ X b ∧
    ∀ (j : Nat) (x : Int), l[j]? = some x → ∃ b' off', A' = some ⟨b', off', none⟩ ∧ b' < w.heap.size ∧ X b' ∧ w.cell? ⟨b', off' + j, none⟩ = some (.int .i64 x) := by
  have hk' : k < ls.length := by have := h.1; omega
  obtain ⟨b, off, A', c', hA, hb, hX, hc, hlc, hr⟩ := h.2 k ls[k] (List.getElem?_eq_getElem hk')
  refine ⟨b, off, A', c', ls[k], hA, hb, List.getElem?_eq_getElem hk', hc, hlc, ⟨encI_len, rfl, by rw [flat_encI]; simp, ?_⟩, hX, hr⟩
  rcases Nat.eq_zero_or_pos ls[k].length with h0 | h0
  · exact .inl h0
  · obtain ⟨b', off', hA', hb', hX', hc'⟩ := hr 0 _ (List.getElem?_eq_getElem h0)
    refine .inr ⟨b', off', hA', hb', fun j u hu => ?_⟩
    rw [flat_encI, List.getElem?_map] at hu
    cases hx : ls[k][j]? with
    | none => rw [hx] at hu; cases hu
    | some x =>
      rw [hx] at hu; cases hu
      obtain ⟨b2, off2, hA2, _, _, hc2⟩ := hr j x hx
      rw [hA'] at hA2; cases hA2
      exact hc2
/-- rows of one's own, their slices in a row of one's own: that reads as their lists -/
theorem RdLL.of_sep {base b2 : Nat} {e : TypeId} {rs : List Row} {v : Value} (hs : Sep w base rs) (ho : w.ownsRow b2 e 1 v rs.length (rs.map (·.1))) (hX : ∀ g, v.ownBlock = some g → X g) (hX' : ∀ r ∈ rs, ∀ g, r.1.ownBlock = some g → X g) :
    ∃ A c, v = .slice A rs.length c ∧ rs.length ≤ c ∧ RdLL X w A rs.length (rs.map (·.2)) := by
  obtain ⟨A, c, rfl, hc, hr⟩ := Rd.own ho
  refine ⟨A, c, rfl, hc, by simp, fun i l hl => ?_⟩
  rw [List.getElem?_map] at hl
  cases hi : rs[i]? with
  | none => rw [hi] at hl; cases hl
  | some r =>
    rw [hi] at hl; cases hl
    have hil : i < rs.length := (List.getElem?_eq_some_iff.1 hi).1
    rcases hr.2 with h0 | ⟨b, off, hA, hb, hcell⟩
    · omega
    have hX1 : X b := by
      rcases ho.2 with ⟨h0, _⟩ | ⟨g, cap, cur, hv, hbg, _⟩
      · rw [hA] at h0; injection h0 with h0 _ _; cases h0
      · rw [hA] at hv; injection hv with hv _ _; injection hv with hv; injection hv with hv _ _; subst hv; exact hX _ (by rw [hA]; rfl)
    have hoi := hs.at_ hi
    obtain ⟨A', c', hv', hlc, hr'⟩ := hoi.slice
    refine ⟨b, off, A', c', hA, hb, hX1, ?_, hlc, fun j x hx => ?_⟩
    · exact hcell i _ (by rw [List.getElem?_map, hi]; simp [hv'])
    · have hj : j < r.2.length := (List.getElem?_eq_some_iff.1 hx).1
      obtain ⟨g, c2, hg, _, hbg, hgl, hob, hcl, _⟩ := hoi.at_ hj
      have hXg := hX' r (List.mem_of_getElem? hi) g hob
      rw [hv'] at hg; cases hg
      exact ⟨g, 0, rfl, hgl, hXg, by rw [Nat.zero_add]; exact hcl j x hx⟩
end
end Go.Proofs.Ytmejjeeobhapfaa
