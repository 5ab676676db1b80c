import Derived.Test.YtbcpjdjlgmhohaaRows
import Derived.WalkKit
import Derived.ProofKit
import Derived.Below
import Derived.Lib.Hide
import Derived.Deep.Draws
import Derived.Deep.QuietTactic
import Derived.BigQuiet
/-
  Words for memory: a slice that reads as a list of cells, and worlds that only grow. Conditions: none.
-/
namespace Go.Proofs.Ytbcpjdjlgmhohaa
open Go.RowKit

/-- The world only grows: all that was there is as it was. -/
abbrev Ext (w w' : World) : Prop := Below w.heap.size w w'

theorem Ext.rfl' {w : World} : Ext w w := Below.refl _ _
theorem Ext.trans' {a b c : World} (h : Ext a b) (k : Ext b c) : Ext a c := Below.trans h (Below.mono k h.size)
theorem Ext.drewN' {a w : World} (h : Ext a w) (n : Nat) : Ext a (w.drewN n) := ⟨h.os, h.tape, h.output, h.size, h.block⟩
theorem Ext.cell' {w w' : World} (h : Ext w w') {p : Addr} {v : Value} (hc : w.cell? p = some v) : w'.cell? p = some v :=
  (h.cell (World.block_lt_of_cell? w p hc)).trans hc
theorem Ext.size' {w w' : World} (h : Ext w w') : w.heap.size ≤ w'.heap.size := h.size
theorem below_drewN' {B : Nat} {a w : World} (h : Below B a w) (n : Nat) : Below B a (w.drewN n) := ⟨h.os, h.tape, h.output, h.size, h.block⟩
theorem below_ext {B : Nat} {a w w' : World} (h : Below B a w) (hB : B ≤ w.heap.size) (k : Ext w w') : Below B a w' := h.trans (k.mono hB)

/-- The slice (A, n) reads as the cells xs, size a piece. -/
def Rd (w : World) (size : Nat) (A : Option Addr) (n : Nat) (xs : List Value) : Prop :=
  xs.length = n * size ∧ (n = 0 ∨ ∃ b off, A = some ⟨b, off, none⟩ ∧ b < w.heap.size ∧ ∀ j u, xs[j]? = some u → w.cell? ⟨b, off + j, none⟩ = some u)

theorem Rd.nil' (w : World) (size : Nat) (A : Option Addr) : Rd w size A 0 [] := ⟨by simp, .inl rfl⟩
theorem Rd.keep {w w' : World} {size n : Nat} {A : Option Addr} {xs : List Value} (h : Rd w size A n xs) (hs : w.heap.size ≤ w'.heap.size)
    (hk : ∀ p : Addr, p.block < w.heap.size → w'.cell? p = w.cell? p) : Rd w' size A n xs := by
  refine ⟨h.1, ?_⟩
  rcases h.2 with h0 | ⟨b, off, hA, hb, hc⟩
  · exact .inl h0
  · exact .inr ⟨b, off, hA, by omega, fun j u hu => (hk _ hb).trans (hc j u hu)⟩
theorem Rd.ext {w w' : World} {size n : Nat} {A : Option Addr} {xs : List Value} (h : Rd w size A n xs) (k : Ext w w') : Rd w' size A n xs :=
  h.keep k.size fun _ hp => k.cell hp
theorem Rd.drew' {w : World} {size n : Nat} {A : Option Addr} {xs : List Value} (h : Rd w size A n xs) : Rd w.drew size A n xs := h
theorem Rd.drewN' {w : World} {size n : Nat} {A : Option Addr} {xs : List Value} (h : Rd w size A n xs) (k : Nat) : Rd (w.drewN k) size A n xs := h
theorem Rd.alloc' {w : World} {size n : Nat} {A : Option Addr} {xs : List Value} (h : Rd w size A n xs) (o : Obj) : Rd (w.alloc o) size A n xs :=
  h.ext ((Below.refl _ _).alloc (Nat.le_refl _) _)
/-- Of an own row. -/
theorem Rd.own {w : World} {base size n : Nat} {e : TypeId} {v : Value} {xs : List Value} (h : w.ownsRow base e size v n xs) :
    ∃ A c, v = .slice A n c ∧ n ≤ c ∧ Rd w size A n xs := by
  rcases h.2 with ⟨rfl, rfl⟩ | ⟨g, cap, cur, rfl, hb, hg, hn, hm, hs, ht⟩
  · exact ⟨none, 0, rfl, Nat.le_refl _, h.1, .inl rfl⟩
  · refine ⟨_, cap, rfl, hn, h.1, .inr ⟨g, 0, rfl, (Array.getElem?_eq_some_iff.1 hg).1, fun j u hu => ?_⟩⟩
    have := h.cells (g := g) rfl j u hu
    rwa [Addr.add_lit] at this

/-- A slice written out. -/
theorem own_lit (w : World) (base : Nat) (e : TypeId) (size n m g : Nat) (cs : Array Value) (xs : List Value) (hb : base ≤ w.heap.size) (hs : cs.size = n * size) (hn : n ≤ maxLen)
    (hm : m = n) (hg : g = w.heap.size) (hx : xs = cs.toList) :
    (w.alloc (.cells cs e)).ownsRow base e size (.slice (some ⟨g, 0, none⟩) n n) m xs := by
  subst hm; subst hg; subst hx
  exact ⟨by simpa using hs, .inr ⟨w.heap.size, m, cs, rfl, hb, heap_alloc_new w _, Nat.le_refl _, hn, hs, by rw [List.take_of_length_le]; simp [hs]⟩⟩
/-- cells of pieces, one behind the other -/
def flat {α : Type} (enc : α → List Value) (l : List α) : List Value := l.flatMap enc
theorem flat_nil {α : Type} (enc : α → List Value) : flat enc [] = [] := rfl
theorem flat_append {α : Type} (enc : α → List Value) (l m : List α) : flat enc (l ++ m) = flat enc l ++ flat enc m := by simp [flat]
theorem flat_one {α : Type} (enc : α → List Value) (x : α) : flat enc [x] = enc x := by simp [flat]
theorem flat_length {α : Type} {enc : α → List Value} {size : Nat} (he : ∀ x, (enc x).length = size) (l : List α) : (flat enc l).length = l.length * size := by
  induction l with
  | nil => simp [flat]
  | cons x l ih => simp only [flat, List.flatMap_cons, List.length_append, he, List.length_cons] at ih ⊢; rw [ih, Nat.add_mul]; omega
theorem flat_get {α : Type} {enc : α → List Value} {size : Nat} (he : ∀ x, (enc x).length = size) (l : List α) (i j : Nat) (hj : j < size) (x : α) (hx : l[i]? = some x) :
    (flat enc l)[i * size + j]? = (enc x)[j]? := by
  induction l generalizing i with
  | nil => simp at hx
  | cons y l ih =>
    cases i with
    | zero =>
      simp at hx; subst hx
      simp only [flat, List.flatMap_cons, Nat.zero_mul, Nat.zero_add]
      rw [List.getElem?_append_left (by rw [he]; exact hj)]
    | succ i =>
      simp only [flat, List.flatMap_cons]
      rw [List.getElem?_append_right (by rw [he, Nat.add_mul]; omega), he, show (i + 1) * size + j - size = i * size + j by rw [Nat.add_mul]; omega]
      exact ih i (by simpa using hx)

/-- The slice (A, n) reads as the list l. -/
def RdL {α : Type} (enc : α → List Value) (size : Nat) (w : World) (A : Option Addr) (n : Nat) (l : List α) : Prop :=
  (∀ x, (enc x).length = size) ∧ l.length = n ∧ Rd w size A n (flat enc l)
section
variable {α : Type} {enc : α → List Value} {size n : Nat} {w w' : World} {A : Option Addr} {l : List α}
theorem RdL.len (h : RdL enc size w A n l) : l.length = n := h.2.1
theorem RdL.ext (h : RdL enc size w A n l) (k : Ext w w') : RdL enc size w' A n l := ⟨h.1, h.2.1, h.2.2.ext k⟩
theorem RdL.drewN' (h : RdL enc size w A n l) (k : Nat) : RdL enc size (w.drewN k) A n l := h
theorem RdL.drew' (h : RdL enc size w A n l) : RdL enc size w.drew A n l := h
theorem RdL.alloc' (h : RdL enc size w A n l) (o : Obj) : RdL enc size (w.alloc o) A n l := ⟨h.1, h.2.1, h.2.2.alloc' o⟩
theorem RdL.keep (h : RdL enc size w A n l) (hs : w.heap.size ≤ w'.heap.size) (hk : ∀ p : Addr, p.block < w.heap.size → w'.cell? p = w.cell? p) : RdL enc size w' A n l :=
  ⟨h.1, h.2.1, h.2.2.keep hs hk⟩
/-- behind a Below that spares what was there -/
theorem RdL.below (h : RdL enc size w A n l) (k : Below w.heap.size w w') : RdL enc size w' A n l := h.ext k
theorem RdL.at_ (h : RdL enc size w A n l) {k : Nat} (hk : k < n) : ∃ b off x, A = some ⟨b, off, none⟩ ∧ b < w.heap.size ∧ l[k]? = some x ∧
    ∀ j, j < size → ∀ u, (enc x)[j]? = some u → w.cell? ⟨b, off + (k * size + j), none⟩ = some u := by
  obtain ⟨he, hl, _, h2⟩ := h
  rcases h2 with h0 | ⟨b, off, hA, hb, hc⟩
  · omega
  · refine ⟨b, off, l[k], hA, hb, List.getElem?_eq_getElem (by omega), fun j hj u hu => hc _ _ ?_⟩
    rw [flat_get he l k j hj _ (List.getElem?_eq_getElem (by omega))]; exact hu
theorem RdL.of_own {base : Nat} {e : TypeId} {v : Value} (he : ∀ x, (enc x).length = size) (h : w.ownsRow base e size v n (flat enc l)) (hl : l.length = n) :
    ∃ A c, v = .slice A n c ∧ n ≤ c ∧ RdL enc size w A n l := by
  obtain ⟨A, c, hv, hc, hr⟩ := Rd.own h
  exact ⟨A, c, hv, hc, he, hl, hr⟩
end

/-- two numbers a piece: steps, windows -/
def encP (p : Int × Int) : List Value := [.int .i64 p.1, .int .i64 p.2]
abbrev RdP := RdL encP 2
theorem encP_len (x : Int × Int) : (encP x).length = 2 := rfl
theorem RdP.cut {n : Nat} {w : World} {A : Option Addr} {l : List (Int × Int)} (h : RdP w A n l) {k : Nat} (hk : k < n) : ∃ b off a f, A = some ⟨b, off, none⟩ ∧ b < w.heap.size ∧ l[k]? = some (a, f) ∧
    w.cell? ⟨b, off + k * 2, none⟩ = some (.int .i64 a) ∧ w.cell? ⟨b, off + k * 2 + 1, none⟩ = some (.int .i64 f) := by
  obtain ⟨b, off, ⟨a, f⟩, hA, hb, hx, hc⟩ := RdL.at_ h hk
  exact ⟨b, off, a, f, hA, hb, hx, hc 0 (by omega) _ rfl, hc 1 (by omega) _ rfl⟩
/-- one number a piece -/
def encI (p : Int) : List Value := [.int .i64 p]
abbrev RdI := RdL encI 1
theorem encI_len (x : Int) : (encI x).length = 1 := rfl
theorem RdI.cut {n : Nat} {w : World} {A : Option Addr} {l : List Int} (h : RdI w A n l) {k : Nat} (hk : k < n) : ∃ b off a, A = some ⟨b, off, none⟩ ∧ b < w.heap.size ∧ l[k]? = some a ∧
    w.cell? ⟨b, off + k, none⟩ = some (.int .i64 a) := by
  obtain ⟨b, off, a, hA, hb, hx, hc⟩ := RdL.at_ h hk
  exact ⟨b, off, a, hA, hb, hx, by simpa using hc 0 (by omega) _ rfl⟩
/-- four numbers a piece: slots, jobs, events -/
def encQ (p : Int × Int × Int × Int) : List Value := [.int .i64 p.1, .int .i64 p.2.1, .int .i64 p.2.2.1, .int .i64 p.2.2.2]
abbrev RdQ := RdL encQ 4
theorem encQ_len (x : Int × Int × Int × Int) : (encQ x).length = 4 := rfl
theorem RdQ.cut {n : Nat} {w : World} {A : Option Addr} {l : List (Int × Int × Int × Int)} (h : RdQ w A n l) {k : Nat} (hk : k < n) : ∃ b off x y z u, A = some ⟨b, off, none⟩ ∧ b < w.heap.size ∧ l[k]? = some (x, y, z, u) ∧
    w.cell? ⟨b, off + k * 4, none⟩ = some (.int .i64 x) ∧ w.cell? ⟨b, off + k * 4 + 1, none⟩ = some (.int .i64 y) ∧ w.cell? ⟨b, off + k * 4 + 2, none⟩ = some (.int .i64 z) ∧ w.cell? ⟨b, off + k * 4 + 3, none⟩ = some (.int .i64 u) := by
  obtain ⟨b, off, ⟨x, y, z, u⟩, hA, hb, hx, hc⟩ := RdL.at_ h hk
  exact ⟨b, off, x, y, z, u, hA, hb, hx, hc 0 (by omega) _ rfl, hc 1 (by omega) _ rfl, hc 2 (by omega) _ rfl, hc 3 (by omega) _ rfl⟩

theorem quietL {P : Program} {f : FuncId} {args : Array Value} {w : World} {n : Nat} {v : Value}
    (h : Calls P f args (w.drewN n) fun e w' => e = .returned v ∧ w.drewN n = w') : Calls P f args (w.drewN n) fun e w'' => e = .returned v ∧ ∃ m, w'' = w.drewN m :=
  h.mono fun _ _ ⟨he, hm⟩ => ⟨he, n, hm.symm⟩
theorem quietA {P : Program} {f : FuncId} {args : Array Value} {w : World} {a n : Nat} {v : Value}
    (h : Calls P f args (w.drewN (a + n)) fun e w' => e = .returned v ∧ w.drewN (a + n) = w') : Calls P f args (w.drewN (a + n)) fun e w'' => e = .returned v ∧ ∃ m, w'' = w.drewN (a + m) :=
  h.mono fun _ _ ⟨he, hm⟩ => ⟨he, n, hm.symm⟩
theorem ret_i {a b : Int} (h : a = b) : Ending.returned (.int .i64 a) = .returned (.int .i64 b) := by rw [h]
theorem ret_b {a b : Bool} (h : a = b) : Ending.returned (.bool a) = .returned (.bool b) := by rw [h]
theorem take_snoc' {α : Type} {l : List α} {k : Nat} {x : α} (h : l[k]? = some x) : l.take (k + 1) = l.take k ++ [x] := by
  rw [List.take_add_one]; simp [h]
theorem take_all' {α : Type} {l : List α} {k n : Nat} (hl : l.length = n) (hk : n ≤ k) : l.take k = l := List.take_of_length_le (by omega)
end Go.Proofs.Ytbcpjdjlgmhohaa

/-
  Plain: what a profile of steps is, and what is free at a time. Conditions: none.
-/
namespace Go.Proofs.Ytbcpjdjlgmhohaa

/-- a time? -/
def isT (t : Int) : Bool := decide (0 ≤ t) && decide (t ≤ 1099511627775)
theorem isT_iff (t : Int) : isT t = true ↔ 0 ≤ t ∧ t ≤ 1099511627775 := by simp [isT]
theorem isT_f (t : Int) : isT t = false ↔ t < 0 ∨ 1099511627775 < t := by
  rw [← Bool.not_eq_true, isT_iff]; omega

abbrev Stp := Int × Int
/-- step i is right, seen from the one ahead of it -/
def okAt (l : List Stp) (i : Nat) : Prop :=
  ∀ a f, l[i]? = some (a, f) → (0 ≤ a ∧ a ≤ 1099511627775) ∧ 0 ≤ f ∧ f ≤ 10000 ∧ (i = 0 ∨ ∀ a' f', l[i - 1]? = some (a', f') → a' < a ∧ f ≠ f')
/-- a profile? -/
def Prof (l : List Stp) : Prop := 0 < l.length ∧ l.length ≤ 20000 ∧ (∀ a f, l[0]? = some (a, f) → a = 0) ∧ ∀ i, i < l.length → okAt l i
open Classical in
noncomputable def chk (l : List Stp) : Bool := decide (Prof l)
theorem chk_iff (l : List Stp) : chk l = true ↔ Prof l := by simp [chk]
theorem chk_f (l : List Stp) : chk l = false ↔ ¬ Prof l := by simp [chk]
noncomputable def chkE (l : List Stp) : Int := if chk l = true then 0 else 2
theorem chkE_t {l : List Stp} (h : Prof l) : chkE l = 0 := by simp [chkE, chk_iff, h]
theorem chkE_f {l : List Stp} (h : ¬ Prof l) : chkE l = 2 := by simp [chkE, chk_iff, h]
theorem chkE_cases (l : List Stp) : (Prof l ∧ chkE l = 0) ∨ (¬ Prof l ∧ chkE l = 2) := by
  by_cases h : Prof l
  · exact .inl ⟨h, chkE_t h⟩
  · exact .inr ⟨h, chkE_f h⟩

/-- what is free at a time, of steps that rise -/
def freeT (l : List Stp) (t : Int) : Int := l.foldl (fun n s => if s.1 ≤ t then s.2 else n) 0
theorem freeT_snoc (l : List Stp) (s : Stp) (t : Int) : freeT (l ++ [s]) t = if s.1 ≤ t then s.2 else freeT l t := by simp [freeT]
end Go.Proofs.Ytbcpjdjlgmhohaa

/-
  Plain: a profile's steps rise. Conditions: none.
-/
namespace Go.Proofs.Ytbcpjdjlgmhohaa

abbrev Asc (l : List Stp) : Prop := l.Pairwise fun x y => x.1 < y.1

theorem asc_of {l : List Stp} (h : ∀ i, i < l.length → okAt l i) : Asc l := by
  unfold Asc
  rw [List.pairwise_iff_getElem]
  intro i j hi hj hij
  have step : ∀ k (hk : k + 1 < l.length), (l[k]'(by omega)).1 < l[k + 1].1 := fun k hk => by
    have := (h (k + 1) hk l[k + 1].1 l[k + 1].2 (by rw [List.getElem?_eq_getElem hk])).2.2.2
    rcases this with h0 | h0
    · omega
    · exact (h0 (l[k]'(by omega)).1 (l[k]'(by omega)).2 (by rw [Nat.add_sub_cancel, List.getElem?_eq_getElem (by omega)])).1
  obtain ⟨d, rfl⟩ : ∃ d, j = i + 1 + d := ⟨j - i - 1, by omega⟩
  induction d with
  | zero => exact step i hj
  | succ d ih =>
    have h1 : l[i].1 < (l[i + 1 + d]'(by omega)).1 := ih (by omega) (by omega) step
    have h2 := step (i + 1 + d) (by omega)
    have e : i + 1 + (d + 1) = i + 1 + d + 1 := by omega
    simp only [e]
    omega
theorem Prof.asc {l : List Stp} (h : Prof l) : Asc l := asc_of h.2.2.2

theorem Prof.times {l : List Stp} (h : Prof l) : ∀ (i : Nat) (a f : Int), l[i]? = some (a, f) → 0 ≤ a ∧ a ≤ 1099511627775 := fun i a f hi =>
  (h.2.2.2 i (by have := (List.getElem?_eq_some_iff.1 hi).1; omega) a f hi).1
end Go.Proofs.Ytbcpjdjlgmhohaa

/-
  Plain law: what adjacent exchanges of elements that stand the wrong way round make; merging by rotation. Conditions: none.
-/
namespace Go.Proofs.Ytbcpjdjlgmhohaa

/-- an order by a comparison's sign -/
structure Order {α : Type} (cf : α → α → Int) : Prop where
  asym : ∀ x y, cf x y < 0 → ¬ cf y x < 0
  trans : ∀ x y z, ¬ cf y x < 0 → ¬ cf z y < 0 → ¬ cf z x < 0
section
variable {α : Type} {cf : α → α → Int}
/-- what exchanges of neighbours that stand the wrong way round come to -/
inductive Stab (cf : α → α → Int) : List α → List α → Prop
  | refl (l : List α) : Stab cf l l
  | step {l p s : List α} {x y : α} : Stab cf l (p ++ x :: y :: s) → cf y x < 0 → Stab cf l (p ++ y :: x :: s)
theorem Stab.trans {a b c : List α} (h : Stab cf a b) (k : Stab cf b c) : Stab cf a c := by
  induction k with
  | refl => exact h
  | step _ hc ih => exact .step ih hc
theorem Stab.in_ {a b : List α} (h : Stab cf a b) (p s : List α) : Stab cf (p ++ a ++ s) (p ++ b ++ s) := by
  induction h with
  | refl => exact .refl _
  | step _ hc ih =>
    rename_i p' s' x y _
    have := Stab.step (l := p ++ a ++ s) (p := p ++ p') (s := s' ++ s) (x := x) (y := y) (by simpa using ih) hc
    simpa using this
theorem Stab.perm {a b : List α} (h : Stab cf a b) : b.Perm a := by
  induction h with
  | refl => exact .refl _
  | step _ _ ih => exact (List.Perm.append_left _ (List.Perm.swap _ _ _)).trans ih
theorem Stab.len {a b : List α} (h : Stab cf a b) : b.length = a.length := h.perm.length_eq
/-- one element goes behind those that are less -/
theorem Stab.past (x : α) (v : List α) (h : ∀ y ∈ v, cf y x < 0) : Stab cf (x :: v) (v ++ [x]) := by
  suffices H : ∀ (p v : List α), (∀ y ∈ v, cf y x < 0) → Stab cf (p ++ x :: v) (p ++ (v ++ [x])) from by simpa using H [] v h
  intro p v
  induction v generalizing p with
  | nil => intro _; exact .refl _
  | cons y v ih =>
    intro h
    have h1 : Stab cf (p ++ x :: y :: v) (p ++ y :: x :: v) := .step (.refl _) (h y List.mem_cons_self)
    have h2 := ih (p ++ [y]) fun z hz => h z (List.mem_cons_of_mem _ hz)
    simp only [List.append_assoc, List.cons_append, List.nil_append] at h2 ⊢
    exact h1.trans h2
/-- a block goes behind another one of which all are less -/
theorem Stab.rot (u v : List α) (h : ∀ x ∈ u, ∀ y ∈ v, cf y x < 0) : Stab cf (u ++ v) (v ++ u) := by
  induction u with
  | nil => simpa using Stab.refl v
  | cons x u ih =>
    have h1 := (ih fun z hz => h z (List.mem_cons_of_mem _ hz)).in_ [x] []
    have h2 := (Stab.past (cf := cf) x v fun y hy => h x List.mem_cons_self y hy).in_ [] u
    simp only [List.append_nil, List.nil_append, List.cons_append, List.append_assoc] at h1 h2 ⊢
    exact h1.trans h2
/-- none stands behind one that is greater -/
def Srt (cf : α → α → Int) (l : List α) : Prop := l.Pairwise fun x y => ¬ cf y x < 0
theorem Order.irrefl (o : Order cf) (x : α) : ¬ cf x x < 0 := fun h => o.asym _ _ h h
/-- one class -/
def cls (cf : α → α → Int) (c z : α) : Bool := decide (¬ cf z c < 0) && decide (¬ cf c z < 0)
theorem cls_true {c z : α} : cls cf c z = true ↔ ¬ cf z c < 0 ∧ ¬ cf c z < 0 := by simp only [cls, Bool.and_eq_true, decide_eq_true_eq]
/-- what stays of one class -/
theorem Stab.filt {a b : List α} (o : Order cf) (h : Stab cf a b) (c : α) :
    b.filter (cls cf c) = a.filter (cls cf c) := by
  induction h with
  | refl => rfl
  | step _ hc ih =>
    rename_i p s x y _
    rw [← ih]
    have : ¬ (cls cf c x = true ∧ cls cf c y = true) := fun ⟨h1, h2⟩ => o.trans x c y (cls_true.1 h1).2 (cls_true.1 h2).1 hc
    simp only [List.filter_append, List.filter_cons]
    cases h1 : cls cf c x with
    | true =>
      cases h2 : cls cf c y with
      | true => exact absurd ⟨h1, h2⟩ this
      | false => simp
    | false => simp
/-- in order, and each class as it was: there is one such list -/
theorem srt_uniq (o : Order cf) : ∀ {a b : List α}, Srt cf a → Srt cf b →
    (∀ c, b.filter (cls cf c) = a.filter (cls cf c)) → b = a := by
  intro a
  induction a with
  | nil =>
    intro b _ _ h
    cases b with
    | nil => rfl
    | cons y b =>
      have := h y
      have e : cls cf y y = true := cls_true.2 ⟨o.irrefl y, o.irrefl y⟩
      simp only [List.filter_nil, List.filter_cons, e, if_true] at this
      cases this
  | cons x a ih =>
    intro b ha hb h
    cases b with
    | nil =>
      have := h x
      have e : cls cf x x = true := cls_true.2 ⟨o.irrefl x, o.irrefl x⟩
      simp only [List.filter_nil, List.filter_cons, e, if_true] at this
      cases this
    | cons y b =>
      have ha' := List.pairwise_cons.1 ha
      have hb' := List.pairwise_cons.1 hb
      have ex : cls cf x x = true := cls_true.2 ⟨o.irrefl x, o.irrefl x⟩
      have ey : cls cf y y = true := cls_true.2 ⟨o.irrefl y, o.irrefl y⟩
      have hx := h x
      have hy := h y
      have my : y ∈ (x :: a).filter (cls cf y) := by rw [← hy]; simp [ey]
      have mx : x ∈ (y :: b).filter (cls cf x) := by rw [hx]; simp [ex]
      have hyx : ¬ cf y x < 0 := by
        rcases List.mem_cons.1 (List.mem_filter.1 my).1 with e | hm
        · rw [e]; exact o.irrefl x
        · exact ha'.1 y hm
      have hxy : ¬ cf x y < 0 := by
        rcases List.mem_cons.1 (List.mem_filter.1 mx).1 with e | hm
        · rw [e]; exact o.irrefl y
        · exact hb'.1 x hm
      have exy : cls cf x y = true := cls_true.2 ⟨hyx, hxy⟩
      simp only [List.filter_cons, ex, exy, if_true] at hx
      injection hx with e1 e2
      subst e1
      congr 1
      refine ih ha'.2 hb'.2 fun c => ?_
      have hc := h c
      simp only [List.filter_cons] at hc
      split at hc
      · injection hc
      · exact hc
theorem Order.le_lt (o : Order cf) {x y z : α} (h : ¬ cf y x < 0) (k : cf y z < 0) : cf x z < 0 := Classical.byContradiction fun n => o.trans z x y n h k
theorem Order.lt_le (o : Order cf) {x y z : α} (h : cf y x < 0) (k : ¬ cf z x < 0) : cf y z < 0 := Classical.byContradiction fun n => o.trans x z y k n h
theorem srt_at {l : List α} (h : Srt cf l) {i j : Nat} {x y : α} (hi : l[i]? = some x) (hj : l[j]? = some y) (hij : i ≤ j) (o : Order cf) : ¬ cf y x < 0 := by
  obtain ⟨h1, rfl⟩ := List.getElem?_eq_some_iff.1 hi
  obtain ⟨h2, rfl⟩ := List.getElem?_eq_some_iff.1 hj
  rcases Nat.lt_or_ge i j with k | k
  · exact (List.pairwise_iff_getElem.1 h) i j h1 h2 k
  · obtain rfl : i = j := by omega
    exact o.irrefl _
theorem mem_take_at {l : List α} {n : Nat} {z : α} (h : z ∈ l.take n) : ∃ i, i < n ∧ l[i]? = some z := by
  obtain ⟨i, hi, rfl⟩ := List.mem_iff_getElem.1 h
  simp only [List.length_take] at hi
  exact ⟨i, by omega, by rw [List.getElem_take]; exact List.getElem?_eq_getElem _⟩
theorem mem_drop_at {l : List α} {n : Nat} {z : α} (h : z ∈ l.drop n) : ∃ i, n ≤ i ∧ l[i]? = some z := by
  obtain ⟨i, hi, rfl⟩ := List.mem_iff_getElem.1 h
  exact ⟨n + i, by omega, by rw [List.getElem_drop]; exact List.getElem?_eq_getElem _⟩
/-- one element into a row behind it: ahead of the first that is no less -/
theorem lo_take (o : Order cf) {v : List α} (hv : Srt cf v) {h : Nat} {y x : α} (hy : v[h]? = some y) (hc : cf y x < 0) : ∀ z ∈ v.take (h + 1), cf z x < 0 := fun z hz => by
  obtain ⟨i, hi, e⟩ := mem_take_at hz
  exact o.le_lt (srt_at hv e hy (by omega) o) hc
theorem lo_drop (o : Order cf) {v : List α} (hv : Srt cf v) {h : Nat} {y x : α} (hy : v[h]? = some y) (hc : ¬ cf y x < 0) : ∀ z ∈ v.drop h, ¬ cf z x < 0 := fun z hz => by
  obtain ⟨i, hi, e⟩ := mem_drop_at hz
  exact o.trans _ _ _ hc (srt_at hv hy e hi o)
theorem one_left (o : Order cf) {v : List α} (hv : Srt cf v) {t : Nat} {x : α} (h1 : ∀ z ∈ v.take t, cf z x < 0) (h2 : ∀ z ∈ v.drop t, ¬ cf z x < 0) : Stab cf ([x] ++ v) (v.take t ++ x :: v.drop t) ∧ Srt cf (v.take t ++ x :: v.drop t) := by
  constructor
  · have := (Stab.past (cf := cf) x (v.take t) h1).in_ [] (v.drop t)
    simpa [List.take_append_drop] using this
  · have e : Srt cf (v.take t ++ v.drop t) := by rw [List.take_append_drop]; exact hv
    have e' := List.pairwise_append.1 e
    exact List.pairwise_append.2 ⟨e'.1, List.pairwise_cons.2 ⟨h2, e'.2.1⟩, fun a ha b hb => by
      rcases List.mem_cons.1 hb with rfl | hb
      · exact o.asym _ _ (h1 a ha)
      · exact e'.2.2 a ha b hb⟩
/-- one element into a row ahead of it: behind the last that is no greater -/
theorem hi_take (o : Order cf) {u : List α} (hu : Srt cf u) {h : Nat} {x y : α} (hx : u[h]? = some x) (hc : ¬ cf y x < 0) : ∀ z ∈ u.take (h + 1), ¬ cf y z < 0 := fun z hz => by
  obtain ⟨i, hi, e⟩ := mem_take_at hz
  exact o.trans _ _ _ (srt_at hu e hx (by omega) o) hc
theorem hi_drop (o : Order cf) {u : List α} (hu : Srt cf u) {h : Nat} {x y : α} (hx : u[h]? = some x) (hc : cf y x < 0) : ∀ z ∈ u.drop h, cf y z < 0 := fun z hz => by
  obtain ⟨i, hi, e⟩ := mem_drop_at hz
  exact o.lt_le hc (srt_at hu hx e hi o)
theorem one_right (o : Order cf) {u : List α} (hu : Srt cf u) {t : Nat} {y : α} (h1 : ∀ z ∈ u.take t, ¬ cf y z < 0) (h2 : ∀ z ∈ u.drop t, cf y z < 0) : Stab cf (u ++ [y]) (u.take t ++ y :: u.drop t) ∧ Srt cf (u.take t ++ y :: u.drop t) := by
  constructor
  · have := (Stab.rot (cf := cf) (u.drop t) [y] fun x hx z hz => by rw [List.mem_singleton.1 hz]; exact h2 x hx).in_ (u.take t) []
    simp only [List.append_nil, ← List.append_assoc, List.take_append_drop] at this
    simpa using this
  · have e : Srt cf (u.take t ++ u.drop t) := by rw [List.take_append_drop]; exact hu
    have e' := List.pairwise_append.1 e
    exact List.pairwise_append.2 ⟨e'.1, List.pairwise_cons.2 ⟨fun z hz => o.asym _ _ (h2 z hz), e'.2.1⟩, fun a ha b hb => by
      rcases List.mem_cons.1 hb with rfl | hb
      · exact h1 a ha
      · exact e'.2.2 a ha b hb⟩
/-- in a merge: all of what goes to the left is less than what goes to the right -/
theorem cut_lt (o : Order cf) {u v : List α} (hu : Srt cf u) (hv : Srt cf v) {i j : Nat} {x y : α} (hx : u[i]? = some x) (hy : v[j]? = some y) (hc : cf y x < 0) : ∀ a ∈ u.drop i, ∀ b ∈ v.take (j + 1), cf b a < 0 := fun a ha b hb =>
  lo_take o hv hy (hi_drop o hu hx hc a ha) b hb
theorem cut_ge (o : Order cf) {u v : List α} (hu : Srt cf u) (hv : Srt cf v) {i j : Nat} {x y : α} (hx : u[i]? = some x) (hy : v[j]? = some y) (hc : ¬ cf y x < 0) : ∀ a ∈ u.take (i + 1), ∀ b ∈ v.drop j, ¬ cf b a < 0 := fun a ha b hb =>
  lo_drop o hv hy (hi_take o hu hx hc a ha) b hb
theorem sym_cut (o : Order cf) {u v : List α} (hu : Srt cf u) (hv : Srt cf v) (ti tj : Nat)
    (h1 : ti = u.length ∨ tj = 0 ∨ ∃ x y, u[ti]? = some x ∧ v[tj - 1]? = some y ∧ cf y x < 0) (h2 : ti = 0 ∨ tj = v.length ∨ ∃ x y, u[ti - 1]? = some x ∧ v[tj]? = some y ∧ ¬ cf y x < 0) :
    (∀ x ∈ u.drop ti, ∀ y ∈ v.take tj, cf y x < 0) ∧ ∀ x ∈ u.take ti, ∀ y ∈ v.drop tj, ¬ cf y x < 0 := by
  constructor
  · rcases h1 with h | h | ⟨x, y, hx, hy, hc⟩
    · subst h; simp
    · subst h; simp
    · rcases Nat.eq_zero_or_pos tj with h | h
      · subst h; simp
      · have := cut_lt o hu hv hx hy hc
        rwa [show tj - 1 + 1 = tj by omega] at this
  · rcases h2 with h | h | ⟨x, y, hx, hy, hc⟩
    · subst h; simp
    · subst h; simp
    · rcases Nat.eq_zero_or_pos ti with h | h
      · subst h; simp
      · have := cut_ge o hu hv hx hy hc
        rwa [show ti - 1 + 1 = ti by omega] at this
/-- THE MERGE's STEP: [u1 u2][v1 v2] with all of v1 less than all of u2, none of v2 less than one of u1: exchanged, both halves merged by themselves: it is in order. -/
theorem srt_halves (o : Order cf) {u1 u2 v1 v2 r1 r2 : List α} (hu : Srt cf (u1 ++ u2)) (hv : Srt cf (v1 ++ v2)) (h1 : ∀ x ∈ u2, ∀ y ∈ v1, cf y x < 0) (h2 : ∀ x ∈ u1, ∀ y ∈ v2, ¬ cf y x < 0)
    (s1 : Stab cf (u1 ++ v1) r1) (s2 : Stab cf (u2 ++ v2) r2) (t1 : Srt cf r1) (t2 : Srt cf r2) : Stab cf ((u1 ++ u2) ++ (v1 ++ v2)) (r1 ++ r2) ∧ Srt cf (r1 ++ r2) := by
  constructor
  · have a1 := (Stab.rot u2 v1 h1).in_ u1 v2
    have a2 := s1.in_ [] (u2 ++ v2)
    have a3 := s2.in_ r1 []
    simp only [List.append_nil, List.nil_append, List.append_assoc] at a1 a2 a3 ⊢
    exact (a1.trans a2).trans a3
  · refine List.pairwise_append.2 ⟨t1, t2, fun x hx y hy => ?_⟩
    have hu' := List.pairwise_append.1 hu
    have hv' := List.pairwise_append.1 hv
    rcases List.mem_append.1 (s1.perm.mem_iff.1 hx) with hx | hx <;> rcases List.mem_append.1 (s2.perm.mem_iff.1 hy) with hy | hy
    · exact hu'.2.2 x hx y hy
    · exact h2 x hx y hy
    · exact o.asym _ _ (h1 y hy x hx)
    · exact hv'.2.2 x hx y hy
theorem srt_take {l : List α} (h : Srt cf l) (n : Nat) : Srt cf (l.take n) := List.Pairwise.sublist (List.take_sublist _ _) h
theorem srt_drop {l : List α} (h : Srt cf l) (n : Nat) : Srt cf (l.drop n) := List.Pairwise.sublist (List.drop_sublist _ _) h
end
end Go.Proofs.Ytbcpjdjlgmhohaa

/-
  Plain law: times, rising, each once. Conditions: none.
-/
namespace Go.Proofs.Ytbcpjdjlgmhohaa
open Go.RowKit

def lmin (x : Int) (l : List Int) : Int := l.foldl min x
theorem fold_min_le (l : List Int) (x : Int) : l.foldl min x ≤ x ∧ ∀ y ∈ l, l.foldl min x ≤ y := by
  induction l generalizing x with
  | nil => simp
  | cons z l ih =>
    simp only [List.foldl_cons]
    have := ih (min x z)
    refine ⟨by omega, fun y hy => ?_⟩
    rcases List.mem_cons.1 hy with rfl | hy
    · omega
    · exact this.2 y hy
theorem fold_min_mem (l : List Int) (x : Int) : l.foldl min x ∈ x :: l := by
  induction l generalizing x with
  | nil => simp
  | cons z l ih =>
    simp only [List.foldl_cons]
    have := ih (min x z)
    rcases List.mem_cons.1 this with h | h
    · rw [h]
      rcases Int.le_total x z with h1 | h1
      · rw [Int.min_eq_left h1]; simp
      · rw [Int.min_eq_right h1]; simp
    · simp [h]
theorem filter_lt (l : List Int) (x : Int) (h : x ∈ l) : (l.filter (· != x)).length < l.length := by
  induction l with
  | nil => simp at h
  | cons y l ih =>
    by_cases e : y = x
    · subst e
      simp only [List.filter_cons, bne_self_eq_false, Bool.false_eq_true, if_false, List.length_cons]
      have := List.length_filter_le (· != y) l
      omega
    · have e' : (y != x) = true := by simpa using e
      simp only [List.filter_cons, e', if_true, List.length_cons]
      have := ih (by rcases List.mem_cons.1 h with h | h; exact absurd h.symm e; exact h)
      omega
theorem lmin_mem (l : List Int) (x : Int) : lmin x l ∈ x :: l := fold_min_mem l x
theorem lmin_le (l : List Int) (x : Int) : lmin x l ≤ x ∧ ∀ y ∈ l, lmin x l ≤ y := fold_min_le l x
/-- rising, each once -/
def rises : List Int → List Int
  | [] => []
  | x :: l => lmin x l :: rises ((x :: l).filter (· != lmin x l))
termination_by l => l.length
decreasing_by exact filter_lt _ _ (lmin_mem l x)
theorem rises_nil : rises [] = [] := by rw [rises]
theorem rises_cons (x : Int) (l : List Int) : rises (x :: l) = lmin x l :: rises ((x :: l).filter (· != lmin x l)) := by rw [rises]
theorem rises_mem (l : List Int) (y : Int) : y ∈ rises l ↔ y ∈ l := by
  generalize hn : l.length = n
  induction n using Nat.strongRecOn generalizing l with
  | ind n ih =>
    cases l with
    | nil => rw [rises_nil]
    | cons x l =>
      rw [rises_cons]
      have hm := lmin_mem l x
      have := ih _ (by rw [← hn]; exact filter_lt _ _ hm) ((x :: l).filter (· != lmin x l)) rfl
      rw [List.mem_cons, this, List.mem_filter]
      constructor
      · rintro (h | h)
        · rw [h]; exact hm
        · exact h.1
      · intro h
        by_cases e : y = lmin x l
        · exact .inl e
        · exact .inr ⟨h, by simpa using e⟩
theorem rises_asc (l : List Int) : (rises l).Pairwise (· < ·) := by
  generalize hn : l.length = n
  induction n using Nat.strongRecOn generalizing l with
  | ind n ih =>
    cases l with
    | nil => rw [rises_nil]; exact List.Pairwise.nil
    | cons x l =>
      rw [rises_cons]
      refine List.pairwise_cons.2 ⟨fun y hy => ?_, ih _ (by rw [← hn]; exact filter_lt _ _ (lmin_mem l x)) _ rfl⟩
      rw [rises_mem, List.mem_filter] at hy
      have h1 := lmin_le l x
      have h2 : y ≠ lmin x l := by simpa using hy.2
      rcases List.mem_cons.1 hy.1 with h | h
      · have := h1.1; omega
      · have := h1.2 y h; omega
end Go.Proofs.Ytbcpjdjlgmhohaa

/-
  Plain law: steps that rise, none as the one ahead, are told by what is free at each time. Conditions: none.
-/
namespace Go.Proofs.Ytbcpjdjlgmhohaa
open Go.RowKit

def freeG (n : Int) (l : List Stp) (t : Int) : Int := l.foldl (fun n s => if s.1 ≤ t then s.2 else n) n
theorem freeT_G (l : List Stp) (t : Int) : freeT l t = freeG 0 l t := rfl
theorem freeG_cons (n : Int) (x : Stp) (l : List Stp) (t : Int) : freeG n (x :: l) t = freeG (if x.1 ≤ t then x.2 else n) l t := rfl
theorem freeG_append (n : Int) (l m : List Stp) (t : Int) : freeG n (l ++ m) t = freeG (freeG n l t) m t := by unfold freeG; rw [List.foldl_append]
theorem freeG_far (l : List Stp) (t n : Int) (h : ∀ s ∈ l, t < s.1) : freeG n l t = n := by
  induction l generalizing n with
  | nil => rfl
  | cons x l ih =>
    rw [freeG_cons, if_neg (by have := h x List.mem_cons_self; omega)]
    exact ih n fun s hs => h s (List.mem_cons_of_mem _ hs)
theorem freeG_congr (l : List Stp) (t u n : Int) (h : ∀ s ∈ l, s.1 ≤ t ↔ s.1 ≤ u) : freeG n l t = freeG n l u := by
  induction l generalizing n with
  | nil => rfl
  | cons x l ih =>
    rw [freeG_cons, freeG_cons, ih _ fun s hs => h s (List.mem_cons_of_mem _ hs)]
    have := h x List.mem_cons_self
    by_cases hx : x.1 ≤ t
    · rw [if_pos hx, if_pos (this.1 hx)]
    · rw [if_neg hx, if_neg fun k => hx (this.2 k)]
theorem freeT_congr (l : List Stp) (t u : Int) (h : ∀ s ∈ l, s.1 ≤ t ↔ s.1 ≤ u) : freeT l t = freeT l u := freeG_congr l t u 0 h
/-- the last one that is no later -/
theorem freeG_last {l : List Stp} (ha : Asc l) {τ v t : Int} (hm : (τ, v) ∈ l) (hτ : τ ≤ t) (hl : ∀ s ∈ l, s.1 ≤ t → s.1 ≤ τ) (n : Int) : freeG n l t = v := by
  induction l generalizing n with
  | nil => simp at hm
  | cons x l ih =>
    rw [freeG_cons]
    have hc := List.pairwise_cons.1 ha
    rcases List.mem_cons.1 hm with h | h
    · subst h
      rw [if_pos hτ]
      refine freeG_far _ _ _ fun s hs => ?_
      have h1 : τ < s.1 := hc.1 s hs
      rcases Int.lt_or_le t s.1 with h2 | h2
      · exact h2
      · have := hl s (List.mem_cons_of_mem _ hs) h2; omega
    · exact ih hc.2 h (fun s hs => hl s (List.mem_cons_of_mem _ hs)) _
theorem freeT_last {l : List Stp} (ha : Asc l) {τ v t : Int} (hm : (τ, v) ∈ l) (hτ : τ ≤ t) (hl : ∀ s ∈ l, s.1 ≤ t → s.1 ≤ τ) : freeT l t = v := freeG_last ha hm hτ hl 0
theorem freeT_at {l : List Stp} (ha : Asc l) {τ v : Int} (hm : (τ, v) ∈ l) : freeT l τ = v := freeT_last ha hm (Int.le_refl _) fun _ _ h => h

/-- rising, none as the one ahead -/
def Norm : List Stp → Prop
  | [] => True
  | [_] => True
  | x :: y :: l => x.1 < y.1 ∧ x.2 ≠ y.2 ∧ Norm (y :: l)
theorem Norm.tail {x : Stp} {l : List Stp} (h : Norm (x :: l)) : Norm l := by
  cases l with
  | nil => trivial
  | cons y l => exact h.2.2
theorem Norm.asc {l : List Stp} (h : Norm l) : Asc l := by
  induction l with
  | nil => exact List.Pairwise.nil
  | cons x l ih =>
    have ht := ih h.tail
    refine List.pairwise_cons.2 ⟨fun s hs => ?_, ht⟩
    cases l with
    | nil => simp at hs
    | cons y l =>
      have h1 := h.1
      rcases List.mem_cons.1 hs with rfl | hs
      · exact h1
      · have := (List.pairwise_cons.1 ht).1 s hs; omega
theorem norm_ext (l m : List Stp) (hl : Norm l) (hm : Norm m) (x y : Stp) (hx : l.head? = some x) (hy : m.head? = some y) (hxy : x.1 = y.1) (n : Int)
    (h : ∀ t, x.1 ≤ t → freeG n l t = freeG n m t) : l = m := by
  induction l generalizing m x y n with
  | nil => simp at hx
  | cons a l ih =>
    cases m with
    | nil => simp at hy
    | cons b m =>
      simp at hx hy
      subst hx
      subst hy
      have hal := List.pairwise_cons.1 hl.asc
      have hbm := List.pairwise_cons.1 hm.asc
      have h0 := h a.1 (Int.le_refl _)
      rw [freeG_cons, freeG_cons, if_pos (Int.le_refl _), if_pos (by omega), freeG_far l _ _ hal.1, freeG_far m _ _ (fun s hs => by have := hbm.1 s hs; omega)] at h0
      have hab : a = b := Prod.ext hxy h0
      subst hab
      have h' : ∀ t, a.1 ≤ t → freeG a.2 l t = freeG a.2 m t := fun t ht => by
        have := h t ht
        rwa [freeG_cons, freeG_cons, if_pos ht] at this
      congr 1
      have key : ∀ (p : Stp) (l m : List Stp), Norm (a :: p :: l) → Norm (a :: m) → (∀ t, a.1 ≤ t → freeG a.2 (p :: l) t = freeG a.2 m t) → ∃ q m', m = q :: m' ∧ q.1 ≤ p.1 := fun p l m hl hm h => by
        have h1 := h p.1 (by have := hl.1; omega)
        rw [freeG_cons, if_pos (Int.le_refl _), freeG_far l _ _ (List.pairwise_cons.1 hl.2.2.asc).1] at h1
        cases m with
        | nil => exact absurd h1.symm (by simpa [freeG] using hl.2.1)
        | cons q m =>
          refine ⟨q, m, rfl, ?_⟩
          rcases Int.lt_or_le p.1 q.1 with h2 | h2
          · rw [freeG_far (q :: m) _ _ (fun s hs => by
              rcases List.mem_cons.1 hs with rfl | hs
              · exact h2
              · have := (List.pairwise_cons.1 hm.2.2.asc).1 s hs; omega)] at h1
            exact absurd h1.symm hl.2.1
          · exact h2
      cases l with
      | nil =>
        cases m with
        | nil => rfl
        | cons q m =>
          obtain ⟨_, _, h1, _⟩ := key q m [] hm hl (fun t ht => (h' t ht).symm)
          cases h1
      | cons p l =>
        obtain ⟨q, m', rfl, h1⟩ := key p l m hl hm h'
        obtain ⟨_, _, h2, h3⟩ := key q m' (p :: l) hm hl (fun t ht => (h' t ht).symm)
        injection h2 with h2 _
        subst h2
        exact ih (q :: m') hl.2.2 hm.2.2 p q rfl rfl (by omega) a.2 fun t ht => h' t (by have := hl.1; omega)

theorem norm_snoc {o : List Stp} {x : Stp} (h : Norm o) (hx : ∀ y, o.getLast? = some y → y.1 < x.1 ∧ y.2 ≠ x.2) : Norm (o ++ [x]) := by
  induction o with
  | nil => trivial
  | cons a o ih =>
    cases o with
    | nil => have := hx a rfl; exact ⟨this.1, this.2, trivial⟩
    | cons b o =>
      refine ⟨h.1, h.2.1, ih h.2.2 fun y hy => hx y ?_⟩
      rw [List.getLast?_cons_cons]
      exact hy

/-- one step more, if it is another one -/
def pushT (o : List (Int × Int)) (x : Int × Int) : List (Int × Int) := match o.getLast? with
  | some y => if y.2 = x.2 then o else o ++ [x]
  | none => o ++ [x]
theorem pushT_same {o : List (Int × Int)} {a u a' u' : Int} (h : o.getLast? = some (a', u')) (e : u' = u) : pushT o (a, u) = o := by unfold pushT; rw [h]; simp [e]
theorem pushT_more {o : List (Int × Int)} {a u a' u' : Int} (h : o.getLast? = some (a', u')) (e : ¬ u' = u) : pushT o (a, u) = o ++ [(a, u)] := by unfold pushT; rw [h]; simp [e]
theorem pushT_len (o : List (Int × Int)) (x : Int × Int) : (pushT o x).length ≤ o.length + 1 := by
  unfold pushT; split
  · split <;> simp
  · simp
/-- in one form -/
def tid (l : List Stp) : List Stp := l.foldl pushT []
theorem tid_nil : tid [] = [] := rfl
theorem tid_snoc (l : List Stp) (x : Stp) : tid (l ++ [x]) = pushT (tid l) x := by simp [tid]
theorem rev_ind {α : Type} {P : List α → Prop} (h0 : P []) (hs : ∀ l x, P l → P (l ++ [x])) (l : List α) : P l := by
  have key : ∀ m : List α, P m.reverse := fun m => by
    induction m with
    | nil => exact h0
    | cons x m ih => rw [List.reverse_cons]; exact hs _ _ ih
  have h := key l.reverse
  rwa [List.reverse_reverse] at h
theorem tid_len (l : List Stp) : (tid l).length ≤ l.length := by
  induction l using rev_ind with
  | h0 => simp [tid]
  | hs l x ih => rw [tid_snoc]; have := pushT_len (tid l) x; simp; omega
theorem asc_snoc {l : List Stp} {x : Stp} (h : Asc (l ++ [x])) : Asc l ∧ ∀ s ∈ l, s.1 < x.1 := by
  have := List.pairwise_append.1 h
  exact ⟨this.1, fun s hs => this.2.2 s hs x (by simp)⟩
theorem getLast_form {α : Type} {o : List α} {y : α} (h : o.getLast? = some y) : ∃ p, o = p ++ [y] := by
  induction o using rev_ind with
  | h0 => simp at h
  | hs o z _ => rw [List.getLast?_concat] at h; injection h with h; subst h; exact ⟨o, rfl⟩
theorem asc_last {o : List Stp} (h : Asc o) {y : Stp} (hy : o.getLast? = some y) : y ∈ o ∧ ∀ s ∈ o, s.1 ≤ y.1 := by
  obtain ⟨p, rfl⟩ := getLast_form hy
  refine ⟨by simp, fun s hs => ?_⟩
  rcases List.mem_append.1 hs with hs | hs
  · have := (asc_snoc h).2 s hs; omega
  · simp at hs; subst hs; exact Int.le_refl _
theorem tid_spec (l : List Stp) (ha : Asc l) : Norm (tid l) ∧ (∀ y ∈ tid l, y ∈ l) ∧ (tid l).head? = l.head? ∧ ∀ n t, freeG n (tid l) t = freeG n l t := by
  induction l using rev_ind with
  | h0 => exact ⟨trivial, fun _ h => h, rfl, fun _ _ => rfl⟩
  | hs l x ih =>
    obtain ⟨hal, hlx⟩ := asc_snoc ha
    obtain ⟨h1, h2, h3, h4⟩ := ih hal
    rw [tid_snoc]
    unfold pushT
    split
    · rename_i y hy
      obtain ⟨hym, hyl⟩ := asc_last h1.asc hy
      have hyx := hlx y (h2 y hym)
      have hne : tid l ≠ [] := by intro e; rw [e] at hym; simp at hym
      have hnl : l ≠ [] := by intro e; subst e; exact hne rfl
      have hh : (tid l).head? = (l ++ [x]).head? := by
        rw [h3]
        cases l with
        | nil => exact absurd rfl hnl
        | cons z l => rfl
      split
      · rename_i e
        refine ⟨h1, fun s hs => List.mem_append_left _ (h2 s hs), hh, fun n t => ?_⟩
        rw [freeG_append, ← h4, freeG_cons]
        by_cases hx : x.1 ≤ t
        · rw [if_pos hx, freeG_last h1.asc (τ := y.1) (v := y.2) hym (by omega) (fun s hs _ => hyl s hs)]
          exact e
        · rw [if_neg hx]; rfl
      · rename_i e
        refine ⟨norm_snoc h1 fun z hz => ?_, fun s hs => ?_, ?_, fun n t => ?_⟩
        · rw [hy] at hz; injection hz with hz; subst hz; exact ⟨hyx, e⟩
        · rcases List.mem_append.1 hs with hs | hs
          · exact List.mem_append_left _ (h2 s hs)
          · exact List.mem_append_right _ hs
        · rw [← hh]
          cases hq : tid l with
          | nil => exact absurd hq hne
          | cons z q => rfl
        · rw [freeG_append, freeG_append, h4]
    · rename_i hy
      have he : tid l = [] := List.getLast?_eq_none_iff.1 hy
      have hl : l = [] := by
        cases l with
        | nil => rfl
        | cons z l => rw [he] at h3; simp at h3
      subst hl
      rw [he]
      exact ⟨trivial, fun _ h => h, rfl, fun _ _ => rfl⟩
theorem tid_norm {l : List Stp} (h : Norm l) : tid l = l := by
  cases l with
  | nil => rfl
  | cons x l =>
    obtain ⟨h1, _, h3, h4⟩ := tid_spec (x :: l) h.asc
    exact norm_ext _ _ h1 h x x (by rw [h3]; rfl) rfl rfl 0 fun t _ => h4 0 t

/-- so much at some times -/
def samp (g : Int → Int) (ts : List Int) : List Stp := ts.map fun t => (t, g t)
theorem samp_asc {g : Int → Int} {ts : List Int} (h : ts.Pairwise (· < ·)) : Asc (samp g ts) := by
  unfold samp Asc
  rw [List.pairwise_map]
  exact h
theorem samp_snoc (g : Int → Int) (ts : List Int) (t : Int) : samp g (ts ++ [t]) = samp g ts ++ [(t, g t)] := by simp [samp]
theorem samp_len (g : Int → Int) (ts : List Int) : (samp g ts).length = ts.length := by simp [samp]
theorem last_le {ts : List Int} {x : Int} (h : ∃ s ∈ ts, s ≤ x) : ∃ τ ∈ ts, τ ≤ x ∧ ∀ s ∈ ts, s ≤ x → s ≤ τ := by
  induction ts with
  | nil => obtain ⟨s, h, _⟩ := h; simp at h
  | cons t ts ih =>
    by_cases h' : ∃ s ∈ ts, s ≤ x
    · obtain ⟨τ, h1, h2, h3⟩ := ih h'
      by_cases ht : t ≤ x ∧ τ < t
      · refine ⟨t, by simp, ht.1, fun s hs hx => ?_⟩
        rcases List.mem_cons.1 hs with rfl | hs
        · omega
        · have := h3 s hs hx; omega
      · refine ⟨τ, by simp [h1], h2, fun s hs hx => ?_⟩
        rcases List.mem_cons.1 hs with rfl | hs
        · omega
        · exact h3 s hs hx
    · obtain ⟨s, h1, h2⟩ := h
      rcases List.mem_cons.1 h1 with rfl | h1
      · refine ⟨s, by simp, h2, fun s' hs hx => ?_⟩
        rcases List.mem_cons.1 hs with rfl | hs
        · omega
        · exact absurd ⟨s', hs, hx⟩ h'
      · exact absurd ⟨s, h1, h2⟩ h'
theorem samp_free {ts : List Int} (ha : ts.Pairwise (· < ·)) {g : Int → Int} (hg : ∀ x y, (∀ s ∈ ts, s ≤ x ↔ s ≤ y) → g x = g y) {x : Int} (hx : ∃ s ∈ ts, s ≤ x) (n : Int) : freeG n (samp g ts) x = g x := by
  obtain ⟨τ, h1, h2, h3⟩ := last_le hx
  rw [hg x τ fun s hs => ⟨fun h => h3 s hs h, fun h => by omega⟩]
  refine freeG_last (samp_asc ha) (τ := τ) (List.mem_map.2 ⟨τ, h1, rfl⟩) h2 (fun s hs hsx => ?_) n
  obtain ⟨z, hz, rfl⟩ := List.mem_map.1 hs
  exact h3 z hz hsx

/-- the times at which something may change -/
def timesR (l m : List Stp) (a b : Int) : List Int := rises (a :: b :: (l.map (·.1) ++ m.map (·.1)))
theorem timesR_asc (l m : List Stp) (a b : Int) : (timesR l m a b).Pairwise (· < ·) := rises_asc _
theorem timesR_mem (l m : List Stp) (a b x : Int) : x ∈ timesR l m a b ↔ x = a ∨ x = b ∨ (∃ u, (x, u) ∈ l) ∨ ∃ u, (x, u) ∈ m := by
  unfold timesR
  rw [rises_mem]
  simp only [List.mem_cons, List.mem_append, List.mem_map]
  constructor
  · rintro (h | h | ⟨⟨a, u⟩, h, rfl⟩ | ⟨⟨a, u⟩, h, rfl⟩)
    · exact .inl h
    · exact .inr (.inl h)
    · exact .inr (.inr (.inl ⟨u, h⟩))
    · exact .inr (.inr (.inr ⟨u, h⟩))
  · rintro (h | h | ⟨u, h⟩ | ⟨u, h⟩)
    · exact .inl h
    · exact .inr (.inl h)
    · exact .inr (.inr (.inl ⟨_, h, rfl⟩))
    · exact .inr (.inr (.inr ⟨_, h, rfl⟩))
theorem rises_len (l : List Int) : (rises l).length ≤ l.length := by
  generalize hn : l.length = n
  induction n using Nat.strongRecOn generalizing l with
  | ind n ih =>
    cases l with
    | nil => rw [rises_nil]; simp
    | cons x l =>
      rw [rises_cons]
      have h1 := filter_lt _ _ (lmin_mem l x)
      have := ih _ (by rw [← hn]; exact h1) ((x :: l).filter (· != lmin x l)) rfl
      simp only [List.length_cons] at *
      omega
theorem timesR_len (l m : List Stp) (a b : Int) : (timesR l m a b).length ≤ l.length + m.length + 2 := by
  have := rises_len (a :: b :: (l.map (·.1) ++ m.map (·.1)))
  simp at this
  exact this
theorem timesR_le {l m : List Stp} {a b x y : Int} (h : ∀ s ∈ timesR l m a b, s ≤ x ↔ s ≤ y) : freeT l x = freeT l y ∧ freeT m x = freeT m y ∧ (a ≤ x ↔ a ≤ y) ∧ (b ≤ x ↔ b ≤ y) :=
  ⟨freeT_congr _ _ _ fun s hs => h s.1 ((timesR_mem _ _ _ _ _).2 (.inr (.inr (.inl ⟨s.2, hs⟩)))), freeT_congr _ _ _ fun s hs => h s.1 ((timesR_mem _ _ _ _ _).2 (.inr (.inr (.inr ⟨s.2, hs⟩)))),
    h a ((timesR_mem _ _ _ _ _).2 (.inl rfl)), h b ((timesR_mem _ _ _ _ _).2 (.inr (.inl rfl)))⟩
end Go.Proofs.Ytbcpjdjlgmhohaa

/-
  A region that draws its order, whose operations only read and whose callees only make memory: one walk. Conditions: none.
-/
namespace Go.Proofs.Ytbcpjdjlgmhohaa
open Go.RowKit

/-- A world that has grown out of w. -/
structure ExtW (w : World) where
  val : World
  ext : Ext w val

instance (w : World) : Nonempty (ExtW w) := ⟨⟨w, Ext.rfl'⟩⟩

theorem wp_region_ext {P : Program} {id : Nat} {Q : Exit → Act → World → Prop} {a : Act} {w : World} {l : List Oper} (hm : P.follows .mixedOrders = true) (hB : Region.lexB .any l.toArray = true)
    (h : wpQuiet P l.toArray (fun w' => ∃ x : ExtW w, w' = x.val) (fun a' => ∀ w', (∃ x : ExtW w, w' = x.val) → Q .normal a' w') l a) : (Code.region id l.toArray true).wp P Q a w :=
  wp_region_quiet (C := fun w' => ∃ x : ExtW w, w' = x.val) hm hB ⟨⟨{ w with drawn := w.drawn + 1 }, ⟨rfl, rfl, rfl, Nat.le_refl _, fun _ _ => rfl⟩⟩, rfl⟩ (by simpa using h)

theorem extq {P : Program} {f : FuncId} {args : Array Value} {w : World} {v : Value} {x : ExtW w} (h : Calls P f args x.val fun e w' => e = .returned v ∧ Ext x.val w') :
    Calls P f args x.val fun e w'' => e = .returned v ∧ ∃ y : ExtW w, w'' = y.val :=
  h.mono fun _ _ ⟨he, hx⟩ => ⟨he, ⟨_, x.ext.trans' hx⟩, rfl⟩
theorem extq_same {P : Program} {f : FuncId} {args : Array Value} {w : World} {v : Value} {x : ExtW w} (h : Calls P f args x.val fun e w' => e = .returned v ∧ x.val = w') :
    Calls P f args x.val fun e w'' => e = .returned v ∧ ∃ y : ExtW w, w'' = y.val :=
  h.mono fun _ _ ⟨he, hx⟩ => ⟨he, x, hx.symm⟩
theorem ExtW.cell {w : World} {p : Addr} {v : Value} (hc : w.cell? p = some v) : ∀ x : ExtW w, x.val.cell? p = some v := fun x => x.ext.cell' hc
end Go.Proofs.Ytbcpjdjlgmhohaa

