/-
  Words for memory: a slice that reads as a list of cells, and worlds that only grow. Conditions: none.
-/
import Derived.Test.YtmejjeeobhapfaaRows
import Derived.WalkKit
import Derived.ProofKit
import Derived.Below
import Derived.Lib.Hide
import Derived.Deep.Draws
namespace Go.Proofs.Ytmejjeeobhapfaa
open Go.RowKit

/-- The world only grows: all that was there is as it was. -/
abbrev Ext (w w' : World) : Prop := Below w.heap.size w w'

theorem Ext.rfl' {w : World} : Ext w w := Below.refl _ _
theorem Ext.trans' {a b c : World} (h : Ext a b) (k : Ext b c) : Ext a c := Below.trans h (Below.mono k h.size)
theorem Ext.drewN' {a w : World} (h : Ext a w) (n : Nat) : Ext a (w.drewN n) := ⟨h.os, h.tape, h.output, h.size, h.block⟩
theorem Ext.cell' {w w' : World} (h : Ext w w') {p : Addr} {v : Value} (hc : w.cell? p = some v) : w'.cell? p = some v :=
  (h.cell (World.block_lt_of_cell? w p hc)).trans hc
theorem Ext.size' {w w' : World} (h : Ext w w') : w.heap.size ≤ w'.heap.size := h.size
theorem below_drewN' {B : Nat} {a w : World} (h : Below B a w) (n : Nat) : Below B a (w.drewN n) := ⟨h.os, h.tape, h.output, h.size, h.block⟩
theorem below_ext {B : Nat} {a w w' : World} (h : Below B a w) (hB : B ≤ w.heap.size) (k : Ext w w') : Below B a w' := h.trans (k.mono hB)

/-- The slice (A, n) reads as the cells xs, size a piece. -/
def Rd (w : World) (size : Nat) (A : Option Addr) (n : Nat) (xs : List Value) : Prop :=
  xs.length = n * size ∧ (n = 0 ∨ ∃ b off, A = some ⟨b, off, none⟩ ∧ b < w.heap.size ∧ ∀ j u, xs[j]? = some u → w.cell? ⟨b, off + j, none⟩ = some u)

theorem Rd.nil' (w : World) (size : Nat) (A : Option Addr) : Rd w size A 0 [] := ⟨by simp, .inl rfl⟩
theorem Rd.keep {w w' : World} {size n : Nat} {A : Option Addr} {xs : List Value} (h : Rd w size A n xs) (hs : w.heap.size ≤ w'.heap.size)
    (hk : ∀ p : Addr, p.block < w.heap.size → w'.cell? p = w.cell? p) : Rd w' size A n xs := by
  refine ⟨h.1, ?_⟩
  rcases h.2 with h0 | ⟨b, off, hA, hb, hc⟩
  · exact .inl h0
  · exact .inr ⟨b, off, hA, by omega, fun j u hu => (hk _ hb).trans (hc j u hu)⟩
theorem Rd.ext {w w' : World} {size n : Nat} {A : Option Addr} {xs : List Value} (h : Rd w size A n xs) (k : Ext w w') : Rd w' size A n xs :=
  h.keep k.size fun _ hp => k.cell hp
theorem Rd.drew' {w : World} {size n : Nat} {A : Option Addr} {xs : List Value} (h : Rd w size A n xs) : Rd w.drew size A n xs := h
theorem Rd.drewN' {w : World} {size n : Nat} {A : Option Addr} {xs : List Value} (h : Rd w size A n xs) (k : Nat) : Rd (w.drewN k) size A n xs := h
theorem Rd.alloc' {w : World} {size n : Nat} {A : Option Addr} {xs : List Value} (h : Rd w size A n xs) (o : Obj) : Rd (w.alloc o) size A n xs :=
  h.ext ((Below.refl _ _).alloc (Nat.le_refl _) _)
/-- Of an own row. -/
theorem Rd.own {w : World} {base size n : Nat} {e : TypeId} {v : Value} {xs : List Value} (h : w.ownsRow base e size v n xs) :
    ∃ A c, v = .slice A n c ∧ n ≤ c ∧ Rd w size A n xs := by
  rcases h.2 with ⟨rfl, rfl⟩ | ⟨g, cap, cur, rfl, hb, hg, hn, hm, hs, ht⟩
  · exact ⟨none, 0, rfl, Nat.le_refl _, h.1, .inl rfl⟩
  · refine ⟨_, cap, rfl, hn, h.1, .inr ⟨g, 0, rfl, (Array.getElem?_eq_some_iff.1 hg).1, fun j u hu => ?_⟩⟩
    have := h.cells (g := g) rfl j u hu
    rwa [Addr.add_lit] at this

/-- A slice written out. -/
theorem own_lit (w : World) (base : Nat) (e : TypeId) (size n m g : Nat) (cs : Array Value) (xs : List Value) (hb : base ≤ w.heap.size) (hs : cs.size = n * size) (hn : n ≤ maxLen)
    (hm : m = n) (hg : g = w.heap.size) (hx : xs = cs.toList) :
    (w.alloc (.cells cs e)).ownsRow base e size (.slice (some ⟨g, 0, none⟩) n n) m xs := by
  subst hm; subst hg; subst hx
  exact ⟨by simpa using hs, .inr ⟨w.heap.size, m, cs, rfl, hb, heap_alloc_new w _, Nat.le_refl _, hn, hs, by rw [List.take_of_length_le]; simp [hs]⟩⟩
/-- cells of pieces, one behind the other -/
def flat {α : Type} (enc : α → List Value) (l : List α) : List Value := l.flatMap enc
theorem flat_nil {α : Type} (enc : α → List Value) : flat enc [] = [] := rfl
theorem flat_append {α : Type} (enc : α → List Value) (l m : List α) : flat enc (l ++ m) = flat enc l ++ flat enc m := by simp [flat]
theorem flat_one {α : Type} (enc : α → List Value) (x : α) : flat enc [x] = enc x := by simp [flat]
theorem flat_length {α : Type} {enc : α → List Value} {size : Nat} (he : ∀ x, (enc x).length = size) (l : List α) : (flat enc l).length = l.length * size := by
  induction l with
  | nil => simp [flat]
  | cons x l ih => simp only [flat, List.flatMap_cons, List.length_append, he, List.length_cons] at ih ⊢; rw [ih, Nat.add_mul]; omega
theorem flat_get {α : Type} {enc : α → List Value} {size : Nat} (he : ∀ x, (enc x).length = size) (l : List α) (i j : Nat) (hj : j < size) (x : α) (hx : l[i]? = some x) :
    (flat enc l)[i * size + j]? = (enc x)[j]? := by
  induction l generalizing i with
  | nil => simp at hx
  | cons y l ih =>
    cases i with
    | zero =>
      simp at hx; subst hx
      simp only [flat, List.flatMap_cons, Nat.zero_mul, Nat.zero_add]
      rw [List.getElem?_append_left (by rw [he]; exact hj)]
    | succ i =>
      simp only [flat, List.flatMap_cons]
      rw [List.getElem?_append_right (by rw [he, Nat.add_mul]; omega), he, show (i + 1) * size + j - size = i * size + j by rw [Nat.add_mul]; omega]
      exact ih i (by simpa using hx)

/-- The slice (A, n) reads as the list l. -/
def RdL {α : Type} (enc : α → List Value) (size : Nat) (w : World) (A : Option Addr) (n : Nat) (l : List α) : Prop :=
  (∀ x, (enc x).length = size) ∧ l.length = n ∧ Rd w size A n (flat enc l)
section
variable {α : Type} {enc : α → List Value} {size n : Nat} {w w' : World} {A : Option Addr} {l : List α}
theorem RdL.len (h : RdL enc size w A n l) : l.length = n := h.2.1
theorem RdL.ext (h : RdL enc size w A n l) (k : Ext w w') : RdL enc size w' A n l := ⟨h.1, h.2.1, h.2.2.ext k⟩
theorem RdL.drewN' (h : RdL enc size w A n l) (k : Nat) : RdL enc size (w.drewN k) A n l := h
theorem RdL.drew' (h : RdL enc size w A n l) : RdL enc size w.drew A n l := h
theorem RdL.alloc' (h : RdL enc size w A n l) (o : Obj) : RdL enc size (w.alloc o) A n l := ⟨h.1, h.2.1, h.2.2.alloc' o⟩
theorem RdL.keep (h : RdL enc size w A n l) (hs : w.heap.size ≤ w'.heap.size) (hk : ∀ p : Addr, p.block < w.heap.size → w'.cell? p = w.cell? p) : RdL enc size w' A n l :=
  ⟨h.1, h.2.1, h.2.2.keep hs hk⟩
/-- behind a Below that spares what was there -/
theorem RdL.below (h : RdL enc size w A n l) (k : Below w.heap.size w w') : RdL enc size w' A n l := h.ext k
theorem RdL.at_ (h : RdL enc size w A n l) {k : Nat} (hk : k < n) : ∃ b off x, A = some ⟨b, off, none⟩ ∧ b < w.heap.size ∧ l[k]? = some x ∧
    ∀ j, j < size → ∀ u, (enc x)[j]? = some u → w.cell? ⟨b, off + (k * size + j), none⟩ = some u := by
  obtain ⟨he, hl, _, h2⟩ := h
  rcases h2 with h0 | ⟨b, off, hA, hb, hc⟩
  · omega
  · refine ⟨b, off, l[k], hA, hb, List.getElem?_eq_getElem (by omega), fun j hj u hu => hc _ _ ?_⟩
    rw [flat_get he l k j hj _ (List.getElem?_eq_getElem (by omega))]; exact hu
theorem RdL.of_own {base : Nat} {e : TypeId} {v : Value} (he : ∀ x, (enc x).length = size) (h : w.ownsRow base e size v n (flat enc l)) (hl : l.length = n) :
    ∃ A c, v = .slice A n c ∧ n ≤ c ∧ RdL enc size w A n l := by
  obtain ⟨A, c, hv, hc, hr⟩ := Rd.own h
  exact ⟨A, c, hv, hc, he, hl, hr⟩
end

/-- two numbers a piece: steps, windows -/
def encP (p : Int × Int) : List Value := [.int .i64 p.1, .int .i64 p.2]
abbrev RdP := RdL encP 2
theorem encP_len (x : Int × Int) : (encP x).length = 2 := rfl
theorem RdP.cut {n : Nat} {w : World} {A : Option Addr} {l : List (Int × Int)} (h : RdP w A n l) {k : Nat} (hk : k < n) : ∃ b off a f, A = some ⟨b, off, none⟩ ∧ b < w.heap.size ∧ l[k]? = some (a, f) ∧
    w.cell? ⟨b, off + k * 2, none⟩ = some (.int .i64 a) ∧ w.cell? ⟨b, off + k * 2 + 1, none⟩ = some (.int .i64 f) := by
  obtain ⟨b, off, ⟨a, f⟩, hA, hb, hx, hc⟩ := RdL.at_ h hk
  exact ⟨b, off, a, f, hA, hb, hx, hc 0 (by omega) _ rfl, hc 1 (by omega) _ rfl⟩
/-- one number a piece -/
def encI (p : Int) : List Value := [.int .i64 p]
abbrev RdI := RdL encI 1
theorem encI_len (x : Int) : (encI x).length = 1 := rfl
theorem RdI.cut {n : Nat} {w : World} {A : Option Addr} {l : List Int} (h : RdI w A n l) {k : Nat} (hk : k < n) : ∃ b off a, A = some ⟨b, off, none⟩ ∧ b < w.heap.size ∧ l[k]? = some a ∧
    w.cell? ⟨b, off + k, none⟩ = some (.int .i64 a) := by
  obtain ⟨b, off, a, hA, hb, hx, hc⟩ := RdL.at_ h hk
  exact ⟨b, off, a, hA, hb, hx, by simpa using hc 0 (by omega) _ rfl⟩
/-- four numbers a piece: slots, jobs, events -/
def encQ (p : Int × Int × Int × Int) : List Value := [.int .i64 p.1, .int .i64 p.2.1, .int .i64 p.2.2.1, .int .i64 p.2.2.2]
abbrev RdQ := RdL encQ 4
theorem encQ_len (x : Int × Int × Int × Int) : (encQ x).length = 4 := rfl
theorem RdQ.cut {n : Nat} {w : World} {A : Option Addr} {l : List (Int × Int × Int × Int)} (h : RdQ w A n l) {k : Nat} (hk : k < n) : ∃ b off x y z u, A = some ⟨b, off, none⟩ ∧ b < w.heap.size ∧ l[k]? = some (x, y, z, u) ∧
    w.cell? ⟨b, off + k * 4, none⟩ = some (.int .i64 x) ∧ w.cell? ⟨b, off + k * 4 + 1, none⟩ = some (.int .i64 y) ∧ w.cell? ⟨b, off + k * 4 + 2, none⟩ = some (.int .i64 z) ∧ w.cell? ⟨b, off + k * 4 + 3, none⟩ = some (.int .i64 u) := by
  obtain ⟨b, off, ⟨x, y, z, u⟩, hA, hb, hx, hc⟩ := RdL.at_ h hk
  exact ⟨b, off, x, y, z, u, hA, hb, hx, hc 0 (by omega) _ rfl, hc 1 (by omega) _ rfl, hc 2 (by omega) _ rfl, hc 3 (by omega) _ rfl⟩

theorem quietL {P : Program} {f : FuncId} {args : Array Value} {w : World} {n : Nat} {v : Value}
    (h : Calls P f args (w.drewN n) fun e w' => e = .returned v ∧ w.drewN n = w') : Calls P f args (w.drewN n) fun e w'' => e = .returned v ∧ ∃ m, w'' = w.drewN m :=
  h.mono fun _ _ ⟨he, hm⟩ => ⟨he, n, hm.symm⟩
theorem quietA {P : Program} {f : FuncId} {args : Array Value} {w : World} {a n : Nat} {v : Value}
    (h : Calls P f args (w.drewN (a + n)) fun e w' => e = .returned v ∧ w.drewN (a + n) = w') : Calls P f args (w.drewN (a + n)) fun e w'' => e = .returned v ∧ ∃ m, w'' = w.drewN (a + m) :=
  h.mono fun _ _ ⟨he, hm⟩ => ⟨he, n, hm.symm⟩
theorem ret_i {a b : Int} (h : a = b) : Ending.returned (.int .i64 a) = .returned (.int .i64 b) := by rw [h]
theorem ret_b {a b : Bool} (h : a = b) : Ending.returned (.bool a) = .returned (.bool b) := by rw [h]
theorem take_snoc' {α : Type} {l : List α} {k : Nat} {x : α} (h : l[k]? = some x) : l.take (k + 1) = l.take k ++ [x] := by
  rw [List.take_add_one]; simp [h]
theorem take_all' {α : Type} {l : List α} {k n : Nat} (hl : l.length = n) (hk : n ≤ k) : l.take k = l := List.take_of_length_le (by omega)
end Go.Proofs.Ytmejjeeobhapfaa
