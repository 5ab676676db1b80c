/-
  Words for the stable sort: what the program lays, worlds of the sort's. Conditions: none.
-/
import Derived.Test.YtggfepphjaohiaaPSort
import Derived.Shelf.SlSortCmp.InsertionK
import Derived.Shelf.SlSortCmp.QuietGrown
namespace Go.Proofs.Ytggfepphjaohiaa
open Go.Shelf Go.RowKit Go.Lib Go.Sort

/-- What is asked of the program: the bodies, the types. -/
structure SLayP (P : Program) (k : Nat) : Prop where
  mixed : P.follows .mixedOrders = true
  aE : ∀ w, (isAgg 48).run P w = .ok true w
  zE : ∀ w, (Go.sizeOf 48).run P w = .ok k w
  tyi : P.underlying 3 = some (TypeDesc.int .i64)
  agi : ∀ w, (isAgg 3).run P w = .ok false w
  szi : ∀ w, (Go.sizeOf 3).run P w = .ok 1 w
  zvi : ∀ w, (zeroValue 3).run P w = .ok (Value.int .i64 0) w
  tyb : P.underlying 4 = some (TypeDesc.bool)
  agb : ∀ w, (isAgg 4).run P w = .ok false w
  szb : ∀ w, (Go.sizeOf 4).run P w = .ok 1 w
  zvb : ∀ w, (zeroValue 4).run P w = .ok (Value.bool false) w
  tyu : P.underlying 64 = some (TypeDesc.int .u64)
  agu : ∀ w, (isAgg 64).run P w = .ok false w
  szu : ∀ w, (Go.sizeOf 64).run P w = .ok 1 w
  zvu : ∀ w, (zeroValue 64).run P w = .ok (Value.int .u64 0) w
  tys : P.underlying 22 = some (TypeDesc.slice 48)
  ags : ∀ w, (isAgg 22).run P w = .ok false w
  szs : ∀ w, (Go.sizeOf 22).run P w = .ok 1 w
  zvs : ∀ w, (zeroValue 22).run P w = .ok (Value.slice none 0 0) w
  tyf : P.underlying 56 = some (TypeDesc.func #[48, 48] #[3] false)
  agf : ∀ w, (isAgg 56).run P w = .ok false w
  szf : ∀ w, (Go.sizeOf 56).run P w = .ok 1 w
  zvf : ∀ w, (zeroValue 56).run P w = .ok (Value.nilFunc) w
  tyn : P.underlying 0 = some (TypeDesc.tuple #[])
  agn : ∀ w, (isAgg 0).run P w = .ok false w
  szn : ∀ w, (Go.sizeOf 0).run P w = .ok 1 w
  zvn : ∀ w, (zeroValue 0).run P w = .ok (Value.tuple #[]) w
  f0 : P.funcs[52]? = some Try.f52
  f1 : P.funcs[51]? = some Try.f51
  f2 : P.funcs[50]? = some Try.f50
  f3 : P.funcs[49]? = some Try.f49
  f4 : P.funcs[48]? = some Try.f48

/-- two blocks of one length, the first i of each exchanged -/
def swapF {α : Type} (p u q v s : List α) (i : Nat) : List α := p ++ (v.take i ++ u.drop i) ++ q ++ (u.take i ++ v.drop i) ++ s
theorem swapF_len {α : Type} (p u q v s : List α) (i n : Nat) (hu : u.length = n) (hv : v.length = n) : (swapF p u q v s i).length = p.length + n + q.length + n + s.length := by
  simp only [swapF, List.length_append, List.length_take, List.length_drop]; omega
section
variable {α : Type} [Inhabited α]
theorem get_mid (p s : List α) (x : α) : (p ++ x :: s).toArray[p.length]! = x := by simp
theorem swp_list (p q s : List α) (x y : α) : swp (p ++ x :: (q ++ y :: s)).toArray p.length (p.length + 1 + q.length) = (p ++ y :: (q ++ x :: s)).toArray := by
  have e1 : (p ++ x :: (q ++ y :: s)).toArray[p.length]! = x := get_mid _ _ _
  have e2 : (p ++ x :: (q ++ y :: s)).toArray[p.length + 1 + q.length]! = y := by
    simp [Nat.add_assoc, Nat.add_comm 1]
  unfold swp
  rw [e1, e2]
  simp only [List.setIfInBounds_toArray]
  congr 1
  rw [List.set_append_right _ _ (Nat.le_refl _), Nat.sub_self, List.set_cons_zero, List.set_append_right _ _ (by omega), show p.length + 1 + q.length - p.length = q.length + 1 by omega, List.set_cons_succ, List.set_append_right _ _ (Nat.le_refl _), Nat.sub_self, List.set_cons_zero]
theorem swp_list' (p q s : List α) (x y : α) : swp (p ++ x :: (q ++ y :: s)).toArray (p.length + 1 + q.length) p.length = (p ++ y :: (q ++ x :: s)).toArray := by
  have e1 : (p ++ x :: (q ++ y :: s)).toArray[p.length]! = x := get_mid _ _ _
  have e2 : (p ++ x :: (q ++ y :: s)).toArray[p.length + 1 + q.length]! = y := by
    simp [Nat.add_assoc, Nat.add_comm 1]
  unfold swp
  rw [e1, e2]
  simp only [List.setIfInBounds_toArray]
  congr 1
  rw [List.set_append_right _ _ (by omega), show p.length + 1 + q.length - p.length = q.length + 1 by omega, List.set_cons_succ, List.set_append_right _ _ (Nat.le_refl _), Nat.sub_self, List.set_cons_zero, List.set_append_right _ _ (Nat.le_refl _), Nat.sub_self, List.set_cons_zero]
theorem swapF_step (p u q v s : List α) (i n : Nat) (hu : u.length = n) (hv : v.length = n) (hi : i < n) :
    swp (swapF p u q v s i).toArray (p.length + i) (p.length + n + q.length + i) = (swapF p u q v s (i + 1)).toArray := by
  have e1 : u.drop i = u[i] :: u.drop (i + 1) := List.drop_eq_getElem_cons (by omega)
  have e2 : v.drop i = v[i] :: v.drop (i + 1) := List.drop_eq_getElem_cons (by omega)
  have e3 : u.take (i + 1) = u.take i ++ [u[i]] := by rw [List.take_add_one, List.getElem?_eq_getElem (by omega)]; rfl
  have e4 : v.take (i + 1) = v.take i ++ [v[i]] := by rw [List.take_add_one, List.getElem?_eq_getElem (by omega)]; rfl
  have := swp_list (p ++ v.take i) (u.drop (i + 1) ++ q ++ u.take i) (v.drop (i + 1) ++ s) u[i] v[i]
  have l1 : (p ++ v.take i).length = p.length + i := by simp only [List.length_append, List.length_take]; omega
  have l2 : (u.drop (i + 1) ++ q ++ u.take i).length = n - (i + 1) + q.length + i := by simp only [List.length_append, List.length_take, List.length_drop]; omega
  rw [l1, l2, show p.length + i + 1 + (n - (i + 1) + q.length + i) = p.length + n + q.length + i by omega] at this
  have g1 : swapF p u q v s i = (p ++ v.take i) ++ u[i] :: ((u.drop (i + 1) ++ q ++ u.take i) ++ v[i] :: (v.drop (i + 1) ++ s)) := by
    unfold swapF; rw [e1, e2]; simp only [List.append_assoc, List.cons_append]
  have g2 : swapF p u q v s (i + 1) = (p ++ v.take i) ++ v[i] :: ((u.drop (i + 1) ++ q ++ u.take i) ++ u[i] :: (v.drop (i + 1) ++ s)) := by
    unfold swapF; rw [e3, e4]; simp only [List.append_assoc, List.cons_append, List.nil_append]
  rw [g1, g2]; exact this
/-- a row of cells, as a list -/
abbrev SWl (enc : α → List Value) (k : Nat) (w : World) (blk off m : Nat) (l : List α) (os : Array Obj) : World := sortWorldK enc k w blk off m l.toArray os
theorem rot_eq {α : Type} (p u v s : List α) (j : Nat) : p ++ v ++ u.take j ++ u.drop j ++ s = p ++ v ++ u ++ s := by
  rw [List.append_assoc (p ++ v), List.take_append_drop]
theorem get_at {α : Type} [Inhabited α] {p v s : List α} {t a : Nat} {y : α} (ha : p.length = a) (h : v[t]? = some y) : (p ++ v ++ s).toArray[a + t]! = y := by
  obtain ⟨h1, rfl⟩ := List.getElem?_eq_some_iff.1 h
  subst ha
  simp only [List.getElem!_toArray, List.append_assoc]
  rw [List.getElem!_eq_getElem?_getD, List.getElem?_append_right (by omega), Nat.add_sub_cancel_left, List.getElem?_append_left h1, List.getElem?_eq_getElem h1]; rfl
theorem ins_swp (p v s : List α) (x : α) (t a : Nat) (ha : p.length = a) (ht : t < v.length) : swp (p ++ v.take t ++ x :: v.drop t ++ s).toArray (a + t) (a + t + 1) = (p ++ v.take (t + 1) ++ x :: v.drop (t + 1) ++ s).toArray := by
  have e1 : v.drop t = v[t] :: v.drop (t + 1) := List.drop_eq_getElem_cons ht
  have e3 : v.take (t + 1) = v.take t ++ [v[t]] := by rw [List.take_add_one, List.getElem?_eq_getElem ht]; rfl
  have := swp_list (p ++ v.take t) [] (v.drop (t + 1) ++ s) x v[t]
  have l1 : (p ++ v.take t).length = a + t := by simp only [List.length_append, List.length_take]; omega
  rw [l1] at this
  rw [e3, e1]
  generalize v.drop (t + 1) = D at this ⊢
  generalize v.take t = T at this ⊢
  simpa using this
theorem ins_swp' (p v s : List α) (x : α) (t a : Nat) (ha : p.length = a) (ht : t < v.length) : swp (p ++ v.take (t + 1) ++ x :: v.drop (t + 1) ++ s).toArray (a + t + 1) (a + t) = (p ++ v.take t ++ x :: v.drop t ++ s).toArray := by
  have e1 : v.drop t = v[t] :: v.drop (t + 1) := List.drop_eq_getElem_cons ht
  have e3 : v.take (t + 1) = v.take t ++ [v[t]] := by rw [List.take_add_one, List.getElem?_eq_getElem ht]; rfl
  have := swp_list' (p ++ v.take t) [] (v.drop (t + 1) ++ s) v[t] x
  have l1 : (p ++ v.take t).length = a + t := by simp only [List.length_append, List.length_take]; omega
  rw [l1] at this
  rw [e3, e1]
  generalize v.drop (t + 1) = D at this ⊢
  generalize v.take t = T at this ⊢
  simpa using this
def Cutw (cf : α → α → Int) (dk : Array α) (q lo hi i j : Nat) : Prop := (i = lo ∨ ¬ cf dk[q - (i - 1)]! dk[i - 1]! < 0) ∧ (j = hi ∨ cf dk[q - j]! dk[j]! < 0)
def AtW (enc : α → List Value) (k : Nat) (w : World) (blk off : Nat) (dk : Array α) (wr : World) : Prop := ∃ (m : Nat) (os : Array Obj), wr = sortWorldK enc k w blk off m dk os
def Lows {α : Type} (cf : α → α → Int) (x : α) (v : List α) (i j : Nat) : Prop := (∀ z ∈ v.take i, cf z x < 0) ∧ ∀ z ∈ v.drop j, ¬ cf z x < 0
def Highs {α : Type} (cf : α → α → Int) (y : α) (u : List α) (i j : Nat) : Prop := (∀ z ∈ u.take i, ¬ cf y z < 0) ∧ ∀ z ∈ u.drop j, cf y z < 0
def Merged {α : Type} (cf : α → α → Int) (p s l l' : List α) : Prop := ∃ r, l' = p ++ r ++ s ∧ Stab cf l r ∧ Srt cf r
def GivesSW (enc : α → List Value) (k : Nat) (w : World) (blk off : Nat) (R : List α → Prop) (e : Ending) (w' : World) : Prop :=
  e = .returned (.tuple #[]) ∧ ∃ (n' : Nat) (l' : List α) (os' : Array Obj), w' = SWl enc k w blk off n' l' os' ∧ R l'
theorem GivesSW.mk' {enc : α → List Value} {k : Nat} {w : World} {blk off : Nat} {R : List α → Prop} {w' : World} (m : Nat) (l : List α) (os : Array Obj) (h : Hid (w' = SWl enc k w blk off m l os)) (r : R l) : GivesSW enc k w blk off R (.returned (.tuple #[])) w' :=
  ⟨rfl, m, l, os, h.out, r⟩
theorem GivesSW.of {enc : α → List Value} {k : Nat} {w : World} {blk off : Nat} {R : List α → Prop} {w' : World} (l : List α) (h : AtW enc k w blk off l.toArray w') (r : R l) : GivesSW enc k w blk off R (.returned (.tuple #[])) w' := by
  obtain ⟨m, os, h⟩ := h
  exact ⟨rfl, m, l, os, h, r⟩
end
end Go.Proofs.Ytggfepphjaohiaa
