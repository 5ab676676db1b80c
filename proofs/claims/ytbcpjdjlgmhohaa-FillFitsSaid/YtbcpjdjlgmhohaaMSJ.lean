import Derived.Test.YtbcpjdjlgmhohaaMBase
import Derived.Shelf.SlSortCmp.InsertionK
import Derived.Shelf.SlSortCmp.QuietGrown
import Derived.Test.YtbcpjdjlgmhohaaMSP
/-
  Words for the stable sort: what the program lays, worlds of the sort's. Conditions: none.
-/
namespace Go.Proofs.Ytbcpjdjlgmhohaa.SJ
open Go.Shelf Go.RowKit Go.Lib Go.Sort

/-- What is asked of the program: the bodies, the types. -/
structure SLayJ (P : Program) (k : Nat) : Prop where
  mixed : P.follows .mixedOrders = true
  aE : ∀ w, (isAgg 45).run P w = .ok true w
  zE : ∀ w, (Go.sizeOf 45).run P w = .ok k w
  tyi : P.underlying 3 = some (TypeDesc.int .i64)
  agi : ∀ w, (isAgg 3).run P w = .ok false w
  szi : ∀ w, (Go.sizeOf 3).run P w = .ok 1 w
  zvi : ∀ w, (zeroValue 3).run P w = .ok (Value.int .i64 0) w
  tyb : P.underlying 4 = some (TypeDesc.bool)
  agb : ∀ w, (isAgg 4).run P w = .ok false w
  szb : ∀ w, (Go.sizeOf 4).run P w = .ok 1 w
  zvb : ∀ w, (zeroValue 4).run P w = .ok (Value.bool false) w
  tyu : P.underlying 107 = some (TypeDesc.int .u64)
  agu : ∀ w, (isAgg 107).run P w = .ok false w
  szu : ∀ w, (Go.sizeOf 107).run P w = .ok 1 w
  zvu : ∀ w, (zeroValue 107).run P w = .ok (Value.int .u64 0) w
  tys : P.underlying 23 = some (TypeDesc.slice 45)
  ags : ∀ w, (isAgg 23).run P w = .ok false w
  szs : ∀ w, (Go.sizeOf 23).run P w = .ok 1 w
  zvs : ∀ w, (zeroValue 23).run P w = .ok (Value.slice none 0 0) w
  tyf : P.underlying 73 = some (TypeDesc.func #[45, 45] #[3] false)
  agf : ∀ w, (isAgg 73).run P w = .ok false w
  szf : ∀ w, (Go.sizeOf 73).run P w = .ok 1 w
  zvf : ∀ w, (zeroValue 73).run P w = .ok (Value.nilFunc) w
  tyn : P.underlying 0 = some (TypeDesc.tuple #[])
  agn : ∀ w, (isAgg 0).run P w = .ok false w
  szn : ∀ w, (Go.sizeOf 0).run P w = .ok 1 w
  zvn : ∀ w, (zeroValue 0).run P w = .ok (Value.tuple #[]) w
  f0 : P.funcs[74]? = some Try.f74
  f1 : P.funcs[71]? = some Try.f71
  f2 : P.funcs[69]? = some Try.f69
  f3 : P.funcs[68]? = some Try.f68
  f4 : P.funcs[57]? = some Try.f57

/-- two blocks of one length, the first i of each exchanged -/
def swapF {α : Type} (p u q v s : List α) (i : Nat) : List α := p ++ (v.take i ++ u.drop i) ++ q ++ (u.take i ++ v.drop i) ++ s
theorem swapF_len {α : Type} (p u q v s : List α) (i n : Nat) (hu : u.length = n) (hv : v.length = n) : (swapF p u q v s i).length = p.length + n + q.length + n + s.length := by
  simp only [swapF, List.length_append, List.length_take, List.length_drop]; omega
section
variable {α : Type} [Inhabited α]
theorem get_mid (p s : List α) (x : α) : (p ++ x :: s).toArray[p.length]! = x := by simp
theorem swp_list (p q s : List α) (x y : α) : swp (p ++ x :: (q ++ y :: s)).toArray p.length (p.length + 1 + q.length) = (p ++ y :: (q ++ x :: s)).toArray := by
  have e1 : (p ++ x :: (q ++ y :: s)).toArray[p.length]! = x := get_mid _ _ _
  have e2 : (p ++ x :: (q ++ y :: s)).toArray[p.length + 1 + q.length]! = y := by
    simp [Nat.add_assoc, Nat.add_comm 1]
  unfold swp
  rw [e1, e2]
  simp only [List.setIfInBounds_toArray]
  congr 1
  rw [List.set_append_right _ _ (Nat.le_refl _), Nat.sub_self, List.set_cons_zero, List.set_append_right _ _ (by omega), show p.length + 1 + q.length - p.length = q.length + 1 by omega, List.set_cons_succ, List.set_append_right _ _ (Nat.le_refl _), Nat.sub_self, List.set_cons_zero]
theorem swp_list' (p q s : List α) (x y : α) : swp (p ++ x :: (q ++ y :: s)).toArray (p.length + 1 + q.length) p.length = (p ++ y :: (q ++ x :: s)).toArray := by
  have e1 : (p ++ x :: (q ++ y :: s)).toArray[p.length]! = x := get_mid _ _ _
  have e2 : (p ++ x :: (q ++ y :: s)).toArray[p.length + 1 + q.length]! = y := by
    simp [Nat.add_assoc, Nat.add_comm 1]
  unfold swp
  rw [e1, e2]
  simp only [List.setIfInBounds_toArray]
  congr 1
  rw [List.set_append_right _ _ (by omega), show p.length + 1 + q.length - p.length = q.length + 1 by omega, List.set_cons_succ, List.set_append_right _ _ (Nat.le_refl _), Nat.sub_self, List.set_cons_zero, List.set_append_right _ _ (Nat.le_refl _), Nat.sub_self, List.set_cons_zero]
theorem swapF_step (p u q v s : List α) (i n : Nat) (hu : u.length = n) (hv : v.length = n) (hi : i < n) :
    swp (swapF p u q v s i).toArray (p.length + i) (p.length + n + q.length + i) = (swapF p u q v s (i + 1)).toArray := by
  have e1 : u.drop i = u[i] :: u.drop (i + 1) := List.drop_eq_getElem_cons (by omega)
  have e2 : v.drop i = v[i] :: v.drop (i + 1) := List.drop_eq_getElem_cons (by omega)
  have e3 : u.take (i + 1) = u.take i ++ [u[i]] := by rw [List.take_add_one, List.getElem?_eq_getElem (by omega)]; rfl
  have e4 : v.take (i + 1) = v.take i ++ [v[i]] := by rw [List.take_add_one, List.getElem?_eq_getElem (by omega)]; rfl
  have := swp_list (p ++ v.take i) (u.drop (i + 1) ++ q ++ u.take i) (v.drop (i + 1) ++ s) u[i] v[i]
  have l1 : (p ++ v.take i).length = p.length + i := by simp only [List.length_append, List.length_take]; omega
  have l2 : (u.drop (i + 1) ++ q ++ u.take i).length = n - (i + 1) + q.length + i := by simp only [List.length_append, List.length_take, List.length_drop]; omega
  rw [l1, l2, show p.length + i + 1 + (n - (i + 1) + q.length + i) = p.length + n + q.length + i by omega] at this
  have g1 : swapF p u q v s i = (p ++ v.take i) ++ u[i] :: ((u.drop (i + 1) ++ q ++ u.take i) ++ v[i] :: (v.drop (i + 1) ++ s)) := by
    unfold swapF; rw [e1, e2]; simp only [List.append_assoc, List.cons_append]
  have g2 : swapF p u q v s (i + 1) = (p ++ v.take i) ++ v[i] :: ((u.drop (i + 1) ++ q ++ u.take i) ++ u[i] :: (v.drop (i + 1) ++ s)) := by
    unfold swapF; rw [e3, e4]; simp only [List.append_assoc, List.cons_append, List.nil_append]
  rw [g1, g2]; exact this
/-- a row of cells, as a list -/
abbrev SWl (enc : α → List Value) (k : Nat) (w : World) (blk off m : Nat) (l : List α) (os : Array Obj) : World := sortWorldK enc k w blk off m l.toArray os
theorem rot_eq {α : Type} (p u v s : List α) (j : Nat) : p ++ v ++ u.take j ++ u.drop j ++ s = p ++ v ++ u ++ s := by
  rw [List.append_assoc (p ++ v), List.take_append_drop]
theorem get_at {α : Type} [Inhabited α] {p v s : List α} {t a : Nat} {y : α} (ha : p.length = a) (h : v[t]? = some y) : (p ++ v ++ s).toArray[a + t]! = y := by
  obtain ⟨h1, rfl⟩ := List.getElem?_eq_some_iff.1 h
  subst ha
  simp only [List.getElem!_toArray, List.append_assoc]
  rw [List.getElem!_eq_getElem?_getD, List.getElem?_append_right (by omega), Nat.add_sub_cancel_left, List.getElem?_append_left h1, List.getElem?_eq_getElem h1]; rfl
theorem ins_swp (p v s : List α) (x : α) (t a : Nat) (ha : p.length = a) (ht : t < v.length) : swp (p ++ v.take t ++ x :: v.drop t ++ s).toArray (a + t) (a + t + 1) = (p ++ v.take (t + 1) ++ x :: v.drop (t + 1) ++ s).toArray := by
  have e1 : v.drop t = v[t] :: v.drop (t + 1) := List.drop_eq_getElem_cons ht
  have e3 : v.take (t + 1) = v.take t ++ [v[t]] := by rw [List.take_add_one, List.getElem?_eq_getElem ht]; rfl
  have := swp_list (p ++ v.take t) [] (v.drop (t + 1) ++ s) x v[t]
  have l1 : (p ++ v.take t).length = a + t := by simp only [List.length_append, List.length_take]; omega
  rw [l1] at this
  rw [e3, e1]
  generalize v.drop (t + 1) = D at this ⊢
  generalize v.take t = T at this ⊢
  simpa using this
theorem ins_swp' (p v s : List α) (x : α) (t a : Nat) (ha : p.length = a) (ht : t < v.length) : swp (p ++ v.take (t + 1) ++ x :: v.drop (t + 1) ++ s).toArray (a + t + 1) (a + t) = (p ++ v.take t ++ x :: v.drop t ++ s).toArray := by
  have e1 : v.drop t = v[t] :: v.drop (t + 1) := List.drop_eq_getElem_cons ht
  have e3 : v.take (t + 1) = v.take t ++ [v[t]] := by rw [List.take_add_one, List.getElem?_eq_getElem ht]; rfl
  have := swp_list' (p ++ v.take t) [] (v.drop (t + 1) ++ s) v[t] x
  have l1 : (p ++ v.take t).length = a + t := by simp only [List.length_append, List.length_take]; omega
  rw [l1] at this
  rw [e3, e1]
  generalize v.drop (t + 1) = D at this ⊢
  generalize v.take t = T at this ⊢
  simpa using this
def Cutw (cf : α → α → Int) (dk : Array α) (q lo hi i j : Nat) : Prop := (i = lo ∨ ¬ cf dk[q - (i - 1)]! dk[i - 1]! < 0) ∧ (j = hi ∨ cf dk[q - j]! dk[j]! < 0)
def AtW (enc : α → List Value) (k : Nat) (w : World) (blk off : Nat) (dk : Array α) (wr : World) : Prop := ∃ (m : Nat) (os : Array Obj), wr = sortWorldK enc k w blk off m dk os
def Lows {α : Type} (cf : α → α → Int) (x : α) (v : List α) (i j : Nat) : Prop := (∀ z ∈ v.take i, cf z x < 0) ∧ ∀ z ∈ v.drop j, ¬ cf z x < 0
def Highs {α : Type} (cf : α → α → Int) (y : α) (u : List α) (i j : Nat) : Prop := (∀ z ∈ u.take i, ¬ cf y z < 0) ∧ ∀ z ∈ u.drop j, cf y z < 0
def Merged {α : Type} (cf : α → α → Int) (p s l l' : List α) : Prop := ∃ r, l' = p ++ r ++ s ∧ Stab cf l r ∧ Srt cf r
def GivesSW (enc : α → List Value) (k : Nat) (w : World) (blk off : Nat) (R : List α → Prop) (e : Ending) (w' : World) : Prop :=
  e = .returned (.tuple #[]) ∧ ∃ (n' : Nat) (l' : List α) (os' : Array Obj), w' = SWl enc k w blk off n' l' os' ∧ R l'
theorem GivesSW.mk' {enc : α → List Value} {k : Nat} {w : World} {blk off : Nat} {R : List α → Prop} {w' : World} (m : Nat) (l : List α) (os : Array Obj) (h : Hid (w' = SWl enc k w blk off m l os)) (r : R l) : GivesSW enc k w blk off R (.returned (.tuple #[])) w' :=
  ⟨rfl, m, l, os, h.out, r⟩
theorem GivesSW.of {enc : α → List Value} {k : Nat} {w : World} {blk off : Nat} {R : List α → Prop} {w' : World} (l : List α) (h : AtW enc k w blk off l.toArray w') (r : R l) : GivesSW enc k w blk off R (.returned (.tuple #[])) w' := by
  obtain ⟨m, os, h⟩ := h
  exact ⟨rfl, m, l, os, h, r⟩
end
end Go.Proofs.Ytbcpjdjlgmhohaa.SJ

/-
  Walk: two blocks of one length exchanged. Conditions: none.
-/
namespace Go.Proofs.Ytbcpjdjlgmhohaa.SJ
open Go.Shelf Go.RowKit Go.Lib Go.Sort

set_option maxHeartbeats 4000000 in
set_option maxRecDepth 1000000 in
theorem swapRangeJ {P : Program} {α : Type} [Inhabited α] {k : Nat} (L : SLayJ P k) (enc : α → List Value) (hk : ∀ x, (enc x).length = k) (h1 : ∀ x, ∀ v ∈ enc x, v.oneCell' = true) (g : Nat) (cb : Array Value) (blk off cap : Nat) (d : Array α) (w : World)
    (hH : HoldsK enc k w blk off d) (hblk : blk < w.heap.size) (hsz : d.size < 4611686018427387904)
    (p u q v s : List α) (n a b m0 : Nat) (os0 : Array Obj) (hu : u.length = n) (hv : v.length = n) (ha : p.length = a) (hb : a + n + q.length = b) (hd : d.size = b + n + s.length) (T : List α) (hT : p ++ v ++ q ++ u ++ s = T) :
    Calls P 74 #[.slice (some ⟨blk, off, none⟩) d.size cap, .int .i64 a, .int .i64 b, .int .i64 n, .func (.func g) #[] cb] (SWl enc k w blk off m0 (p ++ u ++ q ++ v ++ s) os0) (GivesSW enc k w blk off fun l' => l' = T) := by
  have mixed := L.mixed; have aE := L.aE; have zE := L.zE; have tyi := L.tyi; have agi := L.agi; have szi := L.szi; have zvi := L.zvi; have tyb := L.tyb; have agb := L.agb; have szb := L.szb; have zvb := L.zvb; have tyu := L.tyu; have agu := L.agu; have szu := L.szu; have zvu := L.zvu; have tys := L.tys; have ags := L.ags; have szs := L.szs; have zvs := L.zvs; have tyf := L.tyf; have agf := L.agf; have szf := L.szf; have zvf := L.zvf; have tyn := L.tyn; have agn := L.agn; have szn := L.szn; have zvn := L.zvn
  have HH : Hid (HoldsK enc k w blk off d) := hH
  have HK : Hid (∀ x, (enc x).length = k) := hk
  have H1 : Hid (∀ x, ∀ v ∈ enc x, v.oneCell' = true) := h1
  clear hH hk h1
  obtain ⟨l0, hl0⟩ : ∃ l0 : Nat → List α, l0 = swapF p u q v s := ⟨_, rfl⟩
  have HL0 : Hid (p ++ u ++ q ++ v ++ s = l0 0) := by show _ = _; rw [hl0]; simp [swapF]
  have HLn : Hid (l0 n = T) := by show _ = _; rw [hl0, ← hT]; simp [swapF, List.take_of_length_le, List.drop_of_length_le, hu, hv]
  have HLs : Hid (∀ i, (l0 i).toArray.size = d.size) := fun i => by rw [hl0, List.size_toArray, swapF_len p u q v s i n hu hv]; omega
  have HLi : Hid (∀ i, i < n → swp (l0 i).toArray (a + i) (b + i) = (l0 (i + 1)).toArray) := fun i hi => by
    have := swapF_step p u q v s i n hu hv hi
    rw [hl0, ← hb, ← ha]; exact this
  rw [HL0.out]
  clear HL0 hl0 hu hv ha hT
  have hnd : b + n ≤ d.size := by omega
  have hab : a + n ≤ b := by omega
  clear hb hd
  go_enter L.f0, Try.ntmps74
  go_wp2
  go_loopw [10] (fun vi wr => ∃ (i m : Nat) (os : Array Obj), vi = .int .i64 i ∧ i ≤ n ∧ Hid (wr = SWl enc k w blk off m (l0 i) os)) (fun vi _ => n - (intOf vi).toNat)
  case atStart => exact ⟨0, m0, os0, rfl, Nat.zero_le _, rfl⟩
  case round =>
    obtain ⟨i, m, os, rfl, hin, HW⟩ := hrel
    by_cases hlt : i < n
    · have hltz : (i : Int) < (n : Int) := by omega
      obtain ⟨I, hI⟩ : ∃ I, a + i = I := ⟨_, rfl⟩
      obtain ⟨J, hJ⟩ : ∃ J, b + i = J := ⟨_, rfl⟩
      have wI : IntKind.i64.wrap ((a : Int) + (i : Int)) = (I : Int) := by rw [IntKind.wrap_i64]; omega
      have wJ : IntKind.i64.wrap ((b : Int) + (i : Int)) = (J : Int) := by rw [IntKind.wrap_i64]; omega
      have bI : (I : Int) < (d.size : Int) := by omega
      have bJ : (J : Int) < (d.size : Int) := by omega
      obtain ⟨dk, hdk⟩ : ∃ dk, dk = (l0 i).toArray := ⟨_, rfl⟩
      have hsk : dk.size = d.size := by rw [hdk]; exact HLs.out i
      have HI : Hid (swp dk I J = (l0 (i + 1)).toArray) := by show _ = _; rw [hdk, ← hI, ← hJ]; exact HLi.out i hlt
      replace HW : Hid (wr = sortWorldK enc k w blk off m dk os) := by show _ = _; rw [hdk]; exact HW.out
      clear hdk
      go_wp2_with fail
      obtain ⟨xI, hxI⟩ : ∃ x, dk[I]! = x := ⟨_, rfl⟩
      obtain ⟨xJ, hxJ⟩ : ∃ x, dk[J]! = x := ⟨_, rfl⟩
      have hHd : HoldsK enc k wr.drew blk off dk := by
        have : HoldsK enc k wr blk off dk := by rw [HW.out]; exact holdsK_sortWorldK_c enc k w blk off d _ _ _ HH.out hblk hsk
        exact this
      have bnd : ∀ x, x < dk.size → x * k + k ≤ dk.size * k := fun x hx => by
        have := Nat.mul_le_mul_right k (show x + 1 ≤ dk.size from hx); rwa [Nat.add_mul, Nat.one_mul] at this
      have lI2 : Sem.run P (loadCellsFrom ⟨blk, off + I * k, none⟩ 0 k #[]) wr.drew = .ok (enc xI).toArray wr.drew := by rw [← hxI]; exact run_loadCellsFrom_list P _ _ _ k (HK.out _) (HoldsK.cells hHd HK.out (by omega))
      have lJ2 : Sem.run P (loadCellsFrom ⟨blk, off + J * k, none⟩ 0 k #[]) wr.drew = .ok (enc xJ).toArray wr.drew := by rw [← hxJ]; exact run_loadCellsFrom_list P _ _ _ k (HK.out _) (HoldsK.cells hHd HK.out (by omega))
      have s1 : Sem.run P (storeCells ⟨blk, off + I * k, none⟩ (enc xJ) 0) wr.drew = .ok () (wr.drew.setCells blk (off + I * k) (enc xJ)) := stores_of_holds P hHd (I * k) _ (by rw [HK.out, size_flatK]; exact bnd I (by omega)) (H1.out _)
      have s2 : Sem.run P (storeCells ⟨blk, off + J * k, none⟩ (enc xI) 0) (wr.drew.setCells blk (off + I * k) (enc xJ)) = .ok () ((wr.drew.setCells blk (off + I * k) (enc xJ)).setCells blk (off + J * k) (enc xI)) :=
        stores_of_holds P (holds_setCells_c hHd (I * k) _ (by rw [HK.out, size_flatK]; exact bnd I (by omega))) (J * k) _ (by rw [HK.out, size_setMany, size_flatK]; exact bnd J (by omega)) (H1.out _)
      have hsI : (enc xI).length = k := HK.out _
      have hsJ : (enc xJ).length = k := HK.out _
      have HSW : Hid (((wr.drew.setCells blk (off + I * k) (enc xJ)).setCells blk (off + J * k) (enc xI)) = sortWorldK enc k w blk off (m + 1) (swp dk I J) os) := by
        show _ = _
        rw [HW.out, ← hxI, ← hxJ]
        exact sortWorldK_swp_c enc k w blk off HK.out m dk os hblk I J (by omega) (by omega)
      clear hHd bnd hxI hxJ
      obtain ⟨cI, hcI⟩ : ∃ c, c = enc xI := ⟨_, rfl⟩
      obtain ⟨cJ, hcJ⟩ : ∃ c, c = enc xJ := ⟨_, rfl⟩
      rw [← hcI] at lI2 hsI
      rw [← hcJ] at s1 lJ2 hsJ
      rw [← hcI, ← hcJ] at s2
      rw [← hcI, ← hcJ] at HSW
      clear hcI hcJ
      clear HW
      go_big_region_o
      all_goals go_wp2
      go_roundw
      case rel => exact ⟨i + 1, m + 1, os, by go_num, by omega, by show _ = _; rw [HSW.out, HI.out]⟩
      case measure => simp [intOf]; omega
    · have hltz : ¬ (i : Int) < (n : Int) := by omega
      obtain rfl : i = n := by omega
      go_wp2
      go_end0
      exact GivesSW.mk' m _ os HW HLn.out
end Go.Proofs.Ytbcpjdjlgmhohaa.SJ

/-
  Walk: two blocks that lie side by side change places. Conditions: none.
-/
namespace Go.Proofs.Ytbcpjdjlgmhohaa.SJ
open Go.Shelf Go.RowKit Go.Lib Go.Sort

set_option maxHeartbeats 4000000 in
set_option maxRecDepth 1000000 in
theorem rotateJ {P : Program} {α : Type} [Inhabited α] {k : Nat} (L : SLayJ P k) (enc : α → List Value) (hk : ∀ x, (enc x).length = k) (h1 : ∀ x, ∀ v ∈ enc x, v.oneCell' = true) (g : Nat) (cb : Array Value) (blk off cap : Nat) (d : Array α) (w : World)
    (hH : HoldsK enc k w blk off d) (hblk : blk < w.heap.size) (hsz : d.size < 4611686018427387904)
    (p u v s : List α) (a m b m0 : Nat) (os0 : Array Obj) (ha : p.length = a) (hm : a + u.length = m) (hb : m + v.length = b) (hu0 : 0 < u.length) (hv0 : 0 < v.length) (hd : d.size = b + s.length) (T : List α) (hT : p ++ v ++ u ++ s = T) :
    Calls P 71 #[.slice (some ⟨blk, off, none⟩) d.size cap, .int .i64 a, .int .i64 m, .int .i64 b, .func (.func g) #[] cb] (SWl enc k w blk off m0 (p ++ u ++ v ++ s) os0) (GivesSW enc k w blk off fun l' => l' = T) := by
  have mixed := L.mixed; have aE := L.aE; have zE := L.zE; have tyi := L.tyi; have agi := L.agi; have szi := L.szi; have zvi := L.zvi; have tyb := L.tyb; have agb := L.agb; have szb := L.szb; have zvb := L.zvb; have tyu := L.tyu; have agu := L.agu; have szu := L.szu; have zvu := L.zvu; have tys := L.tys; have ags := L.ags; have szs := L.szs; have zvs := L.zvs; have tyf := L.tyf; have agf := L.agf; have szf := L.szf; have zvf := L.zvf; have tyn := L.tyn; have agn := L.agn; have szn := L.szn; have zvn := L.zvn
  have HSWAP : Aside _ := fun (p u q v s : List α) (n a b m0 : Nat) (os0 : Array Obj) (hu : u.length = n) (hv : v.length = n) (ha : p.length = a) (hb : a + n + q.length = b) (hd : d.size = b + n + s.length) (T : List α) (hT : p ++ v ++ q ++ u ++ s = T) => swapRangeJ L enc hk h1 g cb blk off cap d w hH hblk hsz p u q v s n a b m0 os0 hu hv ha hb hd T hT
  clear hH hk h1
  have e0 : ∀ args w, (callFunc 74 args).run P w = .ok (.enter 74 args) w := enters_of L.f0 (by kernel_rfl) rfl
  have HL0 : Hid (∃ (P' U V S : List α) (i j : Nat), U.length = i ∧ V.length = j ∧ 0 < i ∧ 0 < j ∧ i = m - a ∧ j = b - m ∧ P'.length + i = m ∧ P'.length + i + j + S.length = d.size ∧ p ++ u ++ v ++ s = P' ++ U ++ V ++ S ∧ P' ++ V ++ U ++ S = T) :=
    ⟨p, u, v, s, _, _, rfl, rfl, hu0, hv0, by omega, by omega, by omega, by omega, rfl, hT⟩
  obtain ⟨l0, hl0⟩ : ∃ l0, p ++ u ++ v ++ s = l0 := ⟨_, rfl⟩
  rw [hl0] at HL0 ⊢
  have ham : a < m := by omega
  have hmb : m < b := by omega
  have hbd : b ≤ d.size := by omega
  clear hl0 hT ha hm hb hu0 hv0 hd
  go_enter L.f1, Try.ntmps71
  go_wp2
  go_loopw [10, 11] (fun vi vj wr => ∃ (i j n : Nat) (l : List α) (os : Array Obj), vi = .int .i64 i ∧ vj = .int .i64 j ∧ 0 < i ∧ 0 < j ∧ i ≤ m ∧ m + j ≤ d.size ∧ Hid (wr = SWl enc k w blk off n l os) ∧
      Hid (∃ (P' U V S : List α), U.length = i ∧ V.length = j ∧ P'.length + i = m ∧ P'.length + i + j + S.length = d.size ∧ l = P' ++ U ++ V ++ S ∧ P' ++ V ++ U ++ S = T)) (fun vi vj _ => (intOf vi).toNat + (intOf vj).toNat)
  case atStart =>
    obtain ⟨P', U, V, S, i, j, h1, h2, h3, h4, h5, h6, h7, h8, h9, h10⟩ := HL0.out
    exact ⟨m - a, b - m, m0, l0, os0, by go_num, by go_num, by omega, by omega, by omega, by omega, rfl, P', U, V, S, by omega, by omega, by omega, by omega, h9, h10⟩
  case round =>
    clear HL0
    obtain ⟨i, j, n, l, os, rfl, rfl, hi0, hj0, him, hjd, HW, HL⟩ := hrel
    by_cases hij : i = j
    · obtain rfl : i = j := hij
      have hg : ((i : Int) != (i : Int)) = false := by simp
      have mi : (m : Int) - (i : Int) = ((m - i : Nat) : Int) := by omega
      go_wp2_with fail
      rw [HW.out]
      obtain ⟨P', U, V, S, q1, q2, q3, q4, q5, q6⟩ := HL.out
      subst q5
      have := HSWAP.out P' U [] V S i (m - i) m n os q1 q2 (by omega) (by simp; omega) (by omega) T (by simpa using q6)
      rw [List.append_nil] at this
      refine this.mono ?_
      rintro e w' ⟨rfl, n', l', os', rfl, rfl⟩
      go_wp2
      go_end0
      exact GivesSW.mk' n' _ os' rfl rfl
    · by_cases hgt : j < i
      · have hg : ((i : Int) != (j : Int)) = true := by simp; omega
        have hg2 : decide ((i : Int) > (j : Int)) = true := decide_eq_true (by omega)
        have mi : (m : Int) - (i : Int) = ((m - i : Nat) : Int) := by omega
        go_wp2_with fail
        rw [HW.out]
        obtain ⟨P', U, V, S, q1, q2, q3, q4, q5, q6⟩ := HL.out
        subst q5
        have := HSWAP.out P' (U.take j) (U.drop j) V S j (m - i) m n os (by simp; omega) q2 (by omega) (by simp; omega) (by omega) (P' ++ V ++ U.drop j ++ U.take j ++ S) rfl
        rw [show P' ++ U.take j ++ U.drop j ++ V ++ S = P' ++ U ++ V ++ S by rw [List.append_assoc P', List.take_append_drop]] at this
        refine this.mono ?_
        rintro e w' ⟨rfl, n', l', os', rfl, hl'⟩
        have HL' : Hid (∃ (P' U V S : List α), U.length = i - j ∧ V.length = j ∧ P'.length + (i - j) = m ∧ P'.length + (i - j) + j + S.length = d.size ∧ l' = P' ++ U ++ V ++ S ∧ P' ++ V ++ U ++ S = T) :=
          ⟨P' ++ V, U.drop j, U.take j, S, by simp; omega, by simp; omega, by simp; omega, by simp; omega, hl', by rw [← q6]; exact rot_eq _ _ _ _ _⟩
        clear this hl' q1 q2 q3 q4 q6
        generalize hw2 : SWl enc k w blk off n' l' os' = w2
        have HW2 : Hid (w2 = SWl enc k w blk off n' l' os') := hw2.symm
        clear hw2
        go_wp2
        go_roundw
        case rel => exact ⟨i - j, j, n', l', os', by go_num, rfl, by omega, hj0, by omega, hjd, HW2, HL'⟩
        case measure => simp [intOf]; omega
      · have hg : ((i : Int) != (j : Int)) = true := by simp; omega
        have hg2 : decide ((i : Int) > (j : Int)) = false := decide_eq_false (by omega)
        have mi : (m : Int) - (i : Int) = ((m - i : Nat) : Int) := by omega
        have mj : (m : Int) + (j : Int) - (i : Int) = ((m + j - i : Nat) : Int) := by omega
        go_wp2_with fail
        rw [HW.out]
        obtain ⟨P', U, V, S, q1, q2, q3, q4, q5, q6⟩ := HL.out
        subst q5
        have := HSWAP.out P' U (V.take (j - i)) (V.drop (j - i)) S i (m - i) (m + j - i) n os q1 (by simp; omega) (by omega) (by simp; omega) (by omega) (P' ++ V.drop (j - i) ++ V.take (j - i) ++ U ++ S) rfl
        rw [show P' ++ U ++ V.take (j - i) ++ V.drop (j - i) ++ S = P' ++ U ++ V ++ S by rw [List.append_assoc (P' ++ U), List.take_append_drop]] at this
        refine this.mono ?_
        rintro e w' ⟨rfl, n', l', os', rfl, hl'⟩
        have HL' : Hid (∃ (P' U V S : List α), U.length = i ∧ V.length = j - i ∧ P'.length + i = m ∧ P'.length + i + (j - i) + S.length = d.size ∧ l' = P' ++ U ++ V ++ S ∧ P' ++ V ++ U ++ S = T) :=
          ⟨P', V.drop (j - i), V.take (j - i), U ++ S, by simp; omega, by simp; omega, by omega, by simp; omega, by rw [hl']; simp [List.append_assoc], by rw [← q6]; rw [← List.append_assoc, List.append_assoc P' (V.take (j - i)), List.take_append_drop]⟩
        clear this hl' q1 q2 q3 q4 q6
        generalize hw2 : SWl enc k w blk off n' l' os' = w2
        have HW2 : Hid (w2 = SWl enc k w blk off n' l' os') := hw2.symm
        clear hw2
        go_wp2
        go_roundw
        case rel => exact ⟨i, j - i, n', l', os', rfl, by go_num, hi0, by omega, him, by omega, HW2, HL'⟩
        case measure => simp [intOf]; omega
end Go.Proofs.Ytbcpjdjlgmhohaa.SJ

/-
  Walk: one element merged into a row behind it. Conditions: none.
-/
namespace Go.Proofs.Ytbcpjdjlgmhohaa.SJ
open Go.Shelf Go.RowKit Go.Lib Go.Sort

set_option maxHeartbeats 4000000 in
set_option maxRecDepth 1000000 in
theorem symOneJ {P : Program} {α : Type} [Inhabited α] {k : Nat} (L : SLayJ P k) (enc : α → List Value) (hk : ∀ x, (enc x).length = k) (h1 : ∀ x, ∀ v ∈ enc x, v.oneCell' = true)
    (cf : α → α → Int) (g : Nat) (cb : Array Value) (blk off cap : Nat) (d : Array α) (w : World) (eg : ∀ args w, (callFunc g args).run P w = .ok (.enter g args) w)
    (hcmp : CmpLays P g cb enc k cf blk off d.size w) (hH : HoldsK enc k w blk off d) (hblk : blk < w.heap.size) (hsz : d.size < 4611686018427387904)
    (o : Order cf) (p v s : List α) (x : α) (a m b m0 : Nat) (os0 : Array Obj) (hv : Srt cf v) (ha : p.length = a) (hm : a + 1 = m) (hb : m + v.length = b) (hd : d.size = b + s.length) (U : List α) (hU : [x] ++ v = U) :
    Calls P 69 #[.slice (some ⟨blk, off, none⟩) d.size cap, .int .i64 a, .int .i64 m, .int .i64 b, .func (.func g) #[] cb] (SWl enc k w blk off m0 (p ++ [x] ++ v ++ s) os0) (GivesSW enc k w blk off (Merged cf p s U)) := by
  have mixed := L.mixed; have aE := L.aE; have zE := L.zE; have tyi := L.tyi; have agi := L.agi; have szi := L.szi; have zvi := L.zvi; have tyb := L.tyb; have agb := L.agb; have szb := L.szb; have zvb := L.zvb; have tyu := L.tyu; have agu := L.agu; have szu := L.szu; have zvu := L.zvu; have tys := L.tys; have ags := L.ags; have szs := L.szs; have zvs := L.zvs; have tyf := L.tyf; have agf := L.agf; have szf := L.szf; have zvf := L.zvf; have tyn := L.tyn; have agn := L.agn; have szn := L.szn; have zvn := L.zvn
  have HC : Aside _ := hcmp
  have HH : Hid (HoldsK enc k w blk off d) := hH
  have HK : Hid (∀ x, (enc x).length = k) := hk
  have H1 : Hid (∀ x, ∀ v ∈ enc x, v.oneCell' = true) := h1
  clear hcmp hH hk h1
  have HO : Hid (Order cf) := o
  have HV : Hid (Srt cf v) := hv
  clear o hv
  obtain ⟨dk, hdk⟩ : ∃ dk, dk = (p ++ [x] ++ v ++ s).toArray := ⟨_, rfl⟩
  have HX : Hid (dk[a]! = x) := by show _ = _; rw [hdk, List.append_assoc (p ++ [x])]; exact get_at (t := 0) ha rfl
  have HG : Hid (∀ (t : Nat) (y : α), v[t]? = some y → dk[m + t]! = y) := fun t y h => by rw [hdk]; exact get_at (by simp; omega) h
  have hsk : dk.size = d.size := by rw [hdk]; simp; omega
  have HD : Hid (dk = (p ++ v.take 0 ++ x :: v.drop 0 ++ s).toArray) := by show _ = _; rw [hdk]; simp
  have HSW1 : Hid (∀ t, t < v.length → swp (p ++ v.take t ++ x :: v.drop t ++ s).toArray (a + t) (a + t + 1) = (p ++ v.take (t + 1) ++ x :: v.drop (t + 1) ++ s).toArray) := fun t ht => ins_swp p v s x t a ha ht
  have HSZ : Hid (∀ t, (p ++ v.take t ++ x :: v.drop t ++ s).toArray.size = d.size) := fun t => by simp only [List.size_toArray, List.length_append, List.length_cons, List.length_take, List.length_drop]; omega
  obtain ⟨w0, hw0⟩ : ∃ w0, SWl enc k w blk off m0 (p ++ [x] ++ v ++ s) os0 = w0 := ⟨_, rfl⟩
  have HW0 : Hid (w0 = sortWorldK enc k w blk off m0 dk os0) := by show _ = _; rw [hdk]; exact hw0.symm
  rw [hw0]
  clear hw0 hdk
  have hvl : v.length = b - m := by omega
  have hmb : m ≤ b := by omega
  have hbd : b ≤ d.size := by omega
  clear ha hb hd
  have hm1 : m ≤ a + 1 := by omega
  have hm2 : a + 1 ≤ m := by omega
  clear hm
  have HU : Hid ([x] ++ v = U) := hU
  clear hU
  have hg : (((m : Int) - (a : Int)) == 1) = true := by simp; omega
  go_enter L.f2, Try.ntmps69
  go_wp2
  go_loopw [10, 11] (fun vi vj wr => ∃ (i j : Nat), vi = .int .i64 i ∧ vj = .int .i64 j ∧ m ≤ i ∧ i ≤ j ∧ j ≤ b ∧ AtW enc k w blk off dk wr ∧ Lows cf x v (i - m) (j - m)) (fun vi vj _ => (intOf vj - intOf vi).toNat)
  case atStart => exact ⟨m, b, rfl, rfl, by omega, by omega, by omega, ⟨m0, os0, HW0.out⟩, by simp, by rw [List.drop_of_length_le (by omega)]; simp⟩
  case round =>
    clear HW0
    obtain ⟨i, j, rfl, rfl, hai, hij, hjb, ⟨nd, os, hw⟩, hb⟩ := hrel
    have HW : Hid (wr = sortWorldK enc k w blk off nd dk os) := hw
    have HB : Hid (Lows cf x v (i - m) (j - m)) := hb
    clear hw hb
    by_cases hlt : i < j
    · obtain ⟨M, hM⟩ : ∃ M, (i + j) / 2 = M := ⟨_, rfl⟩
      have hM1 : i ≤ M ∧ M < j := by omega
      obtain ⟨M0, M1⟩ := hM1
      have em : ((i : Int) + (j : Int)) / 2 = (M : Int) := by omega
      have bM : (M : Int) < (d.size : Int) := by omega
      have bA : (a : Int) < (d.size : Int) := by omega
      obtain ⟨xI, hxI⟩ : ∃ y, dk[M]! = y := ⟨_, rfl⟩
      obtain ⟨xJ, hxJ⟩ : ∃ y, dk[a]! = y := ⟨_, rfl⟩
      have HY : Hid (v[M - m]? = some xI ∧ xJ = x) := by
        have hl : M - m < v.length := by omega
        have := HG.out (M - m) _ (List.getElem?_eq_getElem hl)
        rw [show m + (M - m) = M by omega, hxI] at this
        exact ⟨by rw [this]; exact List.getElem?_eq_getElem hl, hxJ.symm.trans HX.out⟩
      have hcls : ∀ n' os', grow (wr.drewN n') os' = sortWorldK enc k w blk off (nd + n') dk (os ++ os') := fun n' os' => by rw [HW.out]; exact sortWorldK_grown_c enc k w blk off nd n' dk os os'
      have hHc : ∀ n' os', HoldsK enc k (grow (wr.drewN n') os') blk off dk := fun n' os' => by rw [hcls]; exact holdsK_sortWorldK_c enc k w blk off d dk _ _ HH.out hblk hsk
      have lI : ∀ n' os', Sem.run P (loadCellsFrom ⟨blk, off + M * k, none⟩ 0 k #[]) (grow (wr.drewN n') os') = .ok (enc xI).toArray (grow (wr.drewN n') os') := fun n' os' => by
        rw [← hxI]; exact run_loadCellsFrom_list P _ _ _ k (HK.out _) (HoldsK.cells (hHc n' os') HK.out (by omega))
      have lJ : ∀ n' os', Sem.run P (loadCellsFrom ⟨blk, off + a * k, none⟩ 0 k #[]) (grow (wr.drewN n') os') = .ok (enc xJ).toArray (grow (wr.drewN n') os') := fun n' os' => by
        rw [← hxJ]; exact run_loadCellsFrom_list P _ _ _ k (HK.out _) (HoldsK.cells (hHc n' os') HK.out (by omega))
      have hcg : ∀ n' os', Calls P g (#[.agg (enc xI).toArray, .agg (enc xJ).toArray] ++ cb) (grow (wr.drewN n') os') fun e w' => e = .returned (.int .i64 (cf xI xJ)) ∧ ∃ q os'', w' = grow ((grow (wr.drewN n') os').drewN q) os'' := fun n' os' => by
        rw [hcls]; exact HC.out _ _ dk hsk xI xJ
      have CLS : Hid _ := hcls
      clear hcls hHc hxI hxJ
      clear hM
      by_cases hlv : cf xI xJ < 0
      · have HB' : Hid (Lows cf x v (M + 1 - m) (j - m)) := by
          refine ⟨?_, HB.out.2⟩
          rw [show M + 1 - m = M - m + 1 by omega]
          exact lo_take HO.out HV.out HY.out.1 (HY.out.2 ▸ hlv)
        go_wp2_with fail
        go_quiet_grown (first | (go_at_fn g; refine Calls.grown_of (hcg _ _)))
        go_wp2
        go_roundw
        case rel => exact ⟨M + 1, j, by go_num, rfl, by omega, by omega, hjb, ⟨_, _, CLS.out nq osq⟩, HB'.out⟩
        case measure => simp [intOf]; omega
      · have HB' : Hid (Lows cf x v (i - m) (M - m)) := by
          exact ⟨HB.out.1, lo_drop HO.out HV.out HY.out.1 (HY.out.2 ▸ hlv)⟩
        go_wp2_with fail
        go_quiet_grown (first | (go_at_fn g; refine Calls.grown_of (hcg _ _)))
        go_wp2
        go_roundw
        case rel => exact ⟨i, M, rfl, rfl, by omega, by omega, by omega, ⟨_, _, CLS.out nq osq⟩, HB'.out⟩
        case measure => simp [intOf]; omega
    · obtain rfl : i = j := by omega
      clear HC HX HG
      go_wp2
      go_loopw [13] (fun vk wr => ∃ (t : Nat), vk = .int .i64 ((a + t : Nat) : Int) ∧ m + t ≤ i ∧ AtW enc k w blk off (p ++ v.take t ++ x :: v.drop t ++ s).toArray wr) (fun vk _ => (i : Nat) - (intOf vk).toNat)
      case atStart => exact ⟨0, by go_num, by omega, nd, os, by rw [HW.out, HD.out]⟩
      case round =>
        clear HW
        obtain ⟨t, rfl, hti, ⟨nd, os, hw⟩⟩ := hrel
        have HW : Hid (wr = SWl enc k w blk off nd (p ++ v.take t ++ x :: v.drop t ++ s) os) := hw
        clear hw
        by_cases hlt2 : m + t < i
        · obtain ⟨I, hI⟩ : ∃ I, a + t = I := ⟨_, rfl⟩
          rw [hI]
          obtain ⟨J, hJ⟩ : ∃ J, I + 1 = J := ⟨_, rfl⟩
          have hg2 : (I : Int) < (i : Int) - 1 := by omega
          have wJ : IntKind.i64.wrap ((I : Int) + 1) = (J : Int) := by rw [IntKind.wrap_i64]; omega
          have bI : (I : Int) < (d.size : Int) := by omega
          have bJ : (J : Int) < (d.size : Int) := by omega
          obtain ⟨dj, hdj⟩ : ∃ dj, dj = (p ++ v.take t ++ x :: v.drop t ++ s).toArray := ⟨_, rfl⟩
          have hsj : dj.size = d.size := by rw [hdj]; exact HSZ.out t
          have HI : Hid (swp dj I J = (p ++ v.take (t + 1) ++ x :: v.drop (t + 1) ++ s).toArray) := by show _ = _; rw [hdj, ← hJ, ← hI]; exact HSW1.out t (by omega)
          replace HW : Hid (wr = sortWorldK enc k w blk off nd dj os) := by show _ = _; rw [hdj]; exact HW.out
          clear hdj
          go_wp2_with fail
          obtain ⟨xI, hxI⟩ : ∃ x, dj[I]! = x := ⟨_, rfl⟩
          obtain ⟨xJ, hxJ⟩ : ∃ x, dj[J]! = x := ⟨_, rfl⟩
          have hHd : HoldsK enc k wr.drew blk off dj := by
            have : HoldsK enc k wr blk off dj := by rw [HW.out]; exact holdsK_sortWorldK_c enc k w blk off d _ _ _ HH.out hblk hsj
            exact this
          have bnd : ∀ x, x < dj.size → x * k + k ≤ dj.size * k := fun x hx => by
            have := Nat.mul_le_mul_right k (show x + 1 ≤ dj.size from hx); rwa [Nat.add_mul, Nat.one_mul] at this
          have lI2 : Sem.run P (loadCellsFrom ⟨blk, off + I * k, none⟩ 0 k #[]) wr.drew = .ok (enc xI).toArray wr.drew := by rw [← hxI]; exact run_loadCellsFrom_list P _ _ _ k (HK.out _) (HoldsK.cells hHd HK.out (by omega))
          have lJ2 : Sem.run P (loadCellsFrom ⟨blk, off + J * k, none⟩ 0 k #[]) wr.drew = .ok (enc xJ).toArray wr.drew := by rw [← hxJ]; exact run_loadCellsFrom_list P _ _ _ k (HK.out _) (HoldsK.cells hHd HK.out (by omega))
          have s1 : Sem.run P (storeCells ⟨blk, off + I * k, none⟩ (enc xJ) 0) wr.drew = .ok () (wr.drew.setCells blk (off + I * k) (enc xJ)) := stores_of_holds P hHd (I * k) _ (by rw [HK.out, size_flatK]; exact bnd I (by omega)) (H1.out _)
          have s2 : Sem.run P (storeCells ⟨blk, off + J * k, none⟩ (enc xI) 0) (wr.drew.setCells blk (off + I * k) (enc xJ)) = .ok () ((wr.drew.setCells blk (off + I * k) (enc xJ)).setCells blk (off + J * k) (enc xI)) :=
            stores_of_holds P (holds_setCells_c hHd (I * k) _ (by rw [HK.out, size_flatK]; exact bnd I (by omega))) (J * k) _ (by rw [HK.out, size_setMany, size_flatK]; exact bnd J (by omega)) (H1.out _)
          have hsI : (enc xI).length = k := HK.out _
          have hsJ : (enc xJ).length = k := HK.out _
          have HSW : Hid (((wr.drew.setCells blk (off + I * k) (enc xJ)).setCells blk (off + J * k) (enc xI)) = sortWorldK enc k w blk off (nd + 1) (swp dj I J) os) := by
            show _ = _
            rw [HW.out, ← hxI, ← hxJ]
            exact sortWorldK_swp_c enc k w blk off HK.out nd dj os hblk I J (by omega) (by omega)
          clear hHd bnd hxI hxJ
          obtain ⟨cI, hcI⟩ : ∃ c, c = enc xI := ⟨_, rfl⟩
          obtain ⟨cJ, hcJ⟩ : ∃ c, c = enc xJ := ⟨_, rfl⟩
          rw [← hcI] at lI2 hsI
          rw [← hcJ] at s1 lJ2 hsJ
          rw [← hcI, ← hcJ] at s2
          rw [← hcI, ← hcJ] at HSW
          clear hcI hcJ
          clear HW
          go_big_region_o
          all_goals go_wp2
          go_roundw
          case rel => exact ⟨t + 1, by go_num, by omega, nd + 1, os, by rw [HSW.out, HI.out]⟩
          case measure => simp [intOf]; omega
        · have hg2 : ¬ ((a + t : Nat) : Int) < (i : Int) - 1 := by omega
          obtain ⟨I, hI⟩ : ∃ I, a + t = I := ⟨_, rfl⟩
          rw [hI] at hg2 ⊢
          go_wp2
          go_end0
          refine GivesSW.mk' nd (p ++ (v.take t ++ x :: v.drop t) ++ s) os (by show _ = _; rw [HW.out, ← List.append_assoc p]) ⟨_, rfl, ?_⟩
          rw [← HU.out]
          have ht : t = i - m := by omega
          have := HB.out
          rw [← ht] at this
          exact one_left HO.out HV.out this.1 this.2
end Go.Proofs.Ytbcpjdjlgmhohaa.SJ

/-
  Walk: one element merged into a row ahead of it. Conditions: none.
-/
namespace Go.Proofs.Ytbcpjdjlgmhohaa.SJ
open Go.Shelf Go.RowKit Go.Lib Go.Sort

set_option maxHeartbeats 4000000 in
set_option maxRecDepth 1000000 in
theorem symTwoJ {P : Program} {α : Type} [Inhabited α] {k : Nat} (L : SLayJ P k) (enc : α → List Value) (hk : ∀ x, (enc x).length = k) (h1 : ∀ x, ∀ v ∈ enc x, v.oneCell' = true)
    (cf : α → α → Int) (g : Nat) (cb : Array Value) (blk off cap : Nat) (d : Array α) (w : World) (eg : ∀ args w, (callFunc g args).run P w = .ok (.enter g args) w)
    (hcmp : CmpLays P g cb enc k cf blk off d.size w) (hH : HoldsK enc k w blk off d) (hblk : blk < w.heap.size) (hsz : d.size < 4611686018427387904)
    (o : Order cf) (p v s : List α) (x : α) (a m b m0 : Nat) (os0 : Array Obj) (hv : Srt cf v) (ha : p.length = a) (hm : a + v.length = m) (hn : v.length ≠ 1) (hn0 : v.length ≠ 0) (hb : m + 1 = b) (hd : d.size = b + s.length) (U : List α) (hU : v ++ [x] = U) :
    Calls P 69 #[.slice (some ⟨blk, off, none⟩) d.size cap, .int .i64 a, .int .i64 m, .int .i64 b, .func (.func g) #[] cb] (SWl enc k w blk off m0 (p ++ v ++ [x] ++ s) os0) (GivesSW enc k w blk off (Merged cf p s U)) := by
  have mixed := L.mixed; have aE := L.aE; have zE := L.zE; have tyi := L.tyi; have agi := L.agi; have szi := L.szi; have zvi := L.zvi; have tyb := L.tyb; have agb := L.agb; have szb := L.szb; have zvb := L.zvb; have tyu := L.tyu; have agu := L.agu; have szu := L.szu; have zvu := L.zvu; have tys := L.tys; have ags := L.ags; have szs := L.szs; have zvs := L.zvs; have tyf := L.tyf; have agf := L.agf; have szf := L.szf; have zvf := L.zvf; have tyn := L.tyn; have agn := L.agn; have szn := L.szn; have zvn := L.zvn
  have HC : Aside _ := hcmp
  have HH : Hid (HoldsK enc k w blk off d) := hH
  have HK : Hid (∀ x, (enc x).length = k) := hk
  have H1 : Hid (∀ x, ∀ v ∈ enc x, v.oneCell' = true) := h1
  clear hcmp hH hk h1
  have HO : Hid (Order cf) := o
  have HV : Hid (Srt cf v) := hv
  clear o hv
  obtain ⟨dk, hdk⟩ : ∃ dk, dk = (p ++ v ++ [x] ++ s).toArray := ⟨_, rfl⟩
  have HX : Hid (dk[m]! = x) := by show _ = _; rw [hdk]; exact get_at (p := p ++ v) (t := 0) (by simp; omega) rfl
  have HG : Hid (∀ (t : Nat) (y : α), v[t]? = some y → dk[a + t]! = y) := fun t y h => by rw [hdk, List.append_assoc (p ++ v)]; exact get_at ha h
  have hsk : dk.size = d.size := by rw [hdk]; simp; omega
  have HD : Hid (dk = (p ++ v.take v.length ++ x :: v.drop v.length ++ s).toArray) := by show _ = _; rw [hdk]; simp
  have HSW1 : Hid (∀ t, t < v.length → swp (p ++ v.take (t + 1) ++ x :: v.drop (t + 1) ++ s).toArray (a + t + 1) (a + t) = (p ++ v.take t ++ x :: v.drop t ++ s).toArray) := fun t ht => ins_swp' p v s x t a ha ht
  have HSZ : Hid (∀ t, (p ++ v.take t ++ x :: v.drop t ++ s).toArray.size = d.size) := fun t => by simp only [List.size_toArray, List.length_append, List.length_cons, List.length_take, List.length_drop]; omega
  obtain ⟨w0, hw0⟩ : ∃ w0, SWl enc k w blk off m0 (p ++ v ++ [x] ++ s) os0 = w0 := ⟨_, rfl⟩
  have HW0 : Hid (w0 = sortWorldK enc k w blk off m0 dk os0) := by show _ = _; rw [hdk]; exact hw0.symm
  rw [hw0]
  clear hw0 hdk
  have hvl : v.length = m - a := by omega
  have ham : a + 2 ≤ m := by omega
  have hbm1 : b ≤ m + 1 := by omega
  have hbm2 : m + 1 ≤ b := by omega
  have hbd : b ≤ d.size := by omega
  clear ha hm hd hn hn0 hb
  have HU : Hid (v ++ [x] = U) := hU
  clear hU
  have hg0 : (((m : Int) - (a : Int)) == 1) = false := by simp; omega
  have hg : (((b : Int) - (m : Int)) == 1) = true := by simp; omega
  go_enter L.f2, Try.ntmps69
  go_wp2
  go_loopw [14, 15] (fun vi vj wr => ∃ (i j : Nat), vi = .int .i64 i ∧ vj = .int .i64 j ∧ a ≤ i ∧ i ≤ j ∧ j ≤ m ∧ AtW enc k w blk off dk wr ∧ Highs cf x v (i - a) (j - a)) (fun vi vj _ => (intOf vj - intOf vi).toNat)
  case atStart => exact ⟨a, m, rfl, rfl, by omega, by omega, by omega, ⟨m0, os0, HW0.out⟩, by simp, by rw [List.drop_of_length_le (by omega)]; simp⟩
  case round =>
    clear HW0
    obtain ⟨i, j, rfl, rfl, hai, hij, hjb, ⟨nd, os, hw⟩, hb⟩ := hrel
    have HW : Hid (wr = sortWorldK enc k w blk off nd dk os) := hw
    have HB : Hid (Highs cf x v (i - a) (j - a)) := hb
    clear hw hb
    by_cases hlt : i < j
    · obtain ⟨M, hM⟩ : ∃ M, (i + j) / 2 = M := ⟨_, rfl⟩
      have hM1 : i ≤ M ∧ M < j := by omega
      obtain ⟨M0, M1⟩ := hM1
      have em : ((i : Int) + (j : Int)) / 2 = (M : Int) := by omega
      have bM : (M : Int) < (d.size : Int) := by omega
      have bA : (m : Int) < (d.size : Int) := by omega
      obtain ⟨xI, hxI⟩ : ∃ y, dk[m]! = y := ⟨_, rfl⟩
      obtain ⟨xJ, hxJ⟩ : ∃ y, dk[M]! = y := ⟨_, rfl⟩
      have HY : Hid (v[M - a]? = some xJ ∧ xI = x) := by
        have hl : M - a < v.length := by omega
        have := HG.out (M - a) _ (List.getElem?_eq_getElem hl)
        rw [show a + (M - a) = M by omega, hxJ] at this
        exact ⟨by rw [this]; exact List.getElem?_eq_getElem hl, hxI.symm.trans HX.out⟩
      have hcls : ∀ n' os', grow (wr.drewN n') os' = sortWorldK enc k w blk off (nd + n') dk (os ++ os') := fun n' os' => by rw [HW.out]; exact sortWorldK_grown_c enc k w blk off nd n' dk os os'
      have hHc : ∀ n' os', HoldsK enc k (grow (wr.drewN n') os') blk off dk := fun n' os' => by rw [hcls]; exact holdsK_sortWorldK_c enc k w blk off d dk _ _ HH.out hblk hsk
      have lI : ∀ n' os', Sem.run P (loadCellsFrom ⟨blk, off + m * k, none⟩ 0 k #[]) (grow (wr.drewN n') os') = .ok (enc xI).toArray (grow (wr.drewN n') os') := fun n' os' => by
        rw [← hxI]; exact run_loadCellsFrom_list P _ _ _ k (HK.out _) (HoldsK.cells (hHc n' os') HK.out (by omega))
      have lJ : ∀ n' os', Sem.run P (loadCellsFrom ⟨blk, off + M * k, none⟩ 0 k #[]) (grow (wr.drewN n') os') = .ok (enc xJ).toArray (grow (wr.drewN n') os') := fun n' os' => by
        rw [← hxJ]; exact run_loadCellsFrom_list P _ _ _ k (HK.out _) (HoldsK.cells (hHc n' os') HK.out (by omega))
      have hcg : ∀ n' os', Calls P g (#[.agg (enc xI).toArray, .agg (enc xJ).toArray] ++ cb) (grow (wr.drewN n') os') fun e w' => e = .returned (.int .i64 (cf xI xJ)) ∧ ∃ q os'', w' = grow ((grow (wr.drewN n') os').drewN q) os'' := fun n' os' => by
        rw [hcls]; exact HC.out _ _ dk hsk xI xJ
      have CLS : Hid _ := hcls
      clear hcls hHc hxI hxJ
      clear hM
      by_cases hlv : cf xI xJ < 0
      · have HB' : Hid (Highs cf x v (i - a) (M - a)) := by
          exact ⟨HB.out.1, hi_drop HO.out HV.out HY.out.1 (HY.out.2 ▸ hlv)⟩
        have hdv : (!decide (cf xI xJ < 0)) = false := by simp [hlv]
        go_wp2_with fail
        go_quiet_grown (first | (go_at_fn g; refine Calls.grown_of (hcg _ _)))
        go_wp2
        go_roundw
        case rel => exact ⟨i, M, rfl, rfl, by omega, by omega, by omega, ⟨_, _, CLS.out nq osq⟩, HB'.out⟩
        case measure => simp [intOf]; omega
      · have HB' : Hid (Highs cf x v (M + 1 - a) (j - a)) := by
          refine ⟨?_, HB.out.2⟩
          rw [show M + 1 - a = M - a + 1 by omega]
          exact hi_take HO.out HV.out HY.out.1 (HY.out.2 ▸ hlv)
        have hdv : (!decide (cf xI xJ < 0)) = true := by simp [hlv]
        go_wp2_with fail
        go_quiet_grown (first | (go_at_fn g; refine Calls.grown_of (hcg _ _)))
        go_wp2
        go_roundw
        case rel => exact ⟨M + 1, j, by go_num, rfl, by omega, by omega, hjb, ⟨_, _, CLS.out nq osq⟩, HB'.out⟩
        case measure => simp [intOf]; omega
    · obtain rfl : i = j := by omega
      clear HC HX HG
      go_wp2
      go_loopw [17] (fun vk wr => ∃ (t : Nat), vk = .int .i64 ((a + t : Nat) : Int) ∧ i ≤ a + t ∧ a + t ≤ m ∧ AtW enc k w blk off (p ++ v.take t ++ x :: v.drop t ++ s).toArray wr) (fun vk _ => (intOf vk).toNat)
      case atStart => exact ⟨v.length, by rw [show a + v.length = m by omega], by omega, by omega, nd, os, by rw [HW.out, HD.out]⟩
      case round =>
        clear HW
        obtain ⟨t, rfl, hti, htm, ⟨nd, os, hw⟩⟩ := hrel
        have HW : Hid (wr = SWl enc k w blk off nd (p ++ v.take t ++ x :: v.drop t ++ s) os) := hw
        clear hw
        by_cases hlt2 : i < a + t
        · obtain ⟨t, rfl⟩ : ∃ t', t = t' + 1 := ⟨t - 1, by omega⟩
          obtain ⟨I, hI⟩ : ∃ I, a + (t + 1) = I := ⟨_, rfl⟩
          rw [hI]
          obtain ⟨J, hJ⟩ : ∃ J, a + t = J := ⟨_, rfl⟩
          have hIJ : I = J + 1 := by omega
          have hg2 : (I : Int) > (i : Int) := by omega
          have wJ : IntKind.i64.wrap ((I : Int) - 1) = (J : Int) := by rw [IntKind.wrap_i64]; omega
          have bI : (I : Int) < (d.size : Int) := by omega
          have bJ : (J : Int) < (d.size : Int) := by omega
          obtain ⟨dj, hdj⟩ : ∃ dj, dj = (p ++ v.take (t + 1) ++ x :: v.drop (t + 1) ++ s).toArray := ⟨_, rfl⟩
          have hsj : dj.size = d.size := by rw [hdj]; exact HSZ.out (t + 1)
          have HI : Hid (swp dj I J = (p ++ v.take t ++ x :: v.drop t ++ s).toArray) := by show _ = _; rw [hdj, hIJ, ← hJ]; exact HSW1.out t (by omega)
          replace HW : Hid (wr = sortWorldK enc k w blk off nd dj os) := by show _ = _; rw [hdj]; exact HW.out
          clear hdj
          have hIJ1 : I ≤ J + 1 := by omega
          have hIJ2 : J + 1 ≤ I := by omega
          clear hIJ
          go_wp2_with fail
          obtain ⟨xI, hxI⟩ : ∃ x, dj[I]! = x := ⟨_, rfl⟩
          obtain ⟨xJ, hxJ⟩ : ∃ x, dj[J]! = x := ⟨_, rfl⟩
          have hHd : HoldsK enc k wr.drew blk off dj := by
            have : HoldsK enc k wr blk off dj := by rw [HW.out]; exact holdsK_sortWorldK_c enc k w blk off d _ _ _ HH.out hblk hsj
            exact this
          have bnd : ∀ x, x < dj.size → x * k + k ≤ dj.size * k := fun x hx => by
            have := Nat.mul_le_mul_right k (show x + 1 ≤ dj.size from hx); rwa [Nat.add_mul, Nat.one_mul] at this
          have lI2 : Sem.run P (loadCellsFrom ⟨blk, off + I * k, none⟩ 0 k #[]) wr.drew = .ok (enc xI).toArray wr.drew := by rw [← hxI]; exact run_loadCellsFrom_list P _ _ _ k (HK.out _) (HoldsK.cells hHd HK.out (by omega))
          have lJ2 : Sem.run P (loadCellsFrom ⟨blk, off + J * k, none⟩ 0 k #[]) wr.drew = .ok (enc xJ).toArray wr.drew := by rw [← hxJ]; exact run_loadCellsFrom_list P _ _ _ k (HK.out _) (HoldsK.cells hHd HK.out (by omega))
          have s1 : Sem.run P (storeCells ⟨blk, off + I * k, none⟩ (enc xJ) 0) wr.drew = .ok () (wr.drew.setCells blk (off + I * k) (enc xJ)) := stores_of_holds P hHd (I * k) _ (by rw [HK.out, size_flatK]; exact bnd I (by omega)) (H1.out _)
          have s2 : Sem.run P (storeCells ⟨blk, off + J * k, none⟩ (enc xI) 0) (wr.drew.setCells blk (off + I * k) (enc xJ)) = .ok () ((wr.drew.setCells blk (off + I * k) (enc xJ)).setCells blk (off + J * k) (enc xI)) :=
            stores_of_holds P (holds_setCells_c hHd (I * k) _ (by rw [HK.out, size_flatK]; exact bnd I (by omega))) (J * k) _ (by rw [HK.out, size_setMany, size_flatK]; exact bnd J (by omega)) (H1.out _)
          have hsI : (enc xI).length = k := HK.out _
          have hsJ : (enc xJ).length = k := HK.out _
          have HSW : Hid (((wr.drew.setCells blk (off + I * k) (enc xJ)).setCells blk (off + J * k) (enc xI)) = sortWorldK enc k w blk off (nd + 1) (swp dj I J) os) := by
            show _ = _
            rw [HW.out, ← hxI, ← hxJ]
            exact sortWorldK_swp_c enc k w blk off HK.out nd dj os hblk I J (by omega) (by omega)
          clear hHd bnd hxI hxJ
          obtain ⟨cI, hcI⟩ : ∃ c, c = enc xI := ⟨_, rfl⟩
          obtain ⟨cJ, hcJ⟩ : ∃ c, c = enc xJ := ⟨_, rfl⟩
          rw [← hcI] at lI2 hsI
          rw [← hcJ] at s1 lJ2 hsJ
          rw [← hcI, ← hcJ] at s2
          rw [← hcI, ← hcJ] at HSW
          clear hcI hcJ
          clear HW
          go_big_region_o
          all_goals go_wp2
          go_roundw
          case rel => exact ⟨t, by go_num, by omega, by omega, nd + 1, os, by rw [HSW.out, HI.out]⟩
          case measure => simp [intOf]; omega
        · have hg2 : ¬ ((a + t : Nat) : Int) > (i : Int) := by omega
          obtain ⟨I, hI⟩ : ∃ I, a + t = I := ⟨_, rfl⟩
          rw [hI] at hg2 ⊢
          go_wp2
          go_end0
          refine GivesSW.mk' nd (p ++ (v.take t ++ x :: v.drop t) ++ s) os (by show _ = _; rw [HW.out, ← List.append_assoc p]) ⟨_, rfl, ?_⟩
          rw [← HU.out]
          have ht : t = i - a := by omega
          have := HB.out
          rw [← ht] at this
          exact one_right HO.out HV.out this.1 this.2
end Go.Proofs.Ytbcpjdjlgmhohaa.SJ

/-
  Walk: two rows in order, side by side, merged in their place: one half. Conditions: none.
-/
namespace Go.Proofs.Ytbcpjdjlgmhohaa.SJ
open Go.Shelf Go.RowKit Go.Lib Go.Sort

set_option maxHeartbeats 16000000 in
set_option maxRecDepth 1000000 in
theorem symBigAJ {P : Program} {α : Type} [Inhabited α] {k : Nat} (L : SLayJ P k) (enc : α → List Value) (hk : ∀ x, (enc x).length = k) (h1 : ∀ x, ∀ v ∈ enc x, v.oneCell' = true)
    (cf : α → α → Int) (g : Nat) (cb : Array Value) (blk off cap : Nat) (d : Array α) (w : World) (eg : ∀ args w, (callFunc g args).run P w = .ok (.enter g args) w)
    (hcmp : CmpLays P g cb enc k cf blk off d.size w) (hH : HoldsK enc k w blk off d) (hblk : blk < w.heap.size) (hsz : d.size < 4611686018427387904)
    (o : Order cf) (N : Nat) (ih : ∀ (p u v s : List α) (a m b m0 : Nat) (os0 : Array Obj), Srt cf u → Srt cf v → p.length = a → a + u.length = m → m + v.length = b → 0 < u.length → 0 < v.length → d.size = b + s.length → b - a ≤ N → ∀ U : List α, u ++ v = U → Calls P 69 #[.slice (some ⟨blk, off, none⟩) d.size cap, .int .i64 a, .int .i64 m, .int .i64 b, .func (.func g) #[] cb] (SWl enc k w blk off m0 (p ++ u ++ v ++ s) os0) (GivesSW enc k w blk off (Merged cf p s U)))
    (p u v s : List α) (a m b m0 : Nat) (os0 : Array Obj) (hsu : Srt cf u) (hsv : Srt cf v) (hpa : p.length = a) (hm : a + u.length = m) (hb : m + v.length = b) (hu0 : 0 < u.length) (hv0 : 0 < v.length) (hd : d.size = b + s.length) (hN : b - a ≤ N + 1) (hu1 : u.length ≠ 1) (hv1 : v.length ≠ 1) (hmm0 : (a + b) / 2 < m) (U : List α) (hU : u ++ v = U) :
    Calls P 69 #[.slice (some ⟨blk, off, none⟩) d.size cap, .int .i64 a, .int .i64 m, .int .i64 b, .func (.func g) #[] cb] (SWl enc k w blk off m0 (p ++ u ++ v ++ s) os0) (GivesSW enc k w blk off (Merged cf p s U)) := by
  have mixed := L.mixed; have aE := L.aE; have zE := L.zE; have tyi := L.tyi; have agi := L.agi; have szi := L.szi; have zvi := L.zvi; have tyb := L.tyb; have agb := L.agb; have szb := L.szb; have zvb := L.zvb; have tyu := L.tyu; have agu := L.agu; have szu := L.szu; have zvu := L.zvu; have tys := L.tys; have ags := L.ags; have szs := L.szs; have zvs := L.zvs; have tyf := L.tyf; have agf := L.agf; have szf := L.szf; have zvf := L.zvf; have tyn := L.tyn; have agn := L.agn; have szn := L.szn; have zvn := L.zvn
  have HR : Aside _ := fun (p u v s : List α) (a m b m0 : Nat) (os0 : Array Obj) (ha : p.length = a) (hm : a + u.length = m) (hb : m + v.length = b) (hu0 : 0 < u.length) (hv0 : 0 < v.length) (hd : d.size = b + s.length) (T : List α) (hT : p ++ v ++ u ++ s = T) => rotateJ L enc hk h1 g cb blk off cap d w hH hblk hsz p u v s a m b m0 os0 ha hm hb hu0 hv0 hd T hT
  have HC : Aside _ := hcmp
  have HH : Hid (HoldsK enc k w blk off d) := hH
  have HK : Hid (∀ x, (enc x).length = k) := hk
  have H1 : Hid (∀ x, ∀ v ∈ enc x, v.oneCell' = true) := h1
  clear hcmp hH hk h1
  have e1 : ∀ args w, (callFunc 71 args).run P w = .ok (.enter 71 args) w := enters_of L.f1 (by kernel_rfl) rfl
  have e2 : ∀ args w, (callFunc 69 args).run P w = .ok (.enter 69 args) w := enters_of L.f2 (by kernel_rfl) rfl
  have IH : Aside _ := ih
  have HO : Hid (Order cf) := o
  have HSU : Hid (Srt cf u) := hsu
  have HSV : Hid (Srt cf v) := hsv
  clear ih o hsu hsv
  obtain ⟨dk, hdk⟩ : ∃ dk, dk = (p ++ u ++ v ++ s).toArray := ⟨_, rfl⟩
  have HDK : Hid (dk = (p ++ u ++ v ++ s).toArray) := hdk
  have HGU : Hid (∀ (t : Nat) (y : α), u[t]? = some y → dk[a + t]! = y) := fun t y h => by rw [hdk, List.append_assoc (p ++ u)]; exact get_at hpa h
  have HGV : Hid (∀ (t : Nat) (y : α), v[t]? = some y → dk[m + t]! = y) := fun t y h => by rw [hdk]; exact get_at (by simp; omega) h
  have hsk : dk.size = d.size := by rw [hdk]; simp; omega
  have HU : Hid (u ++ v = U) := hU
  clear hU
  obtain ⟨w0, hw0⟩ : ∃ w0, SWl enc k w blk off m0 (p ++ u ++ v ++ s) os0 = w0 := ⟨_, rfl⟩
  have HW0 : Hid (w0 = sortWorldK enc k w blk off m0 dk os0) := by show _ = _; rw [hdk]; exact hw0.symm
  rw [hw0]
  clear hw0 hdk
  have hul : u.length = m - a := by omega
  have hvl : v.length = b - m := by omega
  have ham : a + 2 ≤ m := by omega
  have hmb : m + 2 ≤ b := by omega
  have hbd : b ≤ d.size := by omega
  have _ := hu1
  have _ := hv1
  clear hu0 hv0 hu1 hv1
  have hd1 : d.size ≤ b + s.length := by omega
  have hd2 : b + s.length ≤ d.size := by omega
  clear hd
  have hg0 : (((m : Int) - (a : Int)) == 1) = false := by simp; omega
  have hg1 : (((b : Int) - (m : Int)) == 1) = false := by simp; omega
  obtain ⟨M, hM⟩ : ∃ M, (a + b) / 2 = M := ⟨_, rfl⟩
  have eM : ((a : Int) + (b : Int)) / 2 = (M : Int) := by omega
  have hM1 : 2 * M ≤ a + b := by omega
  have hM2 : a + b ≤ 2 * M + 1 := by omega
  have hmm : M < m := by omega
  clear hM hmm0
  obtain ⟨Nn, hNn⟩ : ∃ Nn, M + m = Nn := ⟨_, rfl⟩
  have eN : (M : Int) + (m : Int) = (Nn : Int) := by omega
  obtain ⟨PP, hPP⟩ : ∃ PP, Nn - 1 = PP := ⟨_, rfl⟩
  have eP : (Nn : Int) - 1 = (PP : Int) := by omega
  go_enter L.f2, Try.ntmps69
  obtain ⟨lo, hlo⟩ : ∃ lo, Nn - b = lo := ⟨_, rfl⟩
  have elo : (Nn : Int) - (b : Int) = (lo : Int) := by omega
  have hgm : decide ((m : Int) > (M : Int)) = true := by simp; omega
  have hgm2 : decide (M < m) = true := by simp; omega
  go_wp2
  go_loopw [20, 21] (fun vi vj wr => ∃ (i j : Nat), vi = .int .i64 i ∧ vj = .int .i64 j ∧ lo ≤ i ∧ i ≤ j ∧ j ≤ M ∧ AtW enc k w blk off dk wr ∧ Cutw cf dk PP lo M i j) (fun vi vj _ => (intOf vj - intOf vi).toNat)
  case atStart => exact ⟨lo, M, rfl, rfl, by omega, by omega, by omega, ⟨m0, os0, HW0.out⟩, .inl rfl, .inl rfl⟩
  case round =>
    clear HW0
    obtain ⟨i, j, rfl, rfl, hai, hij, hjb, ⟨nd, os, hw⟩, hb⟩ := hrel
    have HW : Hid (wr = sortWorldK enc k w blk off nd dk os) := hw
    have HB : Hid (Cutw cf dk PP lo M i j) := hb
    clear hw hb
    by_cases hlt : i < j
    · clear IH HR HU
      obtain ⟨C, hC⟩ : ∃ C, (i + j) / 2 = C := ⟨_, rfl⟩
      have hC1 : i ≤ C ∧ C < j := by omega
      obtain ⟨C0, C1⟩ := hC1
      have eC : ((i : Int) + (j : Int)) / 2 = (C : Int) := by omega
      obtain ⟨Q, hQ⟩ : ∃ Q, PP - C = Q := ⟨_, rfl⟩
      have wQ : IntKind.i64.wrap ((PP : Int) - (C : Int)) = (Q : Int) := by rw [IntKind.wrap_i64]; omega
      have bQ : (Q : Int) < (d.size : Int) := by omega
      have bC : (C : Int) < (d.size : Int) := by omega
      have bQ' : Q < dk.size := by omega
      have bC' : C < dk.size := by omega
      obtain ⟨xI, hxI⟩ : ∃ y, dk[Q]! = y := ⟨_, rfl⟩
      obtain ⟨xJ, hxJ⟩ : ∃ y, dk[C]! = y := ⟨_, rfl⟩
      have HY : Hid (dk[PP - C]! = xI ∧ dk[C]! = xJ) := ⟨by rw [hQ]; exact hxI, hxJ⟩
      have hcls : ∀ n' os', grow (wr.drewN n') os' = sortWorldK enc k w blk off (nd + n') dk (os ++ os') := fun n' os' => by rw [HW.out]; exact sortWorldK_grown_c enc k w blk off nd n' dk os os'
      have hHc : ∀ n' os', HoldsK enc k (grow (wr.drewN n') os') blk off dk := fun n' os' => by rw [hcls]; exact holdsK_sortWorldK_c enc k w blk off d dk _ _ HH.out hblk hsk
      have lI : ∀ n' os', Sem.run P (loadCellsFrom ⟨blk, off + Q * k, none⟩ 0 k #[]) (grow (wr.drewN n') os') = .ok (enc xI).toArray (grow (wr.drewN n') os') := fun n' os' => by
        rw [← hxI]; exact run_loadCellsFrom_list P _ _ _ k (HK.out _) (HoldsK.cells (hHc n' os') HK.out (by omega))
      have lJ : ∀ n' os', Sem.run P (loadCellsFrom ⟨blk, off + C * k, none⟩ 0 k #[]) (grow (wr.drewN n') os') = .ok (enc xJ).toArray (grow (wr.drewN n') os') := fun n' os' => by
        rw [← hxJ]; exact run_loadCellsFrom_list P _ _ _ k (HK.out _) (HoldsK.cells (hHc n' os') HK.out (by omega))
      have hcg : ∀ n' os', Calls P g (#[.agg (enc xI).toArray, .agg (enc xJ).toArray] ++ cb) (grow (wr.drewN n') os') fun e w' => e = .returned (.int .i64 (cf xI xJ)) ∧ ∃ q os'', w' = grow ((grow (wr.drewN n') os').drewN q) os'' := fun n' os' => by
        rw [hcls]; exact HC.out _ _ dk hsk xI xJ
      have CLS : Hid _ := hcls
      clear hcls hHc hxI hxJ
      clear hC hQ
      by_cases hlv : cf xI xJ < 0
      · have HB' : Hid (Cutw cf dk PP lo M i C) := ⟨HB.out.1, .inr (by rw [HY.out.1, HY.out.2]; exact hlv)⟩
        have hdv : (!decide (cf xI xJ < 0)) = false := by simp [hlv]
        go_wp2_with fail
        go_quiet_grown (first | (go_at_fn g; refine Calls.grown_of (hcg _ _)))
        go_wp2
        go_roundw
        case rel => exact ⟨i, C, rfl, rfl, by omega, by omega, by omega, ⟨_, _, CLS.out nq osq⟩, HB'.out⟩
        case measure => simp [intOf]; omega
      · have HB' : Hid (Cutw cf dk PP lo M (C + 1) j) := ⟨.inr (by rw [Nat.add_sub_cancel, HY.out.1, HY.out.2]; exact hlv), HB.out.2⟩
        have hdv : (!decide (cf xI xJ < 0)) = true := by simp [hlv]
        go_wp2_with fail
        go_quiet_grown (first | (go_at_fn g; refine Calls.grown_of (hcg _ _)))
        go_wp2
        go_roundw
        case rel => exact ⟨C + 1, j, by go_num, rfl, by omega, by omega, hjb, ⟨_, _, CLS.out nq osq⟩, HB'.out⟩
        case measure => simp [intOf]; omega
    · obtain rfl : i = j := by omega
      have HB1 := HB.out
      obtain ⟨E, hE⟩ : ∃ E, Nn - i = E := ⟨_, rfl⟩
      have eE : (Nn : Int) - (i : Int) = (E : Int) := by omega
      have hai : a ≤ i := by omega
      have him : i ≤ m := by omega
      have hmE : m ≤ E := by omega
      have hEb : E ≤ b := by omega
      have hsum : i - a + (E - m) = M - a := by omega
      obtain ⟨L1, hL1⟩ : ∃ L1, L1 = p ++ (u.take (i - a) ++ v.take (E - m)) ++ (u.drop (i - a) ++ v.drop (E - m) ++ s) := ⟨_, rfl⟩
      have HL1 : Hid (L1 = p ++ (u.take (i - a) ++ v.take (E - m)) ++ (u.drop (i - a) ++ v.drop (E - m) ++ s)) := hL1
      have HLEN : Hid ((u.take (i - a) ++ v.take (E - m)).length = M - a) := by show _ = _; simp only [List.length_append, List.length_take]; omega
      have HCUT : Hid ((∀ x ∈ u.drop (i - a), ∀ y ∈ v.take (E - m), cf y x < 0) ∧ ∀ x ∈ u.take (i - a), ∀ y ∈ v.drop (E - m), ¬ cf y x < 0) := by
        refine sym_cut HO.out HSU.out HSV.out _ _ ?_ ?_
        · rcases HB1.2 with h | h
          · exact .inr (.inl (by omega))
          · by_cases q1 : i = m
            · exact .inl (by omega)
            · by_cases q2 : E = m
              · exact .inr (.inl (by omega))
              · have hl1 : i - a < u.length := by omega
                have hl2 : E - m - 1 < v.length := by omega
                have g1 := HGU.out _ _ (List.getElem?_eq_getElem hl1)
                have g2 := HGV.out _ _ (List.getElem?_eq_getElem hl2)
                rw [show a + (i - a) = i by omega] at g1
                rw [show m + (E - m - 1) = PP - i by omega] at g2
                rw [g1, g2] at h
                exact .inr (.inr ⟨_, _, List.getElem?_eq_getElem hl1, List.getElem?_eq_getElem hl2, h⟩)
        · rcases HB1.1 with h | h
          · exact .inr (.inl (by omega))
          · by_cases q1 : i = a
            · exact .inl (by omega)
            · by_cases q2 : E = b
              · exact .inr (.inl (by omega))
              · have hl1 : i - a - 1 < u.length := by omega
                have hl2 : E - m < v.length := by omega
                have g1 := HGU.out _ _ (List.getElem?_eq_getElem hl1)
                have g2 := HGV.out _ _ (List.getElem?_eq_getElem hl2)
                rw [show a + (i - a - 1) = i - 1 by omega] at g1
                rw [show m + (E - m) = PP - (i - 1) by omega] at g2
                rw [g1, g2] at h
                exact .inr (.inr ⟨_, _, List.getElem?_eq_getElem hl1, List.getElem?_eq_getElem hl2, h⟩)
      have HROT : Aside (∀ (nd : Nat) (os : Array Obj), i < m → m < E → Calls P 71 #[.slice (some ⟨blk, off, none⟩) d.size cap, .int .i64 i, .int .i64 m, .int .i64 E, .func (.func g) #[] cb] (sortWorldK enc k w blk off nd dk os) (GivesSW enc k w blk off fun l' => l' = L1)) := fun nd os q1 q2 => by
        have := HR.out (p ++ u.take (i - a)) (u.drop (i - a)) (v.take (E - m)) (v.drop (E - m) ++ s) i m E nd os (by simp; omega) (by simp; omega) (by simp; omega) (by simp; omega) (by simp; omega) (by simp; omega) L1 (by rw [hL1]; simp only [List.append_assoc])
        rw [show p ++ u.take (i - a) ++ u.drop (i - a) ++ v.take (E - m) ++ (v.drop (E - m) ++ s) = p ++ u ++ v ++ s by rw [List.append_assoc p, List.take_append_drop, ← List.append_assoc, List.append_assoc (p ++ u), List.take_append_drop]] at this
        rw [HDK.out]; exact this
      have HREC1 : Aside (∀ (nd : Nat) (os : Array Obj), a < i → i < M → Calls P 69 #[.slice (some ⟨blk, off, none⟩) d.size cap, .int .i64 a, .int .i64 i, .int .i64 M, .func (.func g) #[] cb] (SWl enc k w blk off nd L1 os) (GivesSW enc k w blk off (Merged cf p (u.drop (i - a) ++ v.drop (E - m) ++ s) (u.take (i - a) ++ v.take (E - m))))) := fun nd os q1 q2 => by
        have := IH.out p (u.take (i - a)) (v.take (E - m)) (u.drop (i - a) ++ v.drop (E - m) ++ s) a i M nd os (srt_take HSU.out _) (srt_take HSV.out _) hpa (by simp; omega) (by simp; omega) (by simp; omega) (by simp; omega) (by simp; omega) (by omega) _ rfl
        rwa [List.append_assoc p (u.take (i - a)) (v.take (E - m)), ← hL1] at this
      have HREC2 : Aside (∀ (r1 : List α) (nd : Nat) (os : Array Obj), r1.length = M - a → M < E → E < b → Calls P 69 #[.slice (some ⟨blk, off, none⟩) d.size cap, .int .i64 M, .int .i64 E, .int .i64 b, .func (.func g) #[] cb] (SWl enc k w blk off nd (p ++ r1 ++ (u.drop (i - a) ++ v.drop (E - m) ++ s)) os) (GivesSW enc k w blk off (Merged cf (p ++ r1) s (u.drop (i - a) ++ v.drop (E - m))))) := fun r1 nd os q0 q1 q2 => by
        have := IH.out (p ++ r1) (u.drop (i - a)) (v.drop (E - m)) s M E b nd os (srt_drop HSU.out _) (srt_drop HSV.out _) (by simp; omega) (by simp; omega) (by simp; omega) (by simp; omega) (by simp; omega) (by omega) (by omega) _ rfl
        rwa [List.append_assoc (p ++ r1) (u.drop (i - a)) (v.drop (E - m)), List.append_assoc (p ++ r1) (u.drop (i - a) ++ v.drop (E - m)) s] at this
      have HFIN : Aside (∀ r1 r2 : List α, Stab cf (u.take (i - a) ++ v.take (E - m)) r1 → Srt cf r1 → Stab cf (u.drop (i - a) ++ v.drop (E - m)) r2 → Srt cf r2 → Merged cf p s U (p ++ r1 ++ r2 ++ s)) := fun r1 r2 q1 q2 q3 q4 => by
        have := srt_halves HO.out (u1 := u.take (i - a)) (u2 := u.drop (i - a)) (v1 := v.take (E - m)) (v2 := v.drop (E - m)) (by rw [List.take_append_drop]; exact HSU.out) (by rw [List.take_append_drop]; exact HSV.out) HCUT.out.1 HCUT.out.2 q1 q3 q2 q4
        rw [List.take_append_drop, List.take_append_drop, HU.out] at this
        exact ⟨r1 ++ r2, by rw [List.append_assoc p], this.1, this.2⟩
      have HN1 : Aside (¬ (a < i ∧ i < M) → Srt cf (u.take (i - a) ++ v.take (E - m))) := fun q => by
        by_cases q1 : i = a
        · rw [show i - a = 0 by omega]; simpa using srt_take HSV.out _
        · rw [show E - m = 0 by omega]; simpa using srt_take HSU.out _
      have HN2 : Aside (¬ (M < E ∧ E < b) → Srt cf (u.drop (i - a) ++ v.drop (E - m))) := fun q => by
        by_cases q1 : E = b
        · rw [List.drop_of_length_le (l := v) (by omega)]; simpa using srt_drop HSU.out _
        · rw [List.drop_of_length_le (l := u) (by omega)]; simpa using srt_drop HSV.out _
      have HL0 : Aside (¬ (i < m ∧ m < E) → dk = L1.toArray) := fun q => by
        rw [HDK.out, hL1]
        congr 1
        by_cases q1 : i = m
        · rw [List.take_of_length_le (l := u) (by omega), List.drop_of_length_le (l := u) (by omega)]
          simp only [List.nil_append, List.append_assoc]
          rw [← List.append_assoc (v.take _), List.take_append_drop]
        · rw [show E - m = 0 by omega]
          simp only [List.take_zero, List.drop_zero, List.append_nil, List.append_assoc]
          rw [← List.append_assoc (u.take _), List.take_append_drop]
      clear HB1 hL1 HB HGU HGV HC HCUT hE
      by_cases q1 : i < M
      · by_cases q2 : a < i
        · by_cases q3 : E < b
          · have c1 : decide ((i : Int) < (m : Int)) = true := by simp; omega
            have c2 : decide ((m : Int) < (E : Int)) = true := by simp; omega
            have c3 : decide ((a : Int) < (i : Int)) = true := by simp; omega
            have c4 : decide ((i : Int) < (M : Int)) = true := by simp; omega
            have c5 : decide ((M : Int) < (E : Int)) = true := by simp; omega
            have c6 : decide ((E : Int) < (b : Int)) = true := by simp; omega
            go_wp2_with fail
            rw [HW.out]
            refine (HROT.out _ _ (by omega) (by omega)).mono ?_
            rintro e wA ⟨rfl, n1, l1, os1, hwA, hl1⟩
            rw [hl1] at hwA
            clear HW
            have HW : Hid (wA = SWl enc k w blk off n1 L1 os1) := hwA
            clear hwA hl1
            go_wp2_with fail
            rw [HW.out]
            refine (HREC1.out _ _ (by omega) (by omega)).mono ?_
            rintro e wB ⟨rfl, n2, l2, os2, hwB, r1, hl2, st1, sr1⟩
            have hr1 : r1.length = M - a := by have := st1.len; have := HLEN.out; omega
            rw [hl2] at hwB
            clear HW
            have HW : Hid (wB = SWl enc k w blk off n2 (p ++ r1 ++ (u.drop (i - a) ++ v.drop (E - m) ++ s)) os2) := hwB
            clear hwB hl2
            have HS1 : Hid (Stab cf (u.take (i - a) ++ v.take (E - m)) r1 ∧ Srt cf r1) := ⟨st1, sr1⟩
            clear st1 sr1
            go_wp2_with fail
            rw [HW.out]
            refine (HREC2.out r1 _ _ hr1 (by omega) (by omega)).mono ?_
            rintro e wC ⟨rfl, n3, l3, os3, hwC, r2, hl3, st2, sr2⟩
            rw [hl3] at hwC
            have HF := Lib.hid (HFIN.out r1 r2 HS1.out.1 HS1.out.2 st2 sr2)
            clear st2 sr2 hl3 HW
            have HW : Hid (wC = SWl enc k w blk off n3 (p ++ r1 ++ r2 ++ s) os3) := hwC
            clear hwC
            go_wp2
            go_end0
            exact GivesSW.mk' n3 (p ++ r1 ++ r2 ++ s) os3 HW HF.out
          · have c1 : decide ((i : Int) < (m : Int)) = true := by simp; omega
            have c2 : decide ((m : Int) < (E : Int)) = true := by simp; omega
            have c3 : decide ((a : Int) < (i : Int)) = true := by simp; omega
            have c4 : decide ((i : Int) < (M : Int)) = true := by simp; omega
            have c5 : decide ((M : Int) < (E : Int)) = true := by simp; omega
            have c6 : decide ((E : Int) < (b : Int)) = false := by simp; omega
            go_wp2_with fail
            rw [HW.out]
            refine (HROT.out _ _ (by omega) (by omega)).mono ?_
            rintro e wA ⟨rfl, n1, l1, os1, hwA, hl1⟩
            rw [hl1] at hwA
            clear HW
            have HW : Hid (wA = SWl enc k w blk off n1 L1 os1) := hwA
            clear hwA hl1
            go_wp2_with fail
            rw [HW.out]
            refine (HREC1.out _ _ (by omega) (by omega)).mono ?_
            rintro e wB ⟨rfl, n2, l2, os2, hwB, r1, hl2, st1, sr1⟩
            have hr1 : r1.length = M - a := by have := st1.len; have := HLEN.out; omega
            rw [hl2] at hwB
            clear HW
            have HW : Hid (wB = SWl enc k w blk off n2 (p ++ r1 ++ (u.drop (i - a) ++ v.drop (E - m) ++ s)) os2) := hwB
            clear hwB hl2
            have HS1 : Hid (Stab cf (u.take (i - a) ++ v.take (E - m)) r1 ∧ Srt cf r1) := ⟨st1, sr1⟩
            clear st1 sr1
            obtain ⟨r2, hr2⟩ : ∃ r2, r2 = u.drop (i - a) ++ v.drop (E - m) := ⟨_, rfl⟩
            have st2 : Stab cf (u.drop (i - a) ++ v.drop (E - m)) r2 := by rw [hr2]; exact .refl _
            have sr2 : Srt cf r2 := by rw [hr2]; exact HN2.out (by omega)
            have HF := Lib.hid (HFIN.out r1 r2 HS1.out.1 HS1.out.2 st2 sr2)
            clear st2 sr2
            rw [← hr2] at HW
            clear hr2
            go_wp2
            go_end0
            exact GivesSW.mk' n2 (p ++ r1 ++ r2 ++ s) os2 (by show _ = _; rw [HW.out, List.append_assoc (p ++ r1)]) HF.out
        · by_cases q3 : E < b
          · exfalso
            omega
          · have c1 : decide ((i : Int) < (m : Int)) = true := by simp; omega
            have c2 : decide ((m : Int) < (E : Int)) = true := by simp; omega
            have c3 : decide ((a : Int) < (i : Int)) = false := by simp; omega
            have c5 : decide ((M : Int) < (E : Int)) = true := by simp; omega
            have c6 : decide ((E : Int) < (b : Int)) = false := by simp; omega
            go_wp2_with fail
            rw [HW.out]
            refine (HROT.out _ _ (by omega) (by omega)).mono ?_
            rintro e wA ⟨rfl, n1, l1, os1, hwA, hl1⟩
            rw [hl1] at hwA
            clear HW
            have HW : Hid (wA = SWl enc k w blk off n1 L1 os1) := hwA
            clear hwA hl1
            obtain ⟨r1, hr1⟩ : ∃ r1, r1 = u.take (i - a) ++ v.take (E - m) := ⟨_, rfl⟩
            have st1 : Stab cf (u.take (i - a) ++ v.take (E - m)) r1 := by rw [hr1]; exact .refl _
            have sr1 : Srt cf r1 := by rw [hr1]; exact HN1.out (by omega)
            have hL1' : L1 = p ++ r1 ++ (u.drop (i - a) ++ v.drop (E - m) ++ s) := by rw [hr1]; exact HL1.out
            rw [hL1'] at HW
            replace hr1 : r1.length = M - a := by have := HLEN.out; rw [hr1]; omega
            clear hL1'
            have HS1 : Hid (Stab cf (u.take (i - a) ++ v.take (E - m)) r1 ∧ Srt cf r1) := ⟨st1, sr1⟩
            clear st1 sr1
            obtain ⟨r2, hr2⟩ : ∃ r2, r2 = u.drop (i - a) ++ v.drop (E - m) := ⟨_, rfl⟩
            have st2 : Stab cf (u.drop (i - a) ++ v.drop (E - m)) r2 := by rw [hr2]; exact .refl _
            have sr2 : Srt cf r2 := by rw [hr2]; exact HN2.out (by omega)
            have HF := Lib.hid (HFIN.out r1 r2 HS1.out.1 HS1.out.2 st2 sr2)
            clear st2 sr2
            rw [← hr2] at HW
            clear hr2
            go_wp2
            go_end0
            exact GivesSW.mk' n1 (p ++ r1 ++ r2 ++ s) os1 (by show _ = _; rw [HW.out, List.append_assoc (p ++ r1)]) HF.out
      · have c1 : decide ((i : Int) < (m : Int)) = true := by simp; omega
        have c2 : decide ((m : Int) < (E : Int)) = false := by simp; omega
        have c3 : decide ((a : Int) < (i : Int)) = true := by simp; omega
        have c4 : decide ((i : Int) < (M : Int)) = false := by simp; omega
        have c5 : decide ((M : Int) < (E : Int)) = true := by simp; omega
        have c6 : decide ((E : Int) < (b : Int)) = true := by simp; omega
        have HD1 : Hid (dk = L1.toArray) := HL0.out (by omega)
        replace HW : Hid (wr = SWl enc k w blk off nd L1 os) := by show _ = _; rw [HW.out, HD1.out]
        obtain ⟨n1, hn1⟩ : ∃ n1, n1 = nd := ⟨_, rfl⟩
        obtain ⟨os1, hos1⟩ : ∃ os1, os1 = os := ⟨_, rfl⟩
        rw [← hn1, ← hos1] at HW
        obtain ⟨r1, hr1⟩ : ∃ r1, r1 = u.take (i - a) ++ v.take (E - m) := ⟨_, rfl⟩
        have st1 : Stab cf (u.take (i - a) ++ v.take (E - m)) r1 := by rw [hr1]; exact .refl _
        have sr1 : Srt cf r1 := by rw [hr1]; exact HN1.out (by omega)
        have hL1' : L1 = p ++ r1 ++ (u.drop (i - a) ++ v.drop (E - m) ++ s) := by rw [hr1]; exact HL1.out
        rw [hL1'] at HW
        replace hr1 : r1.length = M - a := by have := HLEN.out; rw [hr1]; omega
        clear hL1'
        have HS1 : Hid (Stab cf (u.take (i - a) ++ v.take (E - m)) r1 ∧ Srt cf r1) := ⟨st1, sr1⟩
        clear st1 sr1
        go_wp2_with fail
        rw [HW.out]
        refine (HREC2.out r1 _ _ hr1 (by omega) (by omega)).mono ?_
        rintro e wC ⟨rfl, n3, l3, os3, hwC, r2, hl3, st2, sr2⟩
        rw [hl3] at hwC
        have HF := Lib.hid (HFIN.out r1 r2 HS1.out.1 HS1.out.2 st2 sr2)
        clear st2 sr2 hl3 HW
        have HW : Hid (wC = SWl enc k w blk off n3 (p ++ r1 ++ r2 ++ s) os3) := hwC
        clear hwC
        go_wp2
        go_end0
        exact GivesSW.mk' n3 (p ++ r1 ++ r2 ++ s) os3 HW HF.out

end Go.Proofs.Ytbcpjdjlgmhohaa.SJ

/-
  Walk: two rows in order, side by side, merged in their place: one half. Conditions: none.
-/
namespace Go.Proofs.Ytbcpjdjlgmhohaa.SJ
open Go.Shelf Go.RowKit Go.Lib Go.Sort

set_option maxHeartbeats 16000000 in
set_option maxRecDepth 1000000 in
theorem symBigBJ {P : Program} {α : Type} [Inhabited α] {k : Nat} (L : SLayJ P k) (enc : α → List Value) (hk : ∀ x, (enc x).length = k) (h1 : ∀ x, ∀ v ∈ enc x, v.oneCell' = true)
    (cf : α → α → Int) (g : Nat) (cb : Array Value) (blk off cap : Nat) (d : Array α) (w : World) (eg : ∀ args w, (callFunc g args).run P w = .ok (.enter g args) w)
    (hcmp : CmpLays P g cb enc k cf blk off d.size w) (hH : HoldsK enc k w blk off d) (hblk : blk < w.heap.size) (hsz : d.size < 4611686018427387904)
    (o : Order cf) (N : Nat) (ih : ∀ (p u v s : List α) (a m b m0 : Nat) (os0 : Array Obj), Srt cf u → Srt cf v → p.length = a → a + u.length = m → m + v.length = b → 0 < u.length → 0 < v.length → d.size = b + s.length → b - a ≤ N → ∀ U : List α, u ++ v = U → Calls P 69 #[.slice (some ⟨blk, off, none⟩) d.size cap, .int .i64 a, .int .i64 m, .int .i64 b, .func (.func g) #[] cb] (SWl enc k w blk off m0 (p ++ u ++ v ++ s) os0) (GivesSW enc k w blk off (Merged cf p s U)))
    (p u v s : List α) (a m b m0 : Nat) (os0 : Array Obj) (hsu : Srt cf u) (hsv : Srt cf v) (hpa : p.length = a) (hm : a + u.length = m) (hb : m + v.length = b) (hu0 : 0 < u.length) (hv0 : 0 < v.length) (hd : d.size = b + s.length) (hN : b - a ≤ N + 1) (hu1 : u.length ≠ 1) (hv1 : v.length ≠ 1) (hmm0 : ¬ (a + b) / 2 < m) (U : List α) (hU : u ++ v = U) :
    Calls P 69 #[.slice (some ⟨blk, off, none⟩) d.size cap, .int .i64 a, .int .i64 m, .int .i64 b, .func (.func g) #[] cb] (SWl enc k w blk off m0 (p ++ u ++ v ++ s) os0) (GivesSW enc k w blk off (Merged cf p s U)) := by
  have mixed := L.mixed; have aE := L.aE; have zE := L.zE; have tyi := L.tyi; have agi := L.agi; have szi := L.szi; have zvi := L.zvi; have tyb := L.tyb; have agb := L.agb; have szb := L.szb; have zvb := L.zvb; have tyu := L.tyu; have agu := L.agu; have szu := L.szu; have zvu := L.zvu; have tys := L.tys; have ags := L.ags; have szs := L.szs; have zvs := L.zvs; have tyf := L.tyf; have agf := L.agf; have szf := L.szf; have zvf := L.zvf; have tyn := L.tyn; have agn := L.agn; have szn := L.szn; have zvn := L.zvn
  have HR : Aside _ := fun (p u v s : List α) (a m b m0 : Nat) (os0 : Array Obj) (ha : p.length = a) (hm : a + u.length = m) (hb : m + v.length = b) (hu0 : 0 < u.length) (hv0 : 0 < v.length) (hd : d.size = b + s.length) (T : List α) (hT : p ++ v ++ u ++ s = T) => rotateJ L enc hk h1 g cb blk off cap d w hH hblk hsz p u v s a m b m0 os0 ha hm hb hu0 hv0 hd T hT
  have HC : Aside _ := hcmp
  have HH : Hid (HoldsK enc k w blk off d) := hH
  have HK : Hid (∀ x, (enc x).length = k) := hk
  have H1 : Hid (∀ x, ∀ v ∈ enc x, v.oneCell' = true) := h1
  clear hcmp hH hk h1
  have e1 : ∀ args w, (callFunc 71 args).run P w = .ok (.enter 71 args) w := enters_of L.f1 (by kernel_rfl) rfl
  have e2 : ∀ args w, (callFunc 69 args).run P w = .ok (.enter 69 args) w := enters_of L.f2 (by kernel_rfl) rfl
  have IH : Aside _ := ih
  have HO : Hid (Order cf) := o
  have HSU : Hid (Srt cf u) := hsu
  have HSV : Hid (Srt cf v) := hsv
  clear ih o hsu hsv
  obtain ⟨dk, hdk⟩ : ∃ dk, dk = (p ++ u ++ v ++ s).toArray := ⟨_, rfl⟩
  have HDK : Hid (dk = (p ++ u ++ v ++ s).toArray) := hdk
  have HGU : Hid (∀ (t : Nat) (y : α), u[t]? = some y → dk[a + t]! = y) := fun t y h => by rw [hdk, List.append_assoc (p ++ u)]; exact get_at hpa h
  have HGV : Hid (∀ (t : Nat) (y : α), v[t]? = some y → dk[m + t]! = y) := fun t y h => by rw [hdk]; exact get_at (by simp; omega) h
  have hsk : dk.size = d.size := by rw [hdk]; simp; omega
  have HU : Hid (u ++ v = U) := hU
  clear hU
  obtain ⟨w0, hw0⟩ : ∃ w0, SWl enc k w blk off m0 (p ++ u ++ v ++ s) os0 = w0 := ⟨_, rfl⟩
  have HW0 : Hid (w0 = sortWorldK enc k w blk off m0 dk os0) := by show _ = _; rw [hdk]; exact hw0.symm
  rw [hw0]
  clear hw0 hdk
  have hul : u.length = m - a := by omega
  have hvl : v.length = b - m := by omega
  have ham : a + 2 ≤ m := by omega
  have hmb : m + 2 ≤ b := by omega
  have hbd : b ≤ d.size := by omega
  have _ := hu1
  have _ := hv1
  clear hu0 hv0 hu1 hv1
  have hd1 : d.size ≤ b + s.length := by omega
  have hd2 : b + s.length ≤ d.size := by omega
  clear hd
  have hg0 : (((m : Int) - (a : Int)) == 1) = false := by simp; omega
  have hg1 : (((b : Int) - (m : Int)) == 1) = false := by simp; omega
  obtain ⟨M, hM⟩ : ∃ M, (a + b) / 2 = M := ⟨_, rfl⟩
  have eM : ((a : Int) + (b : Int)) / 2 = (M : Int) := by omega
  have hM1 : 2 * M ≤ a + b := by omega
  have hM2 : a + b ≤ 2 * M + 1 := by omega
  have hmm : m ≤ M := by omega
  clear hM hmm0
  obtain ⟨Nn, hNn⟩ : ∃ Nn, M + m = Nn := ⟨_, rfl⟩
  have eN : (M : Int) + (m : Int) = (Nn : Int) := by omega
  obtain ⟨PP, hPP⟩ : ∃ PP, Nn - 1 = PP := ⟨_, rfl⟩
  have eP : (Nn : Int) - 1 = (PP : Int) := by omega
  go_enter L.f2, Try.ntmps69
  have hgm : decide ((m : Int) > (M : Int)) = false := by simp; omega
  have hgm2 : decide (M < m) = false := by simp; omega
  go_wp2
  go_loopw [20, 21] (fun vi vj wr => ∃ (i j : Nat), vi = .int .i64 i ∧ vj = .int .i64 j ∧ a ≤ i ∧ i ≤ j ∧ j ≤ m ∧ AtW enc k w blk off dk wr ∧ Cutw cf dk PP a m i j) (fun vi vj _ => (intOf vj - intOf vi).toNat)
  case atStart => exact ⟨a, m, rfl, rfl, by omega, by omega, by omega, ⟨m0, os0, HW0.out⟩, .inl rfl, .inl rfl⟩
  case round =>
    clear HW0
    obtain ⟨i, j, rfl, rfl, hai, hij, hjb, ⟨nd, os, hw⟩, hb⟩ := hrel
    have HW : Hid (wr = sortWorldK enc k w blk off nd dk os) := hw
    have HB : Hid (Cutw cf dk PP a m i j) := hb
    clear hw hb
    by_cases hlt : i < j
    · clear IH HR HU
      obtain ⟨C, hC⟩ : ∃ C, (i + j) / 2 = C := ⟨_, rfl⟩
      have hC1 : i ≤ C ∧ C < j := by omega
      obtain ⟨C0, C1⟩ := hC1
      have eC : ((i : Int) + (j : Int)) / 2 = (C : Int) := by omega
      obtain ⟨Q, hQ⟩ : ∃ Q, PP - C = Q := ⟨_, rfl⟩
      have wQ : IntKind.i64.wrap ((PP : Int) - (C : Int)) = (Q : Int) := by rw [IntKind.wrap_i64]; omega
      have bQ : (Q : Int) < (d.size : Int) := by omega
      have bC : (C : Int) < (d.size : Int) := by omega
      have bQ' : Q < dk.size := by omega
      have bC' : C < dk.size := by omega
      obtain ⟨xI, hxI⟩ : ∃ y, dk[Q]! = y := ⟨_, rfl⟩
      obtain ⟨xJ, hxJ⟩ : ∃ y, dk[C]! = y := ⟨_, rfl⟩
      have HY : Hid (dk[PP - C]! = xI ∧ dk[C]! = xJ) := ⟨by rw [hQ]; exact hxI, hxJ⟩
      have hcls : ∀ n' os', grow (wr.drewN n') os' = sortWorldK enc k w blk off (nd + n') dk (os ++ os') := fun n' os' => by rw [HW.out]; exact sortWorldK_grown_c enc k w blk off nd n' dk os os'
      have hHc : ∀ n' os', HoldsK enc k (grow (wr.drewN n') os') blk off dk := fun n' os' => by rw [hcls]; exact holdsK_sortWorldK_c enc k w blk off d dk _ _ HH.out hblk hsk
      have lI : ∀ n' os', Sem.run P (loadCellsFrom ⟨blk, off + Q * k, none⟩ 0 k #[]) (grow (wr.drewN n') os') = .ok (enc xI).toArray (grow (wr.drewN n') os') := fun n' os' => by
        rw [← hxI]; exact run_loadCellsFrom_list P _ _ _ k (HK.out _) (HoldsK.cells (hHc n' os') HK.out (by omega))
      have lJ : ∀ n' os', Sem.run P (loadCellsFrom ⟨blk, off + C * k, none⟩ 0 k #[]) (grow (wr.drewN n') os') = .ok (enc xJ).toArray (grow (wr.drewN n') os') := fun n' os' => by
        rw [← hxJ]; exact run_loadCellsFrom_list P _ _ _ k (HK.out _) (HoldsK.cells (hHc n' os') HK.out (by omega))
      have hcg : ∀ n' os', Calls P g (#[.agg (enc xI).toArray, .agg (enc xJ).toArray] ++ cb) (grow (wr.drewN n') os') fun e w' => e = .returned (.int .i64 (cf xI xJ)) ∧ ∃ q os'', w' = grow ((grow (wr.drewN n') os').drewN q) os'' := fun n' os' => by
        rw [hcls]; exact HC.out _ _ dk hsk xI xJ
      have CLS : Hid _ := hcls
      clear hcls hHc hxI hxJ
      clear hC hQ
      by_cases hlv : cf xI xJ < 0
      · have HB' : Hid (Cutw cf dk PP a m i C) := ⟨HB.out.1, .inr (by rw [HY.out.1, HY.out.2]; exact hlv)⟩
        have hdv : (!decide (cf xI xJ < 0)) = false := by simp [hlv]
        go_wp2_with fail
        go_quiet_grown (first | (go_at_fn g; refine Calls.grown_of (hcg _ _)))
        go_wp2
        go_roundw
        case rel => exact ⟨i, C, rfl, rfl, by omega, by omega, by omega, ⟨_, _, CLS.out nq osq⟩, HB'.out⟩
        case measure => simp [intOf]; omega
      · have HB' : Hid (Cutw cf dk PP a m (C + 1) j) := ⟨.inr (by rw [Nat.add_sub_cancel, HY.out.1, HY.out.2]; exact hlv), HB.out.2⟩
        have hdv : (!decide (cf xI xJ < 0)) = true := by simp [hlv]
        go_wp2_with fail
        go_quiet_grown (first | (go_at_fn g; refine Calls.grown_of (hcg _ _)))
        go_wp2
        go_roundw
        case rel => exact ⟨C + 1, j, by go_num, rfl, by omega, by omega, hjb, ⟨_, _, CLS.out nq osq⟩, HB'.out⟩
        case measure => simp [intOf]; omega
    · obtain rfl : i = j := by omega
      have HB1 := HB.out
      obtain ⟨E, hE⟩ : ∃ E, Nn - i = E := ⟨_, rfl⟩
      have eE : (Nn : Int) - (i : Int) = (E : Int) := by omega
      have hai : a ≤ i := by omega
      have him : i ≤ m := by omega
      have hmE : m ≤ E := by omega
      have hEb : E ≤ b := by omega
      have hsum : i - a + (E - m) = M - a := by omega
      obtain ⟨L1, hL1⟩ : ∃ L1, L1 = p ++ (u.take (i - a) ++ v.take (E - m)) ++ (u.drop (i - a) ++ v.drop (E - m) ++ s) := ⟨_, rfl⟩
      have HL1 : Hid (L1 = p ++ (u.take (i - a) ++ v.take (E - m)) ++ (u.drop (i - a) ++ v.drop (E - m) ++ s)) := hL1
      have HLEN : Hid ((u.take (i - a) ++ v.take (E - m)).length = M - a) := by show _ = _; simp only [List.length_append, List.length_take]; omega
      have HCUT : Hid ((∀ x ∈ u.drop (i - a), ∀ y ∈ v.take (E - m), cf y x < 0) ∧ ∀ x ∈ u.take (i - a), ∀ y ∈ v.drop (E - m), ¬ cf y x < 0) := by
        refine sym_cut HO.out HSU.out HSV.out _ _ ?_ ?_
        · rcases HB1.2 with h | h
          · exact .inl (by omega)
          · by_cases q1 : i = m
            · exact .inl (by omega)
            · by_cases q2 : E = m
              · exact .inr (.inl (by omega))
              · have hl1 : i - a < u.length := by omega
                have hl2 : E - m - 1 < v.length := by omega
                have g1 := HGU.out _ _ (List.getElem?_eq_getElem hl1)
                have g2 := HGV.out _ _ (List.getElem?_eq_getElem hl2)
                rw [show a + (i - a) = i by omega] at g1
                rw [show m + (E - m - 1) = PP - i by omega] at g2
                rw [g1, g2] at h
                exact .inr (.inr ⟨_, _, List.getElem?_eq_getElem hl1, List.getElem?_eq_getElem hl2, h⟩)
        · rcases HB1.1 with h | h
          · exact .inl (by omega)
          · by_cases q1 : i = a
            · exact .inl (by omega)
            · by_cases q2 : E = b
              · exact .inr (.inl (by omega))
              · have hl1 : i - a - 1 < u.length := by omega
                have hl2 : E - m < v.length := by omega
                have g1 := HGU.out _ _ (List.getElem?_eq_getElem hl1)
                have g2 := HGV.out _ _ (List.getElem?_eq_getElem hl2)
                rw [show a + (i - a - 1) = i - 1 by omega] at g1
                rw [show m + (E - m) = PP - (i - 1) by omega] at g2
                rw [g1, g2] at h
                exact .inr (.inr ⟨_, _, List.getElem?_eq_getElem hl1, List.getElem?_eq_getElem hl2, h⟩)
      have HROT : Aside (∀ (nd : Nat) (os : Array Obj), i < m → m < E → Calls P 71 #[.slice (some ⟨blk, off, none⟩) d.size cap, .int .i64 i, .int .i64 m, .int .i64 E, .func (.func g) #[] cb] (sortWorldK enc k w blk off nd dk os) (GivesSW enc k w blk off fun l' => l' = L1)) := fun nd os q1 q2 => by
        have := HR.out (p ++ u.take (i - a)) (u.drop (i - a)) (v.take (E - m)) (v.drop (E - m) ++ s) i m E nd os (by simp; omega) (by simp; omega) (by simp; omega) (by simp; omega) (by simp; omega) (by simp; omega) L1 (by rw [hL1]; simp only [List.append_assoc])
        rw [show p ++ u.take (i - a) ++ u.drop (i - a) ++ v.take (E - m) ++ (v.drop (E - m) ++ s) = p ++ u ++ v ++ s by rw [List.append_assoc p, List.take_append_drop, ← List.append_assoc, List.append_assoc (p ++ u), List.take_append_drop]] at this
        rw [HDK.out]; exact this
      have HREC1 : Aside (∀ (nd : Nat) (os : Array Obj), a < i → i < M → Calls P 69 #[.slice (some ⟨blk, off, none⟩) d.size cap, .int .i64 a, .int .i64 i, .int .i64 M, .func (.func g) #[] cb] (SWl enc k w blk off nd L1 os) (GivesSW enc k w blk off (Merged cf p (u.drop (i - a) ++ v.drop (E - m) ++ s) (u.take (i - a) ++ v.take (E - m))))) := fun nd os q1 q2 => by
        have := IH.out p (u.take (i - a)) (v.take (E - m)) (u.drop (i - a) ++ v.drop (E - m) ++ s) a i M nd os (srt_take HSU.out _) (srt_take HSV.out _) hpa (by simp; omega) (by simp; omega) (by simp; omega) (by simp; omega) (by simp; omega) (by omega) _ rfl
        rwa [List.append_assoc p (u.take (i - a)) (v.take (E - m)), ← hL1] at this
      have HREC2 : Aside (∀ (r1 : List α) (nd : Nat) (os : Array Obj), r1.length = M - a → M < E → E < b → Calls P 69 #[.slice (some ⟨blk, off, none⟩) d.size cap, .int .i64 M, .int .i64 E, .int .i64 b, .func (.func g) #[] cb] (SWl enc k w blk off nd (p ++ r1 ++ (u.drop (i - a) ++ v.drop (E - m) ++ s)) os) (GivesSW enc k w blk off (Merged cf (p ++ r1) s (u.drop (i - a) ++ v.drop (E - m))))) := fun r1 nd os q0 q1 q2 => by
        have := IH.out (p ++ r1) (u.drop (i - a)) (v.drop (E - m)) s M E b nd os (srt_drop HSU.out _) (srt_drop HSV.out _) (by simp; omega) (by simp; omega) (by simp; omega) (by simp; omega) (by simp; omega) (by omega) (by omega) _ rfl
        rwa [List.append_assoc (p ++ r1) (u.drop (i - a)) (v.drop (E - m)), List.append_assoc (p ++ r1) (u.drop (i - a) ++ v.drop (E - m)) s] at this
      have HFIN : Aside (∀ r1 r2 : List α, Stab cf (u.take (i - a) ++ v.take (E - m)) r1 → Srt cf r1 → Stab cf (u.drop (i - a) ++ v.drop (E - m)) r2 → Srt cf r2 → Merged cf p s U (p ++ r1 ++ r2 ++ s)) := fun r1 r2 q1 q2 q3 q4 => by
        have := srt_halves HO.out (u1 := u.take (i - a)) (u2 := u.drop (i - a)) (v1 := v.take (E - m)) (v2 := v.drop (E - m)) (by rw [List.take_append_drop]; exact HSU.out) (by rw [List.take_append_drop]; exact HSV.out) HCUT.out.1 HCUT.out.2 q1 q3 q2 q4
        rw [List.take_append_drop, List.take_append_drop, HU.out] at this
        exact ⟨r1 ++ r2, by rw [List.append_assoc p], this.1, this.2⟩
      have HN1 : Aside (¬ (a < i ∧ i < M) → Srt cf (u.take (i - a) ++ v.take (E - m))) := fun q => by
        by_cases q1 : i = a
        · rw [show i - a = 0 by omega]; simpa using srt_take HSV.out _
        · rw [show E - m = 0 by omega]; simpa using srt_take HSU.out _
      have HN2 : Aside (¬ (M < E ∧ E < b) → Srt cf (u.drop (i - a) ++ v.drop (E - m))) := fun q => by
        by_cases q1 : E = b
        · rw [List.drop_of_length_le (l := v) (by omega)]; simpa using srt_drop HSU.out _
        · rw [List.drop_of_length_le (l := u) (by omega)]; simpa using srt_drop HSV.out _
      have HL0 : Aside (¬ (i < m ∧ m < E) → dk = L1.toArray) := fun q => by
        rw [HDK.out, hL1]
        congr 1
        by_cases q1 : i = m
        · rw [List.take_of_length_le (l := u) (by omega), List.drop_of_length_le (l := u) (by omega)]
          simp only [List.nil_append, List.append_assoc]
          rw [← List.append_assoc (v.take _), List.take_append_drop]
        · rw [show E - m = 0 by omega]
          simp only [List.take_zero, List.drop_zero, List.append_nil, List.append_assoc]
          rw [← List.append_assoc (u.take _), List.take_append_drop]
      clear HB1 hL1 HB HGU HGV HC HCUT hE
      by_cases q1 : i < m
      · by_cases q2 : a < i
        · by_cases q3 : E < b
          · have c1 : decide ((i : Int) < (m : Int)) = true := by simp; omega
            have c2 : decide ((m : Int) < (E : Int)) = true := by simp; omega
            have c3 : decide ((a : Int) < (i : Int)) = true := by simp; omega
            have c4 : decide ((i : Int) < (M : Int)) = true := by simp; omega
            have c5 : decide ((M : Int) < (E : Int)) = true := by simp; omega
            have c6 : decide ((E : Int) < (b : Int)) = true := by simp; omega
            go_wp2_with fail
            rw [HW.out]
            refine (HROT.out _ _ (by omega) (by omega)).mono ?_
            rintro e wA ⟨rfl, n1, l1, os1, hwA, hl1⟩
            rw [hl1] at hwA
            clear HW
            have HW : Hid (wA = SWl enc k w blk off n1 L1 os1) := hwA
            clear hwA hl1
            go_wp2_with fail
            rw [HW.out]
            refine (HREC1.out _ _ (by omega) (by omega)).mono ?_
            rintro e wB ⟨rfl, n2, l2, os2, hwB, r1, hl2, st1, sr1⟩
            have hr1 : r1.length = M - a := by have := st1.len; have := HLEN.out; omega
            rw [hl2] at hwB
            clear HW
            have HW : Hid (wB = SWl enc k w blk off n2 (p ++ r1 ++ (u.drop (i - a) ++ v.drop (E - m) ++ s)) os2) := hwB
            clear hwB hl2
            have HS1 : Hid (Stab cf (u.take (i - a) ++ v.take (E - m)) r1 ∧ Srt cf r1) := ⟨st1, sr1⟩
            clear st1 sr1
            go_wp2_with fail
            rw [HW.out]
            refine (HREC2.out r1 _ _ hr1 (by omega) (by omega)).mono ?_
            rintro e wC ⟨rfl, n3, l3, os3, hwC, r2, hl3, st2, sr2⟩
            rw [hl3] at hwC
            have HF := Lib.hid (HFIN.out r1 r2 HS1.out.1 HS1.out.2 st2 sr2)
            clear st2 sr2 hl3 HW
            have HW : Hid (wC = SWl enc k w blk off n3 (p ++ r1 ++ r2 ++ s) os3) := hwC
            clear hwC
            go_wp2
            go_end0
            exact GivesSW.mk' n3 (p ++ r1 ++ r2 ++ s) os3 HW HF.out
          · exfalso
            omega
        · by_cases q3 : E < b
          · have c1 : decide ((i : Int) < (m : Int)) = true := by simp; omega
            have c2 : decide ((m : Int) < (E : Int)) = true := by simp; omega
            have c3 : decide ((a : Int) < (i : Int)) = false := by simp; omega
            have c5 : decide ((M : Int) < (E : Int)) = true := by simp; omega
            have c6 : decide ((E : Int) < (b : Int)) = true := by simp; omega
            go_wp2_with fail
            rw [HW.out]
            refine (HROT.out _ _ (by omega) (by omega)).mono ?_
            rintro e wA ⟨rfl, n1, l1, os1, hwA, hl1⟩
            rw [hl1] at hwA
            clear HW
            have HW : Hid (wA = SWl enc k w blk off n1 L1 os1) := hwA
            clear hwA hl1
            obtain ⟨r1, hr1⟩ : ∃ r1, r1 = u.take (i - a) ++ v.take (E - m) := ⟨_, rfl⟩
            have st1 : Stab cf (u.take (i - a) ++ v.take (E - m)) r1 := by rw [hr1]; exact .refl _
            have sr1 : Srt cf r1 := by rw [hr1]; exact HN1.out (by omega)
            have hL1' : L1 = p ++ r1 ++ (u.drop (i - a) ++ v.drop (E - m) ++ s) := by rw [hr1]; exact HL1.out
            rw [hL1'] at HW
            replace hr1 : r1.length = M - a := by have := HLEN.out; rw [hr1]; omega
            clear hL1'
            have HS1 : Hid (Stab cf (u.take (i - a) ++ v.take (E - m)) r1 ∧ Srt cf r1) := ⟨st1, sr1⟩
            clear st1 sr1
            go_wp2_with fail
            rw [HW.out]
            refine (HREC2.out r1 _ _ hr1 (by omega) (by omega)).mono ?_
            rintro e wC ⟨rfl, n3, l3, os3, hwC, r2, hl3, st2, sr2⟩
            rw [hl3] at hwC
            have HF := Lib.hid (HFIN.out r1 r2 HS1.out.1 HS1.out.2 st2 sr2)
            clear st2 sr2 hl3 HW
            have HW : Hid (wC = SWl enc k w blk off n3 (p ++ r1 ++ r2 ++ s) os3) := hwC
            clear hwC
            go_wp2
            go_end0
            exact GivesSW.mk' n3 (p ++ r1 ++ r2 ++ s) os3 HW HF.out
          · have c1 : decide ((i : Int) < (m : Int)) = true := by simp; omega
            have c2 : decide ((m : Int) < (E : Int)) = true := by simp; omega
            have c3 : decide ((a : Int) < (i : Int)) = false := by simp; omega
            have c5 : decide ((M : Int) < (E : Int)) = true := by simp; omega
            have c6 : decide ((E : Int) < (b : Int)) = false := by simp; omega
            go_wp2_with fail
            rw [HW.out]
            refine (HROT.out _ _ (by omega) (by omega)).mono ?_
            rintro e wA ⟨rfl, n1, l1, os1, hwA, hl1⟩
            rw [hl1] at hwA
            clear HW
            have HW : Hid (wA = SWl enc k w blk off n1 L1 os1) := hwA
            clear hwA hl1
            obtain ⟨r1, hr1⟩ : ∃ r1, r1 = u.take (i - a) ++ v.take (E - m) := ⟨_, rfl⟩
            have st1 : Stab cf (u.take (i - a) ++ v.take (E - m)) r1 := by rw [hr1]; exact .refl _
            have sr1 : Srt cf r1 := by rw [hr1]; exact HN1.out (by omega)
            have hL1' : L1 = p ++ r1 ++ (u.drop (i - a) ++ v.drop (E - m) ++ s) := by rw [hr1]; exact HL1.out
            rw [hL1'] at HW
            replace hr1 : r1.length = M - a := by have := HLEN.out; rw [hr1]; omega
            clear hL1'
            have HS1 : Hid (Stab cf (u.take (i - a) ++ v.take (E - m)) r1 ∧ Srt cf r1) := ⟨st1, sr1⟩
            clear st1 sr1
            obtain ⟨r2, hr2⟩ : ∃ r2, r2 = u.drop (i - a) ++ v.drop (E - m) := ⟨_, rfl⟩
            have st2 : Stab cf (u.drop (i - a) ++ v.drop (E - m)) r2 := by rw [hr2]; exact .refl _
            have sr2 : Srt cf r2 := by rw [hr2]; exact HN2.out (by omega)
            have HF := Lib.hid (HFIN.out r1 r2 HS1.out.1 HS1.out.2 st2 sr2)
            clear st2 sr2
            rw [← hr2] at HW
            clear hr2
            go_wp2
            go_end0
            exact GivesSW.mk' n1 (p ++ r1 ++ r2 ++ s) os1 (by show _ = _; rw [HW.out, List.append_assoc (p ++ r1)]) HF.out
      · by_cases q2 : i < M
        · have c1 : decide ((i : Int) < (m : Int)) = false := by simp; omega
          have c3 : decide ((a : Int) < (i : Int)) = true := by simp; omega
          have c4 : decide ((i : Int) < (M : Int)) = true := by simp; omega
          have c5 : decide ((M : Int) < (E : Int)) = false := by simp; omega
          have HD1 : Hid (dk = L1.toArray) := HL0.out (by omega)
          replace HW : Hid (wr = SWl enc k w blk off nd L1 os) := by show _ = _; rw [HW.out, HD1.out]
          obtain ⟨n1, hn1⟩ : ∃ n1, n1 = nd := ⟨_, rfl⟩
          obtain ⟨os1, hos1⟩ : ∃ os1, os1 = os := ⟨_, rfl⟩
          rw [← hn1, ← hos1] at HW
          go_wp2_with fail
          rw [HW.out]
          refine (HREC1.out _ _ (by omega) (by omega)).mono ?_
          rintro e wB ⟨rfl, n2, l2, os2, hwB, r1, hl2, st1, sr1⟩
          have hr1 : r1.length = M - a := by have := st1.len; have := HLEN.out; omega
          rw [hl2] at hwB
          clear HW
          have HW : Hid (wB = SWl enc k w blk off n2 (p ++ r1 ++ (u.drop (i - a) ++ v.drop (E - m) ++ s)) os2) := hwB
          clear hwB hl2
          have HS1 : Hid (Stab cf (u.take (i - a) ++ v.take (E - m)) r1 ∧ Srt cf r1) := ⟨st1, sr1⟩
          clear st1 sr1
          obtain ⟨r2, hr2⟩ : ∃ r2, r2 = u.drop (i - a) ++ v.drop (E - m) := ⟨_, rfl⟩
          have st2 : Stab cf (u.drop (i - a) ++ v.drop (E - m)) r2 := by rw [hr2]; exact .refl _
          have sr2 : Srt cf r2 := by rw [hr2]; exact HN2.out (by omega)
          have HF := Lib.hid (HFIN.out r1 r2 HS1.out.1 HS1.out.2 st2 sr2)
          clear st2 sr2
          rw [← hr2] at HW
          clear hr2
          go_wp2
          go_end0
          exact GivesSW.mk' n2 (p ++ r1 ++ r2 ++ s) os2 (by show _ = _; rw [HW.out, List.append_assoc (p ++ r1)]) HF.out
        · have c1 : decide ((i : Int) < (m : Int)) = false := by simp; omega
          have c3 : decide ((a : Int) < (i : Int)) = true := by simp; omega
          have c4 : decide ((i : Int) < (M : Int)) = false := by simp; omega
          have c5 : decide ((M : Int) < (E : Int)) = false := by simp; omega
          have HD1 : Hid (dk = L1.toArray) := HL0.out (by omega)
          replace HW : Hid (wr = SWl enc k w blk off nd L1 os) := by show _ = _; rw [HW.out, HD1.out]
          obtain ⟨n1, hn1⟩ : ∃ n1, n1 = nd := ⟨_, rfl⟩
          obtain ⟨os1, hos1⟩ : ∃ os1, os1 = os := ⟨_, rfl⟩
          rw [← hn1, ← hos1] at HW
          obtain ⟨r1, hr1⟩ : ∃ r1, r1 = u.take (i - a) ++ v.take (E - m) := ⟨_, rfl⟩
          have st1 : Stab cf (u.take (i - a) ++ v.take (E - m)) r1 := by rw [hr1]; exact .refl _
          have sr1 : Srt cf r1 := by rw [hr1]; exact HN1.out (by omega)
          have hL1' : L1 = p ++ r1 ++ (u.drop (i - a) ++ v.drop (E - m) ++ s) := by rw [hr1]; exact HL1.out
          rw [hL1'] at HW
          replace hr1 : r1.length = M - a := by have := HLEN.out; rw [hr1]; omega
          clear hL1'
          have HS1 : Hid (Stab cf (u.take (i - a) ++ v.take (E - m)) r1 ∧ Srt cf r1) := ⟨st1, sr1⟩
          clear st1 sr1
          obtain ⟨r2, hr2⟩ : ∃ r2, r2 = u.drop (i - a) ++ v.drop (E - m) := ⟨_, rfl⟩
          have st2 : Stab cf (u.drop (i - a) ++ v.drop (E - m)) r2 := by rw [hr2]; exact .refl _
          have sr2 : Srt cf r2 := by rw [hr2]; exact HN2.out (by omega)
          have HF := Lib.hid (HFIN.out r1 r2 HS1.out.1 HS1.out.2 st2 sr2)
          clear st2 sr2
          rw [← hr2] at HW
          clear hr2
          go_wp2
          go_end0
          exact GivesSW.mk' n1 (p ++ r1 ++ r2 ++ s) os1 (by show _ = _; rw [HW.out, List.append_assoc (p ++ r1)]) HF.out

end Go.Proofs.Ytbcpjdjlgmhohaa.SJ

/-
  Walk: two rows in order, side by side, merged in their place. Conditions: none.
-/
namespace Go.Proofs.Ytbcpjdjlgmhohaa.SJ
open Go.Shelf Go.RowKit Go.Lib Go.Sort

theorem symMergeJ {P : Program} {α : Type} [Inhabited α] {k : Nat} (L : SLayJ P k) (enc : α → List Value) (hk : ∀ x, (enc x).length = k) (h1 : ∀ x, ∀ v ∈ enc x, v.oneCell' = true)
    (cf : α → α → Int) (g : Nat) (cb : Array Value) (blk off cap : Nat) (d : Array α) (w : World) (eg : ∀ args w, (callFunc g args).run P w = .ok (.enter g args) w)
    (hcmp : CmpLays P g cb enc k cf blk off d.size w) (hH : HoldsK enc k w blk off d) (hblk : blk < w.heap.size) (hsz : d.size < 4611686018427387904)
    (o : Order cf) (N : Nat) : ∀ (p u v s : List α) (a m b m0 : Nat) (os0 : Array Obj), Srt cf u → Srt cf v → p.length = a → a + u.length = m → m + v.length = b → 0 < u.length → 0 < v.length → d.size = b + s.length → b - a ≤ N → ∀ U : List α, u ++ v = U →
    Calls P 69 #[.slice (some ⟨blk, off, none⟩) d.size cap, .int .i64 a, .int .i64 m, .int .i64 b, .func (.func g) #[] cb] (SWl enc k w blk off m0 (p ++ u ++ v ++ s) os0) (GivesSW enc k w blk off (Merged cf p s U)) := by
  induction N with
  | zero => intro p u v s a m b m0 os0 hsu hsv hpa hm hb hu0 hv0 hd hN; omega
  | succ N ih =>
    intro p u v s a m b m0 os0 hsu hsv hpa hm hb hu0 hv0 hd hN U hU
    by_cases h : u.length = 1
    · obtain ⟨x, rfl⟩ := List.length_eq_one_iff.1 h
      exact symOneJ L enc hk h1 cf g cb blk off cap d w eg hcmp hH hblk hsz o p v s x a m b m0 os0 hsv hpa hm hb hd U hU
    · by_cases h' : v.length = 1
      · obtain ⟨x, rfl⟩ := List.length_eq_one_iff.1 h'
        exact symTwoJ L enc hk h1 cf g cb blk off cap d w eg hcmp hH hblk hsz o p u s x a m b m0 os0 hsu hpa hm h (by omega) hb hd U hU
      · by_cases hmm : (a + b) / 2 < m
        · exact symBigAJ L enc hk h1 cf g cb blk off cap d w eg hcmp hH hblk hsz o N ih p u v s a m b m0 os0 hsu hsv hpa hm hb hu0 hv0 hd hN h h' hmm U hU
        · exact symBigBJ L enc hk h1 cf g cb blk off cap d w eg hcmp hH hblk hsz o N ih p u v s a m b m0 os0 hsu hsv hpa hm hb hu0 hv0 hd hN h h' hmm U hU
end Go.Proofs.Ytbcpjdjlgmhohaa.SJ

/-
  Walk: a row put in order by insertion. Conditions: none.
-/
namespace Go.Proofs.Ytbcpjdjlgmhohaa.SJ
open Go.Shelf Go.RowKit Go.Lib Go.Sort

def Drops {α : Type} (cf : α → α → Int) (x : α) (r : List α) (t : Nat) : Prop := ∀ z ∈ r.drop t, cf x z < 0
theorem ins_len {α : Type} {p r s : List α} {x : α} {t : Nat} : (p ++ r.take t ++ x :: r.drop t ++ s).toArray.size = p.length + r.length + 1 + s.length := by
  simp only [List.size_toArray, List.length_append, List.length_cons, List.length_take, List.length_drop]; omega
theorem ins_x {α : Type} [Inhabited α] {p r s : List α} {x : α} {t a : Nat} (ha : p.length = a) (ht : t ≤ r.length) : (p ++ r.take t ++ x :: r.drop t ++ s).toArray[a + t]! = x := by
  have := get_mid (p ++ r.take t) (r.drop t ++ s) x
  rw [List.length_append, List.length_take, ha, Nat.min_eq_left ht] at this
  simpa using this
theorem ins_y {α : Type} [Inhabited α] {p r s : List α} {x y : α} {t a : Nat} (ha : p.length = a) (hy : r[t]? = some y) : (p ++ r.take (t + 1) ++ x :: r.drop (t + 1) ++ s).toArray[a + t]! = y := by
  have := get_at (p := p) (v := r.take (t + 1)) (s := x :: r.drop (t + 1) ++ s) (t := t) ha (by rw [List.getElem?_take, if_pos (by omega)]; exact hy)
  simpa using this
def InsO {α : Type} [Inhabited α] (cf : α → α → Int) (enc : α → List Value) (k : Nat) (w : World) (blk off : Nat) (p u s : List α) (t : Nat) (wr : World) : Prop := ∃ r, AtW enc k w blk off (p ++ r ++ (u.drop t ++ s)).toArray wr ∧ Stab cf (u.take t) r ∧ Srt cf r
set_option maxHeartbeats 4000000 in
set_option maxRecDepth 1000000 in
theorem insSortJ {P : Program} {α : Type} [Inhabited α] {k : Nat} (L : SLayJ P k) (enc : α → List Value) (hk : ∀ x, (enc x).length = k) (h1 : ∀ x, ∀ v ∈ enc x, v.oneCell' = true)
    (cf : α → α → Int) (g : Nat) (cb : Array Value) (blk off cap : Nat) (d : Array α) (w : World) (eg : ∀ args w, (callFunc g args).run P w = .ok (.enter g args) w)
    (hcmp : CmpLays P g cb enc k cf blk off d.size w) (hH : HoldsK enc k w blk off d) (hblk : blk < w.heap.size) (hsz : d.size < 4611686018427387904)
    (o : Order cf) (p u s : List α) (a b m0 : Nat) (os0 : Array Obj) (hpa : p.length = a) (hb : a + u.length = b) (hd : d.size = b + s.length) (U : List α) (hU : u = U) :
    Calls P 68 #[.slice (some ⟨blk, off, none⟩) d.size cap, .int .i64 a, .int .i64 b, .func (.func g) #[] cb] (SWl enc k w blk off m0 (p ++ u ++ s) os0) (GivesSW enc k w blk off (Merged cf p s U)) := by
  have mixed := L.mixed; have aE := L.aE; have zE := L.zE; have tyi := L.tyi; have agi := L.agi; have szi := L.szi; have zvi := L.zvi; have tyb := L.tyb; have agb := L.agb; have szb := L.szb; have zvb := L.zvb; have tyu := L.tyu; have agu := L.agu; have szu := L.szu; have zvu := L.zvu; have tys := L.tys; have ags := L.ags; have szs := L.szs; have zvs := L.zvs; have tyf := L.tyf; have agf := L.agf; have szf := L.szf; have zvf := L.zvf; have tyn := L.tyn; have agn := L.agn; have szn := L.szn; have zvn := L.zvn
  have HC : Aside _ := hcmp
  have HH : Hid (HoldsK enc k w blk off d) := hH
  have HK : Hid (∀ x, (enc x).length = k) := hk
  have H1 : Hid (∀ x, ∀ v ∈ enc x, v.oneCell' = true) := h1
  clear hcmp hH hk h1
  have HO : Hid (Order cf) := o
  clear o
  have HPA : Hid (p.length = a) := hpa
  have HU : Hid (u = U) := hU
  obtain ⟨w0, hw0⟩ : ∃ w0, SWl enc k w blk off m0 (p ++ u ++ s) os0 = w0 := ⟨_, rfl⟩
  have HI0 : Hid (InsO cf enc k w blk off p u s 1 w0) := by
    refine ⟨u.take 1, ⟨m0, os0, ?_⟩, .refl _, ?_⟩
    · rw [← hw0, show p ++ u.take 1 ++ (u.drop 1 ++ s) = p ++ u ++ s by rw [List.append_assoc p, ← List.append_assoc (u.take 1), List.take_append_drop, ← List.append_assoc]]
    · cases u with
      | nil => simp [Srt]
      | cons y u => simp [Srt]
  rw [hw0]
  clear hw0 hU hpa
  have hul : u.length = b - a := by omega
  have hab : a ≤ b := by omega
  have hd1 : d.size ≤ b + s.length := by omega
  have hd2 : b + s.length ≤ d.size := by omega
  clear hb hd
  go_enter L.f3, Try.ntmps68
  go_wp2
  go_loopw [8] (fun vi wr => ∃ (i : Nat), vi = .int .i64 i ∧ a < i ∧ i ≤ b + 1 ∧ InsO cf enc k w blk off p u s (i - a) wr) (fun vi _ => b + 1 - (intOf vi).toNat)
  case atStart => exact ⟨a + 1, by go_num, by omega, by omega, by rw [show a + 1 - a = 1 by omega]; exact HI0.out⟩
  case round =>
    clear HI0
    obtain ⟨i, rfl, hai, hib, r, hw, hst, hsr⟩ := hrel
    have HST : Hid (Stab cf (u.take (i - a)) r) := hst
    have HSR : Hid (Srt cf r) := hsr
    have HW0 : Hid (AtW enc k w blk off (p ++ r ++ (u.drop (i - a) ++ s)).toArray wr) := hw
    clear hst hsr hw
    by_cases hlt : i < b
    · have hrl : r.length = i - a := by have := HST.out.len; rw [this, List.length_take]; omega
      have hil : i - a < u.length := by omega
      obtain ⟨x, hx⟩ : ∃ x, u[i - a]? = some x := ⟨_, List.getElem?_eq_getElem hil⟩
      obtain ⟨S, hS⟩ : ∃ S, S = u.drop (i + 1 - a) ++ s := ⟨_, rfl⟩
      have hdx : u.drop (i - a) ++ s = x :: S := by
        rw [hS, List.drop_eq_getElem_cons hil, show i + 1 - a = i - a + 1 by omega]
        rw [List.getElem?_eq_getElem hil] at hx; injection hx with hx; rw [hx]; rfl
      have htx : u.take (i + 1 - a) = u.take (i - a) ++ [x] := by rw [show i + 1 - a = i - a + 1 by omega, List.take_add_one, hx]; rfl
      have hSl : S.length + (i + 1) = d.size := by have : (x :: S).length = (u.drop (i - a) ++ s).length := by rw [hdx]
                                                   simp only [List.length_cons, List.length_append, List.length_drop] at this; omega
      have HOUT : Aside (∀ (t : Nat) (W : World), t ≤ r.length → (t = 0 ∨ ∃ y, r[t - 1]? = some y ∧ ¬ cf x y < 0) → Drops cf x r t → AtW enc k w blk off (p ++ r.take t ++ x :: r.drop t ++ S).toArray W → InsO cf enc k w blk off p u s (i + 1 - a) W) := fun t W ht q1 q2 q3 => by
        have h1 : ∀ z ∈ r.take t, ¬ cf x z < 0 := by
          rcases q1 with q | ⟨y, hy, hc⟩
          · subst q; simp
          · rcases Nat.eq_zero_or_pos t with h0 | h0
            · subst h0; simp
            · have := hi_take HO.out HSR.out hy hc
              rwa [show t - 1 + 1 = t by omega] at this
        have := one_right HO.out HSR.out h1 q2
        refine ⟨r.take t ++ x :: r.drop t, ?_, ?_, this.2⟩
        · rw [← hS, ← List.append_assoc p]; exact q3
        · rw [htx]
          have h2 := HST.out.in_ [] [x]
          simp only [List.nil_append] at h2
          exact h2.trans this.1
      have HL : Hid (AtW enc k w blk off (p ++ r.take r.length ++ x :: r.drop r.length ++ S).toArray wr) := by
        have := HW0.out
        rw [hdx] at this
        show AtW _ _ _ _ _ _ _
        simpa using this
      have HGX : Hid (∀ t, t ≤ r.length → (p ++ r.take t ++ x :: r.drop t ++ S).toArray[a + t]! = x) := fun t ht => ins_x HPA.out ht
      have HGY : Hid (∀ t y, r[t]? = some y → (p ++ r.take (t + 1) ++ x :: r.drop (t + 1) ++ S).toArray[a + t]! = y) := fun t y hy => ins_y HPA.out hy
      have HSW1 : Hid (∀ t, t < r.length → swp (p ++ r.take (t + 1) ++ x :: r.drop (t + 1) ++ S).toArray (a + t + 1) (a + t) = (p ++ r.take t ++ x :: r.drop t ++ S).toArray) := fun t ht => ins_swp' p r S x t a HPA.out ht
      have HSZ : Hid (∀ t, (p ++ r.take t ++ x :: r.drop t ++ S).toArray.size = d.size) := fun t => by rw [ins_len, HPA.out]; omega
      clear hx hS hdx htx HW0
      have hltz : (i : Int) < (b : Int) := by omega
      go_wp2
      go_loopw [9] (fun vj wr2 => ∃ (t : Nat), vj = .int .i64 ((a + t : Nat) : Int) ∧ t ≤ r.length ∧ Drops cf x r t ∧ AtW enc k w blk off (p ++ r.take t ++ x :: r.drop t ++ S).toArray wr2) (fun vj _ => (intOf vj).toNat)
      case atStart => exact ⟨r.length, by rw [show a + r.length = i by omega], Nat.le_refl _, by intro z hz; simp at hz, HL.out⟩
      case round =>
        clear HL
        obtain ⟨t, rfl, htr, hdr, nd, os, hw⟩ := hrel
        have HD : Hid (Drops cf x r t) := hdr
        clear hdr
        rcases Nat.eq_zero_or_pos t with ht0 | ht0
        · subst ht0
          have HW : Hid (AtW enc k w blk off (p ++ r.take 0 ++ x :: r.drop 0 ++ S).toArray wr.drew) := ⟨nd + 1, os, by rw [hw]; rfl⟩
          clear hw
          have hja : decide (((a + 0 : Nat) : Int) > (a : Int)) = false := decide_eq_false (by omega)
          have hja2 : ¬ ((a + 0 : Nat) : Int) > (a : Int) := by omega
          go_wp2_with fail
          go_big_region_o
          all_goals go_wp2
          go_roundw
          case rel => exact ⟨i + 1, by go_num, by omega, by omega, HOUT.out 0 _ (by omega) (.inl rfl) HD.out HW.out⟩
          case measure => simp [intOf]; omega
        · obtain ⟨t, rfl⟩ : ∃ t', t = t' + 1 := ⟨t - 1, by omega⟩
          obtain ⟨J, hJ⟩ : ∃ J, a + (t + 1) = J := ⟨_, rfl⟩
          rw [hJ]
          obtain ⟨Q, hQ⟩ : ∃ Q, a + t = Q := ⟨_, rfl⟩
          obtain ⟨dj, hdj⟩ : ∃ dj, dj = (p ++ r.take (t + 1) ++ x :: r.drop (t + 1) ++ S).toArray := ⟨_, rfl⟩
          have HW : Hid (wr = sortWorldK enc k w blk off nd dj os) := by show _ = _; rw [hdj]; exact hw
          have hsj : dj.size = d.size := by rw [hdj]; exact HSZ.out (t + 1)
          obtain ⟨y, hy⟩ : ∃ y, r[t]? = some y := ⟨_, List.getElem?_eq_getElem (by omega)⟩
          have HY : Hid (r[t]? = some y) := hy
          have hxI : dj[J]! = x := by rw [hdj, ← hJ]; exact HGX.out (t + 1) htr
          have hxJ : dj[Q]! = y := by rw [hdj, ← hQ]; exact HGY.out t y hy
          have HI : Hid (swp dj J Q = (p ++ r.take t ++ x :: r.drop t ++ S).toArray) := by show _ = _; rw [hdj, ← hJ, ← hQ, ← Nat.add_assoc]; exact HSW1.out t (by omega)
          have hIJ1 : J ≤ Q + 1 := by omega
          have hIJ2 : Q + 1 ≤ J := by omega
          have HN : Aside (∀ W, (∃ nd' os', W = sortWorldK enc k w blk off nd' dj os') → AtW enc k w blk off (p ++ r.take (t + 1) ++ x :: r.drop (t + 1) ++ S).toArray W) := fun W ⟨n', o', h⟩ => ⟨n', o', by rw [h, hdj]⟩
          clear hw hdj hJ hy HGX HGY
          have wJ : IntKind.i64.wrap ((J : Int) - 1) = (Q : Int) := by rw [IntKind.wrap_i64]; omega
          have bJ : (J : Int) < (d.size : Int) := by omega
          have bQ : (Q : Int) < (d.size : Int) := by omega
          have bJ' : J < dj.size := by omega
          have bQ' : Q < dj.size := by omega
          have hjaz : (a : Int) < (J : Int) := by omega
          have hjad : decide ((J : Int) > (a : Int)) = true := decide_eq_true (by omega)
          obtain ⟨xI, hXI⟩ : ∃ z, z = x := ⟨_, rfl⟩
          obtain ⟨xJ, hXJ⟩ : ∃ z, z = y := ⟨_, rfl⟩
          rw [← hXI] at hxI
          rw [← hXJ] at hxJ
          have HX : Hid (xI = x ∧ xJ = y) := ⟨hXI, hXJ⟩
          clear hXI hXJ
          have hcls : ∀ n' os', grow (wr.drewN n') os' = sortWorldK enc k w blk off (nd + n') dj (os ++ os') := fun n' os' => by rw [HW.out]; exact sortWorldK_grown_c enc k w blk off nd n' dj os os'
          have hHc : ∀ n' os', HoldsK enc k (grow (wr.drewN n') os') blk off dj := fun n' os' => by rw [hcls]; exact holdsK_sortWorldK_c enc k w blk off d dj _ _ HH.out hblk hsj
          have lI : ∀ n' os', Sem.run P (loadCellsFrom ⟨blk, off + J * k, none⟩ 0 k #[]) (grow (wr.drewN n') os') = .ok (enc xI).toArray (grow (wr.drewN n') os') := fun n' os' => by
            rw [← hxI]; exact run_loadCellsFrom_list P _ _ _ k (HK.out _) (HoldsK.cells (hHc n' os') HK.out (by omega))
          have lJ : ∀ n' os', Sem.run P (loadCellsFrom ⟨blk, off + Q * k, none⟩ 0 k #[]) (grow (wr.drewN n') os') = .ok (enc xJ).toArray (grow (wr.drewN n') os') := fun n' os' => by
            rw [← hxJ]; exact run_loadCellsFrom_list P _ _ _ k (HK.out _) (HoldsK.cells (hHc n' os') HK.out (by omega))
          have hcg : ∀ n' os', Calls P g (#[.agg (enc xI).toArray, .agg (enc xJ).toArray] ++ cb) (grow (wr.drewN n') os') fun e w' => e = .returned (.int .i64 (cf xI xJ)) ∧ ∃ q os'', w' = grow ((grow (wr.drewN n') os').drewN q) os'' := fun n' os' => by
            rw [hcls]; exact HC.out _ _ dj hsj xI xJ
          have CLS : Hid _ := hcls
          clear hcls hHc hxI hxJ
          by_cases hlv : cf xI xJ < 0
          · have HD' : Hid (Drops cf x r t) := hi_drop HO.out HSR.out HY.out (HX.out.1 ▸ HX.out.2 ▸ hlv)
            go_wp2_with fail
            go_quiet_grown (first | (go_at_fn g; refine Calls.grown_of (hcg _ _)))
            have HW2 : Hid (grow (wr.drewN nq) osq = sortWorldK enc k w blk off (nd + nq) dj (os ++ osq)) := CLS.out nq osq
            clear CLS hcg lI lJ HW
            generalize grow (wr.drewN nq) osq = wq2 at HW2 ⊢
            have HW := HW2
            clear HW2
            obtain ⟨nd2, hnd2⟩ : ∃ n, n = nd + nq := ⟨_, rfl⟩
            obtain ⟨os2, hos2⟩ : ∃ n, n = os ++ osq := ⟨_, rfl⟩
            rw [← hnd2, ← hos2] at HW
            clear hnd2 hos2
            go_wp2_with fail
            obtain ⟨xI2, hxI2⟩ : ∃ x, dj[J]! = x := ⟨_, rfl⟩
            obtain ⟨xJ2, hxJ2⟩ : ∃ x, dj[Q]! = x := ⟨_, rfl⟩
            have hHd : HoldsK enc k wq2.drew blk off dj := by
              have : HoldsK enc k wq2 blk off dj := by rw [HW.out]; exact holdsK_sortWorldK_c enc k w blk off d _ _ _ HH.out hblk hsj
              exact this
            have bnd : ∀ x, x < dj.size → x * k + k ≤ dj.size * k := fun x hx => by
              have := Nat.mul_le_mul_right k (show x + 1 ≤ dj.size from hx); rwa [Nat.add_mul, Nat.one_mul] at this
            have lI2 : Sem.run P (loadCellsFrom ⟨blk, off + J * k, none⟩ 0 k #[]) wq2.drew = .ok (enc xI2).toArray wq2.drew := by rw [← hxI2]; exact run_loadCellsFrom_list P _ _ _ k (HK.out _) (HoldsK.cells hHd HK.out (by omega))
            have lJ2 : Sem.run P (loadCellsFrom ⟨blk, off + Q * k, none⟩ 0 k #[]) wq2.drew = .ok (enc xJ2).toArray wq2.drew := by rw [← hxJ2]; exact run_loadCellsFrom_list P _ _ _ k (HK.out _) (HoldsK.cells hHd HK.out (by omega))
            have s1 : Sem.run P (storeCells ⟨blk, off + J * k, none⟩ (enc xJ2) 0) wq2.drew = .ok () (wq2.drew.setCells blk (off + J * k) (enc xJ2)) := stores_of_holds P hHd (J * k) _ (by rw [HK.out, size_flatK]; exact bnd J (by omega)) (H1.out _)
            have s2 : Sem.run P (storeCells ⟨blk, off + Q * k, none⟩ (enc xI2) 0) (wq2.drew.setCells blk (off + J * k) (enc xJ2)) = .ok () ((wq2.drew.setCells blk (off + J * k) (enc xJ2)).setCells blk (off + Q * k) (enc xI2)) :=
              stores_of_holds P (holds_setCells_c hHd (J * k) _ (by rw [HK.out, size_flatK]; exact bnd J (by omega))) (Q * k) _ (by rw [HK.out, size_setMany, size_flatK]; exact bnd Q (by omega)) (H1.out _)
            have hsI : (enc xI2).length = k := HK.out _
            have hsJ : (enc xJ2).length = k := HK.out _
            have HSW : Hid (((wq2.drew.setCells blk (off + J * k) (enc xJ2)).setCells blk (off + Q * k) (enc xI2)) = sortWorldK enc k w blk off (nd2 + 1) (swp dj J Q) os2) := by
              show _ = _
              rw [HW.out, ← hxI2, ← hxJ2]
              exact sortWorldK_swp_c enc k w blk off HK.out nd2 dj os2 hblk J Q (by omega) (by omega)
            clear hHd bnd hxI2 hxJ2
            obtain ⟨cI, hcI⟩ : ∃ c, c = enc xI2 := ⟨_, rfl⟩
            obtain ⟨cJ, hcJ⟩ : ∃ c, c = enc xJ2 := ⟨_, rfl⟩
            rw [← hcI] at lI2 hsI
            rw [← hcJ] at s1 lJ2 hsJ
            rw [← hcI, ← hcJ] at s2
            rw [← hcI, ← hcJ] at HSW
            clear hcI hcJ
            clear HW
            go_big_region_o
            all_goals go_wp2
            go_roundw
            case rel => exact ⟨t, by go_num, by omega, HD'.out, nd2 + 1, os2, by rw [HSW.out, HI.out]⟩
            case measure => simp [intOf]; omega
          · have HC2 : Hid (¬ cf x y < 0) := HX.out.1 ▸ HX.out.2 ▸ hlv
            go_wp2_with fail
            go_quiet_grown (first | (go_at_fn g; refine Calls.grown_of (hcg _ _)))
            go_wp2
            go_roundw
            case rel => exact ⟨i + 1, by go_num, by omega, by omega, HOUT.out (t + 1) _ htr (.inr ⟨y, HY.out, HC2.out⟩) HD.out (HN.out _ ⟨_, _, CLS.out nq osq⟩)⟩
            case measure => simp [intOf]; omega
    · have hltz : ¬ (i : Int) < (b : Int) := by omega
      go_wp2
      go_end0
      obtain ⟨nd, os, hw⟩ := HW0.out
      refine GivesSW.mk' nd (p ++ r ++ s) os (by show _ = _; rw [hw, List.drop_of_length_le (by omega)]; rfl) ⟨r, rfl, ?_, HSR.out⟩
      rw [← HU.out]
      have := HST.out
      rwa [List.take_of_length_le (by omega)] at this
end Go.Proofs.Ytbcpjdjlgmhohaa.SJ

/-
  Walk: a row put in order, what is alike left as it stood. Conditions: none.
-/
namespace Go.Proofs.Ytbcpjdjlgmhohaa.SJ
open Go.Shelf Go.RowKit Go.Lib Go.Sort

def LoopI {α : Type} [Inhabited α] (cf : α → α → Int) (enc : α → List Value) (k : Nat) (w : World) (blk off : Nat) (l0 : List α) (bs q : Nat) (wr : World) : Prop := ∃ l, AtW enc k w blk off l.toArray wr ∧ Stab cf l0 l ∧ BlksTo cf bs l q
def LoopO {α : Type} [Inhabited α] (cf : α → α → Int) (enc : α → List Value) (k : Nat) (w : World) (blk off : Nat) (l0 : List α) (bs : Nat) (wr : World) : Prop := ∃ l, AtW enc k w blk off l.toArray wr ∧ Stab cf l0 l ∧ BlksFrom cf bs l 0
def LoopM {α : Type} [Inhabited α] (cf : α → α → Int) (enc : α → List Value) (k : Nat) (w : World) (blk off : Nat) (l0 : List α) (bs q a : Nat) (wr : World) : Prop := ∃ l, AtW enc k w blk off l.toArray wr ∧ Stab cf l0 l ∧ BlksTo cf (2 * bs) l q ∧ BlksFrom cf bs l a

set_option maxHeartbeats 16000000 in
set_option maxRecDepth 1000000 in
theorem stableJ {P : Program} {α : Type} [Inhabited α] {k : Nat} (L : SLayJ P k) (enc : α → List Value) (hk : ∀ x, (enc x).length = k) (h1 : ∀ x, ∀ v ∈ enc x, v.oneCell' = true)
    (cf : α → α → Int) (g : Nat) (cb : Array Value) (blk off cap : Nat) (d : Array α) (w : World) (eg : ∀ args w, (callFunc g args).run P w = .ok (.enter g args) w)
    (hcmp : CmpLays P g cb enc k cf blk off d.size w) (hH : HoldsK enc k w blk off d) (hblk : blk < w.heap.size) (hsz : d.size < 4611686018427387904)
    (o : Order cf) (hsz2 : d.size < 1152921504606846976) (l0 : List α) (m0 : Nat) (os0 : Array Obj) (hl0 : l0.length = d.size) :
    Calls P 57 #[.slice (some ⟨blk, off, none⟩) d.size cap, .int .i64 (d.size : Nat), .func (.func g) #[] cb] (SWl enc k w blk off m0 l0 os0) (GivesSW enc k w blk off fun l' => Stab cf l0 l' ∧ Srt cf l') := by
  have mixed := L.mixed; have aE := L.aE; have zE := L.zE; have tyi := L.tyi; have agi := L.agi; have szi := L.szi; have zvi := L.zvi; have tyb := L.tyb; have agb := L.agb; have szb := L.szb; have zvb := L.zvb; have tyu := L.tyu; have agu := L.agu; have szu := L.szu; have zvu := L.zvu; have tys := L.tys; have ags := L.ags; have szs := L.szs; have zvs := L.zvs; have tyf := L.tyf; have agf := L.agf; have szf := L.szf; have zvf := L.zvf; have tyn := L.tyn; have agn := L.agn; have szn := L.szn; have zvn := L.zvn
  obtain ⟨n, hn⟩ : ∃ n, n = d.size := ⟨_, rfl⟩
  have HINS : Aside (∀ (l : List α) (a b nd : Nat) (os : Array Obj), l.length = n → a ≤ b → b ≤ n → Calls P 68 #[.slice (some ⟨blk, off, none⟩) n cap, .int .i64 a, .int .i64 b, .func (.func g) #[] cb] (sortWorldK enc k w blk off nd l.toArray os)
      (GivesSW enc k w blk off (Merged cf (l.take a) (l.drop b) ((l.drop a).take (b - a))))) := fun l a b nd os q1 q2 q3 => by
    subst hn
    have := insSortJ L enc hk h1 cf g cb blk off cap d w eg hcmp hH hblk hsz o (l.take a) ((l.drop a).take (b - a)) (l.drop b) a b nd os (by rw [List.length_take]; omega) (by rw [List.length_take, List.length_drop]; omega) (by rw [List.length_drop]; omega) _ rfl
    rwa [cut3 l q2] at this
  have HSYM : Aside (∀ (l : List α) (a m b nd : Nat) (os : Array Obj), l.length = n → a < m → m < b → b ≤ n → Srt cf ((l.drop a).take (m - a)) → Srt cf ((l.drop m).take (b - m)) → Calls P 69 #[.slice (some ⟨blk, off, none⟩) n cap, .int .i64 a, .int .i64 m, .int .i64 b, .func (.func g) #[] cb] (sortWorldK enc k w blk off nd l.toArray os)
      (GivesSW enc k w blk off (Merged cf (l.take a) (l.drop b) ((l.drop a).take (m - a) ++ (l.drop m).take (b - m))))) := fun l a m b nd os q1 q2 q3 q4 q5 q6 => by
    subst hn
    have := symMergeJ L enc hk h1 cf g cb blk off cap d w eg hcmp hH hblk hsz o _ (l.take a) ((l.drop a).take (m - a)) ((l.drop m).take (b - m)) (l.drop b) a m b nd os q5 q6 (by rw [List.length_take]; omega) (by rw [List.length_take, List.length_drop]; omega) (by rw [List.length_take, List.length_drop]; omega) (by rw [List.length_take, List.length_drop]; omega) (by rw [List.length_take, List.length_drop]; omega) (by rw [List.length_drop]; omega) (Nat.le_refl _) _ rfl
    rwa [cut4 l (by omega) (by omega)] at this
  have e2 : ∀ args w, (callFunc 69 args).run P w = .ok (.enter 69 args) w := enters_of L.f2 (by kernel_rfl) rfl
  have e3 : ∀ args w, (callFunc 68 args).run P w = .ok (.enter 68 args) w := enters_of L.f3 (by kernel_rfl) rfl
  clear hcmp hH hk h1 eg o
  rw [← hn] at hl0 hsz hsz2 ⊢
  have HL0 : Hid (l0.length = n) := hl0
  have HI0 : Hid (LoopI cf enc k w blk off l0 20 0 (SWl enc k w blk off m0 l0 os0)) := ⟨l0, ⟨m0, os0, rfl⟩, .refl _, fun q h => absurd h (by omega)⟩
  generalize SWl enc k w blk off m0 l0 os0 = w0 at HI0 ⊢
  clear hl0 hn
  go_enter L.f4, Try.ntmps57
  go_wp2
  go_loopw [7, 8] (fun vi vj wr => ∃ (a q : Nat), vi = .int .i64 a ∧ vj = .int .i64 ((a + 20 : Nat) : Int) ∧ a ≤ n ∧ Hid (a = q * 20) ∧ LoopI cf enc k w blk off l0 20 q wr) (fun vi _ _ => n - (intOf vi).toNat)
  case atStart => exact ⟨0, 0, rfl, rfl, by omega, by show _ = _; omega, HI0.out⟩
  case round =>
    clear HI0
    obtain ⟨a, q, rfl, rfl, han, HA, l, ⟨nd, os, hw⟩, hst, hbl⟩ := hrel
    have HW : Hid (wr = sortWorldK enc k w blk off nd l.toArray os) := hw
    have HST : Hid (Stab cf l0 l) := hst
    have HBL : Hid (BlksTo cf 20 l q) := hbl
    have HLL : Hid (l.length = n) := hst.len.trans HL0.out
    clear hw hst hbl
    obtain ⟨b, hb⟩ : ∃ b, a + 20 = b := ⟨_, rfl⟩
    rw [hb]
    have hb1 : a + 20 ≤ b := by omega
    have hb2 : b ≤ a + 20 := by omega
    clear hb
    by_cases hlt : b ≤ n
    · have hltz : (b : Int) ≤ (n : Int) := by omega
      go_wp2_with fail
      rw [HW.out]
      refine (HINS.out l a b nd os HLL.out (by omega) hlt).mono ?_
      rintro e wA ⟨rfl, n1, l1, os1, hwA, hm⟩
      have h2 := ins_step (bs := 20) (q := q) hm HA.out (by omega) (by rw [HLL.out]; exact hlt) (.inl (by omega)) HBL.out HST.out
      have HN : Hid (LoopI cf enc k w blk off l0 20 (q + 1) wA) := ⟨l1, ⟨n1, os1, hwA⟩, h2.1, h2.2⟩
      clear hwA hm h2
      go_wp2
      go_roundw
      case rel => exact ⟨b, q + 1, rfl, by go_num, hlt, by have := HA.out; show _ = _; omega, HN.out⟩
      case measure => simp [intOf]; omega
    · have hltz : ¬ (b : Int) ≤ (n : Int) := by omega
      go_wp2_with fail
      rw [HW.out]
      refine (HINS.out l a n nd os HLL.out (by omega) (Nat.le_refl _)).mono ?_
      rintro e wA ⟨rfl, n1, l1, os1, hwA, hm⟩
      have h2 := ins_step (bs := 20) (q := q) hm HA.out (by omega) (by rw [HLL.out]; exact Nat.le_refl _) (.inr HLL.out.symm) HBL.out HST.out
      have HN : Hid (LoopO cf enc k w blk off l0 20 wA) := ⟨l1, ⟨n1, os1, hwA⟩, h2.1, blks_all h2.2 (by rw [h2.1.len, HL0.out]; have := HA.out; omega)⟩
      clear hwA hm h2 HW HST HBL HLL HA
      go_wp2
      go_loopw [6] (fun vb wr => ∃ (bs : Nat), vb = .int .i64 bs ∧ 0 < bs ∧ bs ≤ 2 * n + 20 ∧ LoopO cf enc k w blk off l0 bs wr) (fun vb _ => n - (intOf vb).toNat)
      case atStart => exact ⟨20, rfl, by omega, by omega, HN.out⟩
      case round =>
        clear HN
        obtain ⟨bs, rfl, hbs0, hbsn, l, ⟨nd, os, hw⟩, hst, hbl⟩ := hrel
        by_cases hlt2 : bs < n
        · have hltz2 : (bs : Int) < (n : Int) := by omega
          have HM : Hid (LoopM cf enc k w blk off l0 bs 0 0 wr) := ⟨l, ⟨nd, os, hw⟩, hst, fun q h => absurd h (by omega), hbl⟩
          clear hw hst hbl
          go_wp2
          go_loopw [7, 8] (fun vi vj wr => ∃ (a q : Nat), vi = .int .i64 a ∧ vj = .int .i64 ((a + 2 * bs : Nat) : Int) ∧ a ≤ n ∧ Hid (a = q * (2 * bs)) ∧ LoopM cf enc k w blk off l0 bs q a wr) (fun vi _ _ => n - (intOf vi).toNat)
          case atStart => exact ⟨0, 0, rfl, by go_num, by omega, by show _ = _; simp, HM.out⟩
          case round =>
            clear HM
            obtain ⟨a, q, rfl, rfl, han, HA, l, ⟨nd, os, hw⟩, hst, hbl, hbf⟩ := hrel
            have HW : Hid (wr = sortWorldK enc k w blk off nd l.toArray os) := hw
            have HST : Hid (Stab cf l0 l) := hst
            have HBL : Hid (BlksTo cf (2 * bs) l q) := hbl
            have HBF : Hid (BlksFrom cf bs l a) := hbf
            have HLL : Hid (l.length = n) := hst.len.trans HL0.out
            have HSS : Hid (Srt cf ((l.drop a).take bs) ∧ Srt cf ((l.drop (a + bs)).take bs)) := blk_at HA.out hbf
            clear hw hst hbl hbf
            obtain ⟨b, hb⟩ : ∃ b, a + 2 * bs = b := ⟨_, rfl⟩
            rw [hb]
            have hb1 : a + 2 * bs ≤ b := by omega
            have hb2 : b ≤ a + 2 * bs := by omega
            clear hb
            obtain ⟨m, hm⟩ : ∃ m, a + bs = m := ⟨_, rfl⟩
            have em : (a : Int) + (bs : Int) = (m : Int) := by omega
            by_cases hlt3 : b ≤ n
            · have hltz3 : (b : Int) ≤ (n : Int) := by omega
              go_wp2_with fail
              rw [HW.out]
              refine (HSYM.out l a m b nd os HLL.out (by omega) (by omega) hlt3 (by rw [show m - a = bs by omega]; exact HSS.out.1) (by rw [← hm, show b - (a + bs) = bs by omega]; exact HSS.out.2)).mono ?_
              rintro e wA ⟨rfl, n1, l1, os1, hwA, hmr⟩
              have h2 := sym_step (bs := bs) (q := q) hmr HA.out (by omega) (by omega) (by rw [HLL.out]; exact hlt3) (.inl (by omega)) HBL.out HBF.out HST.out
              have HN : Hid (LoopM cf enc k w blk off l0 bs (q + 1) b wA) := ⟨l1, ⟨n1, os1, hwA⟩, h2.1, h2.2.1, h2.2.2⟩
              have HA2 : Hid (b = (q + 1) * (2 * bs)) := by have := HA.out; show _ = _; rw [Nat.succ_mul]; omega
              clear hwA hmr h2
              go_wp2
              go_roundw
              case rel => exact ⟨b, q + 1, rfl, by go_num, hlt3, HA2, HN.out⟩
              case measure => simp [intOf]; omega
            · have hltz3 : ¬ (b : Int) ≤ (n : Int) := by omega
              by_cases hlt4 : m < n
              · have hltz4 : (m : Int) < (n : Int) := by omega
                go_wp2_with fail
                rw [HW.out]
                refine (HSYM.out l a m n nd os HLL.out (by omega) hlt4 (Nat.le_refl _) (by rw [show m - a = bs by omega]; exact HSS.out.1) (by have := srt_take HSS.out.2 (n - m); rwa [List.take_take, Nat.min_eq_left (by omega), hm] at this)).mono ?_
                rintro e wA ⟨rfl, n1, l1, os1, hwA, hmr⟩
                have h2 := sym_step (bs := bs) (q := q) hmr HA.out (by omega) (by omega) (by rw [HLL.out]; exact Nat.le_refl _) (.inr HLL.out.symm) HBL.out HBF.out HST.out
                have HN : Hid (LoopO cf enc k w blk off l0 (2 * bs) wA) := ⟨l1, ⟨n1, os1, hwA⟩, h2.1, blks_all h2.2.1 (by rw [h2.1.len, HL0.out, Nat.succ_mul]; have := HA.out; omega)⟩
                clear hwA hmr h2 hm
                go_wp2
                go_roundw
                case rel => exact ⟨2 * bs, by go_num, by omega, by omega, HN.out⟩
                case measure => simp [intOf]; omega
              · have hltz4 : ¬ (m : Int) < (n : Int) := by omega
                have HN : Hid (LoopO cf enc k w blk off l0 (2 * bs) wr) := ⟨l, ⟨nd, os, HW.out⟩, HST.out, short_step HA.out (by rw [HLL.out]; omega) HBL.out HBF.out⟩
                clear hm
                go_wp2
                go_roundw
                case rel => exact ⟨2 * bs, by go_num, by omega, by omega, HN.out⟩
                case measure => simp [intOf]; omega
        · have hltz2 : ¬ (bs : Int) < (n : Int) := by omega
          have HW : Hid (wr = sortWorldK enc k w blk off nd l.toArray os) := hw
          have HR : Hid (Stab cf l0 l ∧ Srt cf l) := ⟨hst, blks_srt hbl (by rw [hst.len, HL0.out]; omega)⟩
          clear hw hst hbl
          go_wp2
          go_end0
          exact GivesSW.mk' nd l os HW HR.out
end Go.Proofs.Ytbcpjdjlgmhohaa.SJ

