/-
  Walk: two blocks of one length exchanged. Conditions: none.
-/
import Derived.Test.YtggfepphjaohiaaSPBase
namespace Go.Proofs.Ytggfepphjaohiaa
open Go.Shelf Go.RowKit Go.Lib Go.Sort

set_option maxHeartbeats 4000000 in
set_option maxRecDepth 1000000 in
theorem swapRangeP {P : Program} {α : Type} [Inhabited α] {k : Nat} (L : SLayP P k) (enc : α → List Value) (hk : ∀ x, (enc x).length = k) (h1 : ∀ x, ∀ v ∈ enc x, v.oneCell' = true) (g : Nat) (cb : Array Value) (blk off cap : Nat) (d : Array α) (w : World)
    (hH : HoldsK enc k w blk off d) (hblk : blk < w.heap.size) (hsz : d.size < 4611686018427387904)
    (p u q v s : List α) (n a b m0 : Nat) (os0 : Array Obj) (hu : u.length = n) (hv : v.length = n) (ha : p.length = a) (hb : a + n + q.length = b) (hd : d.size = b + n + s.length) (T : List α) (hT : p ++ v ++ q ++ u ++ s = T) :
    Calls P 52 #[.slice (some ⟨blk, off, none⟩) d.size cap, .int .i64 a, .int .i64 b, .int .i64 n, .func (.func g) #[] cb] (SWl enc k w blk off m0 (p ++ u ++ q ++ v ++ s) os0) (GivesSW enc k w blk off fun l' => l' = T) := by
  have mixed := L.mixed; have aE := L.aE; have zE := L.zE; have tyi := L.tyi; have agi := L.agi; have szi := L.szi; have zvi := L.zvi; have tyb := L.tyb; have agb := L.agb; have szb := L.szb; have zvb := L.zvb; have tyu := L.tyu; have agu := L.agu; have szu := L.szu; have zvu := L.zvu; have tys := L.tys; have ags := L.ags; have szs := L.szs; have zvs := L.zvs; have tyf := L.tyf; have agf := L.agf; have szf := L.szf; have zvf := L.zvf; have tyn := L.tyn; have agn := L.agn; have szn := L.szn; have zvn := L.zvn
  have HH : Hid (HoldsK enc k w blk off d) := hH
  have HK : Hid (∀ x, (enc x).length = k) := hk
  have H1 : Hid (∀ x, ∀ v ∈ enc x, v.oneCell' = true) := h1
  clear hH hk h1
  obtain ⟨l0, hl0⟩ : ∃ l0 : Nat → List α, l0 = swapF p u q v s := ⟨_, rfl⟩
  have HL0 : Hid (p ++ u ++ q ++ v ++ s = l0 0) := by show _ = _; rw [hl0]; simp [swapF]
  have HLn : Hid (l0 n = T) := by show _ = _; rw [hl0, ← hT]; simp [swapF, List.take_of_length_le, List.drop_of_length_le, hu, hv]
  have HLs : Hid (∀ i, (l0 i).toArray.size = d.size) := fun i => by rw [hl0, List.size_toArray, swapF_len p u q v s i n hu hv]; omega
  have HLi : Hid (∀ i, i < n → swp (l0 i).toArray (a + i) (b + i) = (l0 (i + 1)).toArray) := fun i hi => by
    have := swapF_step p u q v s i n hu hv hi
    rw [hl0, ← hb, ← ha]; exact this
  rw [HL0.out]
  clear HL0 hl0 hu hv ha hT
  have hnd : b + n ≤ d.size := by omega
  have hab : a + n ≤ b := by omega
  clear hb hd
  go_enter L.f0, Try.ntmps52
  go_wp2
  go_loopw [10] (fun vi wr => ∃ (i m : Nat) (os : Array Obj), vi = .int .i64 i ∧ i ≤ n ∧ Hid (wr = SWl enc k w blk off m (l0 i) os)) (fun vi _ => n - (intOf vi).toNat)
  case atStart => exact ⟨0, m0, os0, rfl, Nat.zero_le _, rfl⟩
  case round =>
    obtain ⟨i, m, os, rfl, hin, HW⟩ := hrel
    by_cases hlt : i < n
    · have hltz : (i : Int) < (n : Int) := by omega
      obtain ⟨I, hI⟩ : ∃ I, a + i = I := ⟨_, rfl⟩
      obtain ⟨J, hJ⟩ : ∃ J, b + i = J := ⟨_, rfl⟩
      have wI : IntKind.i64.wrap ((a : Int) + (i : Int)) = (I : Int) := by rw [IntKind.wrap_i64]; omega
      have wJ : IntKind.i64.wrap ((b : Int) + (i : Int)) = (J : Int) := by rw [IntKind.wrap_i64]; omega
      have bI : (I : Int) < (d.size : Int) := by omega
      have bJ : (J : Int) < (d.size : Int) := by omega
      obtain ⟨dk, hdk⟩ : ∃ dk, dk = (l0 i).toArray := ⟨_, rfl⟩
      have hsk : dk.size = d.size := by rw [hdk]; exact HLs.out i
      have HI : Hid (swp dk I J = (l0 (i + 1)).toArray) := by show _ = _; rw [hdk, ← hI, ← hJ]; exact HLi.out i hlt
      replace HW : Hid (wr = sortWorldK enc k w blk off m dk os) := by show _ = _; rw [hdk]; exact HW.out
      clear hdk
      go_wp2_with fail
      obtain ⟨xI, hxI⟩ : ∃ x, dk[I]! = x := ⟨_, rfl⟩
      obtain ⟨xJ, hxJ⟩ : ∃ x, dk[J]! = x := ⟨_, rfl⟩
      have hHd : HoldsK enc k wr.drew blk off dk := by
        have : HoldsK enc k wr blk off dk := by rw [HW.out]; exact holdsK_sortWorldK_c enc k w blk off d _ _ _ HH.out hblk hsk
        exact this
      have bnd : ∀ x, x < dk.size → x * k + k ≤ dk.size * k := fun x hx => by
        have := Nat.mul_le_mul_right k (show x + 1 ≤ dk.size from hx); rwa [Nat.add_mul, Nat.one_mul] at this
      have lI2 : Sem.run P (loadCellsFrom ⟨blk, off + I * k, none⟩ 0 k #[]) wr.drew = .ok (enc xI).toArray wr.drew := by rw [← hxI]; exact run_loadCellsFrom_list P _ _ _ k (HK.out _) (HoldsK.cells hHd HK.out (by omega))
      have lJ2 : Sem.run P (loadCellsFrom ⟨blk, off + J * k, none⟩ 0 k #[]) wr.drew = .ok (enc xJ).toArray wr.drew := by rw [← hxJ]; exact run_loadCellsFrom_list P _ _ _ k (HK.out _) (HoldsK.cells hHd HK.out (by omega))
      have s1 : Sem.run P (storeCells ⟨blk, off + I * k, none⟩ (enc xJ) 0) wr.drew = .ok () (wr.drew.setCells blk (off + I * k) (enc xJ)) := stores_of_holds P hHd (I * k) _ (by rw [HK.out, size_flatK]; exact bnd I (by omega)) (H1.out _)
      have s2 : Sem.run P (storeCells ⟨blk, off + J * k, none⟩ (enc xI) 0) (wr.drew.setCells blk (off + I * k) (enc xJ)) = .ok () ((wr.drew.setCells blk (off + I * k) (enc xJ)).setCells blk (off + J * k) (enc xI)) :=
        stores_of_holds P (holds_setCells_c hHd (I * k) _ (by rw [HK.out, size_flatK]; exact bnd I (by omega))) (J * k) _ (by rw [HK.out, size_setMany, size_flatK]; exact bnd J (by omega)) (H1.out _)
      have hsI : (enc xI).length = k := HK.out _
      have hsJ : (enc xJ).length = k := HK.out _
      have HSW : Hid (((wr.drew.setCells blk (off + I * k) (enc xJ)).setCells blk (off + J * k) (enc xI)) = sortWorldK enc k w blk off (m + 1) (swp dk I J) os) := by
        show _ = _
        rw [HW.out, ← hxI, ← hxJ]
        exact sortWorldK_swp_c enc k w blk off HK.out m dk os hblk I J (by omega) (by omega)
      clear hHd bnd hxI hxJ
      obtain ⟨cI, hcI⟩ : ∃ c, c = enc xI := ⟨_, rfl⟩
      obtain ⟨cJ, hcJ⟩ : ∃ c, c = enc xJ := ⟨_, rfl⟩
      rw [← hcI] at lI2 hsI
      rw [← hcJ] at s1 lJ2 hsJ
      rw [← hcI, ← hcJ] at s2
      rw [← hcI, ← hcJ] at HSW
      clear hcI hcJ
      clear HW
      go_big_region_o
      all_goals go_wp2
      go_roundw
      case rel => exact ⟨i + 1, m + 1, os, by go_num, by omega, by show _ = _; rw [HSW.out, HI.out]⟩
      case measure => simp [intOf]; omega
    · have hltz : ¬ (i : Int) < (n : Int) := by omega
      obtain rfl : i = n := by omega
      go_wp2
      go_end0
      exact GivesSW.mk' m _ os HW HLn.out
end Go.Proofs.Ytggfepphjaohiaa
