/-
  Walk: two blocks that lie side by side change places. Conditions: none.
-/
import Derived.Test.YtggfepphjaohiaaSPSwap
namespace Go.Proofs.Ytggfepphjaohiaa
open Go.Shelf Go.RowKit Go.Lib Go.Sort

set_option maxHeartbeats 4000000 in
set_option maxRecDepth 1000000 in
theorem rotateP {P : Program} {α : Type} [Inhabited α] {k : Nat} (L : SLayP P k) (enc : α → List Value) (hk : ∀ x, (enc x).length = k) (h1 : ∀ x, ∀ v ∈ enc x, v.oneCell' = true) (g : Nat) (cb : Array Value) (blk off cap : Nat) (d : Array α) (w : World)
    (hH : HoldsK enc k w blk off d) (hblk : blk < w.heap.size) (hsz : d.size < 4611686018427387904)
    (p u v s : List α) (a m b m0 : Nat) (os0 : Array Obj) (ha : p.length = a) (hm : a + u.length = m) (hb : m + v.length = b) (hu0 : 0 < u.length) (hv0 : 0 < v.length) (hd : d.size = b + s.length) (T : List α) (hT : p ++ v ++ u ++ s = T) :
    Calls P 51 #[.slice (some ⟨blk, off, none⟩) d.size cap, .int .i64 a, .int .i64 m, .int .i64 b, .func (.func g) #[] cb] (SWl enc k w blk off m0 (p ++ u ++ v ++ s) os0) (GivesSW enc k w blk off fun l' => l' = T) := by
  have mixed := L.mixed; have aE := L.aE; have zE := L.zE; have tyi := L.tyi; have agi := L.agi; have szi := L.szi; have zvi := L.zvi; have tyb := L.tyb; have agb := L.agb; have szb := L.szb; have zvb := L.zvb; have tyu := L.tyu; have agu := L.agu; have szu := L.szu; have zvu := L.zvu; have tys := L.tys; have ags := L.ags; have szs := L.szs; have zvs := L.zvs; have tyf := L.tyf; have agf := L.agf; have szf := L.szf; have zvf := L.zvf; have tyn := L.tyn; have agn := L.agn; have szn := L.szn; have zvn := L.zvn
  have HSWAP : Aside _ := fun (p u q v s : List α) (n a b m0 : Nat) (os0 : Array Obj) (hu : u.length = n) (hv : v.length = n) (ha : p.length = a) (hb : a + n + q.length = b) (hd : d.size = b + n + s.length) (T : List α) (hT : p ++ v ++ q ++ u ++ s = T) => swapRangeP L enc hk h1 g cb blk off cap d w hH hblk hsz p u q v s n a b m0 os0 hu hv ha hb hd T hT
  clear hH hk h1
  have e0 : ∀ args w, (callFunc 52 args).run P w = .ok (.enter 52 args) w := enters_of L.f0 (by kernel_rfl) rfl
  have HL0 : Hid (∃ (P' U V S : List α) (i j : Nat), U.length = i ∧ V.length = j ∧ 0 < i ∧ 0 < j ∧ i = m - a ∧ j = b - m ∧ P'.length + i = m ∧ P'.length + i + j + S.length = d.size ∧ p ++ u ++ v ++ s = P' ++ U ++ V ++ S ∧ P' ++ V ++ U ++ S = T) :=
    ⟨p, u, v, s, _, _, rfl, rfl, hu0, hv0, by omega, by omega, by omega, by omega, rfl, hT⟩
  obtain ⟨l0, hl0⟩ : ∃ l0, p ++ u ++ v ++ s = l0 := ⟨_, rfl⟩
  rw [hl0] at HL0 ⊢
  have ham : a < m := by omega
  have hmb : m < b := by omega
  have hbd : b ≤ d.size := by omega
  clear hl0 hT ha hm hb hu0 hv0 hd
  go_enter L.f1, Try.ntmps51
  go_wp2
  go_loopw [10, 11] (fun vi vj wr => ∃ (i j n : Nat) (l : List α) (os : Array Obj), vi = .int .i64 i ∧ vj = .int .i64 j ∧ 0 < i ∧ 0 < j ∧ i ≤ m ∧ m + j ≤ d.size ∧ Hid (wr = SWl enc k w blk off n l os) ∧
      Hid (∃ (P' U V S : List α), U.length = i ∧ V.length = j ∧ P'.length + i = m ∧ P'.length + i + j + S.length = d.size ∧ l = P' ++ U ++ V ++ S ∧ P' ++ V ++ U ++ S = T)) (fun vi vj _ => (intOf vi).toNat + (intOf vj).toNat)
  case atStart =>
    obtain ⟨P', U, V, S, i, j, h1, h2, h3, h4, h5, h6, h7, h8, h9, h10⟩ := HL0.out
    exact ⟨m - a, b - m, m0, l0, os0, by go_num, by go_num, by omega, by omega, by omega, by omega, rfl, P', U, V, S, by omega, by omega, by omega, by omega, h9, h10⟩
  case round =>
    clear HL0
    obtain ⟨i, j, n, l, os, rfl, rfl, hi0, hj0, him, hjd, HW, HL⟩ := hrel
    by_cases hij : i = j
    · obtain rfl : i = j := hij
      have hg : ((i : Int) != (i : Int)) = false := by simp
      have mi : (m : Int) - (i : Int) = ((m - i : Nat) : Int) := by omega
      go_wp2_with fail
      rw [HW.out]
      obtain ⟨P', U, V, S, q1, q2, q3, q4, q5, q6⟩ := HL.out
      subst q5
      have := HSWAP.out P' U [] V S i (m - i) m n os q1 q2 (by omega) (by simp; omega) (by omega) T (by simpa using q6)
      rw [List.append_nil] at this
      refine this.mono ?_
      rintro e w' ⟨rfl, n', l', os', rfl, rfl⟩
      go_wp2
      go_end0
      exact GivesSW.mk' n' _ os' rfl rfl
    · by_cases hgt : j < i
      · have hg : ((i : Int) != (j : Int)) = true := by simp; omega
        have hg2 : decide ((i : Int) > (j : Int)) = true := decide_eq_true (by omega)
        have mi : (m : Int) - (i : Int) = ((m - i : Nat) : Int) := by omega
        go_wp2_with fail
        rw [HW.out]
        obtain ⟨P', U, V, S, q1, q2, q3, q4, q5, q6⟩ := HL.out
        subst q5
        have := HSWAP.out P' (U.take j) (U.drop j) V S j (m - i) m n os (by simp; omega) q2 (by omega) (by simp; omega) (by omega) (P' ++ V ++ U.drop j ++ U.take j ++ S) rfl
        rw [show P' ++ U.take j ++ U.drop j ++ V ++ S = P' ++ U ++ V ++ S by rw [List.append_assoc P', List.take_append_drop]] at this
        refine this.mono ?_
        rintro e w' ⟨rfl, n', l', os', rfl, hl'⟩
        have HL' : Hid (∃ (P' U V S : List α), U.length = i - j ∧ V.length = j ∧ P'.length + (i - j) = m ∧ P'.length + (i - j) + j + S.length = d.size ∧ l' = P' ++ U ++ V ++ S ∧ P' ++ V ++ U ++ S = T) :=
          ⟨P' ++ V, U.drop j, U.take j, S, by simp; omega, by simp; omega, by simp; omega, by simp; omega, hl', by rw [← q6]; exact rot_eq _ _ _ _ _⟩
        clear this hl' q1 q2 q3 q4 q6
        generalize hw2 : SWl enc k w blk off n' l' os' = w2
        have HW2 : Hid (w2 = SWl enc k w blk off n' l' os') := hw2.symm
        clear hw2
        go_wp2
        go_roundw
        case rel => exact ⟨i - j, j, n', l', os', by go_num, rfl, by omega, hj0, by omega, hjd, HW2, HL'⟩
        case measure => simp [intOf]; omega
      · have hg : ((i : Int) != (j : Int)) = true := by simp; omega
        have hg2 : decide ((i : Int) > (j : Int)) = false := decide_eq_false (by omega)
        have mi : (m : Int) - (i : Int) = ((m - i : Nat) : Int) := by omega
        have mj : (m : Int) + (j : Int) - (i : Int) = ((m + j - i : Nat) : Int) := by omega
        go_wp2_with fail
        rw [HW.out]
        obtain ⟨P', U, V, S, q1, q2, q3, q4, q5, q6⟩ := HL.out
        subst q5
        have := HSWAP.out P' U (V.take (j - i)) (V.drop (j - i)) S i (m - i) (m + j - i) n os q1 (by simp; omega) (by omega) (by simp; omega) (by omega) (P' ++ V.drop (j - i) ++ V.take (j - i) ++ U ++ S) rfl
        rw [show P' ++ U ++ V.take (j - i) ++ V.drop (j - i) ++ S = P' ++ U ++ V ++ S by rw [List.append_assoc (P' ++ U), List.take_append_drop]] at this
        refine this.mono ?_
        rintro e w' ⟨rfl, n', l', os', rfl, hl'⟩
        have HL' : Hid (∃ (P' U V S : List α), U.length = i ∧ V.length = j - i ∧ P'.length + i = m ∧ P'.length + i + (j - i) + S.length = d.size ∧ l' = P' ++ U ++ V ++ S ∧ P' ++ V ++ U ++ S = T) :=
          ⟨P', V.drop (j - i), V.take (j - i), U ++ S, by simp; omega, by simp; omega, by omega, by simp; omega, by rw [hl']; simp [List.append_assoc], by rw [← q6]; rw [← List.append_assoc, List.append_assoc P' (V.take (j - i)), List.take_append_drop]⟩
        clear this hl' q1 q2 q3 q4 q6
        generalize hw2 : SWl enc k w blk off n' l' os' = w2
        have HW2 : Hid (w2 = SWl enc k w blk off n' l' os') := hw2.symm
        clear hw2
        go_wp2
        go_roundw
        case rel => exact ⟨i, j - i, n', l', os', rfl, by go_num, hi0, by omega, him, by omega, HW2, HL'⟩
        case measure => simp [intOf]; omega
end Go.Proofs.Ytggfepphjaohiaa
