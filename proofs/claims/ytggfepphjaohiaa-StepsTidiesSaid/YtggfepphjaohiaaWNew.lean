/-
  Walks: a profile that is always the same; whether two are the same. Conditions: none.
-/
import Derived.Test.YtggfepphjaohiaaWCut
import Derived.Test.YtggfepphjaohiaaExt
namespace Go.Proofs.Ytggfepphjaohiaa
open Go.RowKit

def GivesNew (n : Int) (w : World) (e : Ending) (w' : World) : Prop := ∃ A, e = .returned (.tuple #[.slice A 1 1, .int .i64 0]) ∧ RdP w' A 1 [(0, n)] ∧ Ext w w'
theorem stepsNew (n : Int) (w : World) (h0 : 0 ≤ n) (h1 : n ≤ 10000) : Calls Try.prog 29 #[.int .i64 n] w (GivesNew n w) := by
  have d0 : decide (n < 0) = false := by simp; omega
  have d1 : decide (n > 10000) = false := by simp; omega
  have HO := Lib.hid (own_lit w w.heap.size 48 2 1 1 w.heap.size #[.int .i64 0, .int .i64 n] (flat encP [(0, n)]) (Nat.le_refl _) rfl (by simp only [maxLen]; omega) rfl rfl rfl)
  go_enter Try.func29, Try.ntmps29
  go_wp2
  (try rw [Exit.noGoto_ret])
  go_ret2
  obtain ⟨A, c, hv, _, hr⟩ := RdL.of_own encP_len HO.out rfl
  injection hv with e1 e2 e3
  subst e1
  exact ⟨_, rfl, hr, (Below.refl _ _).alloc (Nat.le_refl _) _⟩
theorem stepsNew_bad (n : Int) (w : World) (h : n < 0 ∨ 10000 < n) : Calls Try.prog 29 #[.int .i64 n] w fun e w' => e = .returned (.tuple #[.slice none 0 0, .int .i64 2]) ∧ Ext w w' := by
  by_cases h0 : n < 0
  · have d0 : decide (n < 0) = true := by simpa using h0
    go_enter Try.func29, Try.ntmps29
    go_wp2
    (try rw [Exit.noGoto_ret])
    go_ret2
    exact ⟨rfl, Ext.rfl'⟩
  · have d0 : decide (n < 0) = false := by simpa using h0
    have d1 : decide (n > 10000) = true := by simp; omega
    go_enter Try.func29, Try.ntmps29
    go_wp2
    (try rw [Exit.noGoto_ret])
    go_ret2
    exact ⟨rfl, Ext.rfl'⟩

set_option maxHeartbeats 2000000 in
theorem stepsEqual (A B : Option Addr) (n m c d : Nat) (l r : List (Int × Int)) (w : World) (hr : RdP w A n l) (hs : RdP w B m r) (hn : n ≤ 1000000) (hm : m ≤ 1000000) :
    Calls Try.prog 41 #[.slice A n c, .slice B m d] w fun e w' => e = .returned (.bool (decide (l = r))) ∧ Ext w w' := by
  have HR := Lib.hid hr
  have HS := Lib.hid hs
  clear hr hs
  by_cases hnm : n = m
  · subst hnm
    have HE : Hid (∀ k, k = n → l.take k = r.take k → decide (l = r) = true) := fun k hk h => by
      rw [List.take_of_length_le (by rw [RdL.len HR.out]; omega), List.take_of_length_le (by rw [RdL.len HS.out]; omega)] at h
      simpa using h
    go_enter Try.func41, Try.ntmps41
    go_wp2
    go_loopw [13] (fun i wr => ∃ k : Nat, k ≤ n ∧ i = .int .i64 k ∧ Hid (l.take k = r.take k) ∧ Ext w wr) (fun i _ => n - (intOf i).toNat)
    case atStart => exact ⟨0, by omega, rfl, by show _ = _; simp, Ext.rfl'⟩
    case round =>
      obtain ⟨k, hk, rfl, HT, hext⟩ := hrel
      by_cases hlt : k < n
      · obtain ⟨b1, o1, a, u, rfl, _, hx, hd0, hd1⟩ := RdP.cut HR.out (k := k) hlt
        obtain ⟨b2, o2, a', u', rfl, _, hy, he0, he1⟩ := RdP.cut HS.out (k := k) hlt
        replace hd0 := hext.cell' hd0
        replace hd1 := hext.cell' hd1
        replace he0 := hext.cell' he0
        replace he1 := hext.cell' he1
        have HX := Lib.hid hx; clear hx
        have HY := Lib.hid hy; clear hy
        have HXT := Lib.hid hext; clear hext
        by_cases ha : a = a'
        · by_cases hu : u = u'
          · have HN : Hid (l.take (k + 1) = r.take (k + 1)) := by show _ = _; rw [take_snoc' HX.out, take_snoc' HY.out, HT.out, ha, hu]
            subst ha
            subst hu
            go_wp2
            go_quiet (fail)
            go_wp2
            go_roundw
            case rel => exact ⟨k + 1, by omega, by go_num, HN, below_drewN' HXT.out _⟩
            case measure => simp [intOf]; omega
          · have du : (u == u') = false := by simpa using hu
            have HNE : Hid (decide (l = r) = false) := by
              show _ = _
              refine decide_eq_false fun h => hu ?_
              have h1 := HX.out
              rw [h, HY.out] at h1
              injection h1 with h1; injection h1 with _ h2; exact h2.symm
            subst ha
            clear hu
            go_wp2
            go_quiet (fail)
            go_wp2
            (try rw [Exit.noGoto_ret])
            go_ret
            exact ⟨by rw [HNE.out]; rfl, below_drewN' HXT.out _⟩
        · have da : (a == a') = false := by simpa using ha
          have HNE : Hid (decide (l = r) = false) := by
            show _ = _
            refine decide_eq_false fun h => ha ?_
            have h1 := HX.out
            rw [h, HY.out] at h1
            injection h1 with h1; injection h1 with h2 _; exact h2.symm
          clear ha
          go_wp2
          go_quiet (fail)
          go_wp2
          (try rw [Exit.noGoto_ret])
          go_ret
          exact ⟨by rw [HNE.out]; rfl, below_drewN' HXT.out _⟩
      · have HF : Hid (decide (l = r) = true) := HE.out k (by omega) HT.out
        have hlz : decide ((k : Int) < (n : Int)) = false := by simp; omega
        go_wp2
        (try rw [Exit.noGoto_ret])
        go_ret
        exact ⟨by rw [HF.out]; rfl, hext⟩
  · have HNE : Hid (decide (l = r) = false) := by
      show _ = _
      refine decide_eq_false fun h => hnm ?_
      have h1 := RdL.len HR.out
      rw [h, RdL.len HS.out] at h1
      exact h1.symm
    have dn : ((n : Int) != (m : Int)) = true := by simp; omega
    go_enter Try.func41, Try.ntmps41
    go_wp2
    (try rw [Exit.noGoto_ret])
    go_ret
    exact ⟨by rw [HNE.out]; rfl, Ext.rfl'⟩
theorem stepsSame (A B : Option Addr) (n m c d : Nat) (l r : List (Int × Int)) (w : World) (hr : RdP w A n l) (hs : RdP w B m r) (hn : n ≤ 1000000) (hm : m ≤ 1000000) :
    Calls Try.prog 20 #[.slice A n c, .slice B m d] w fun e w' => e = .returned (.bool (decide (l = r))) ∧ Ext w w' := by
  have HC := Lib.hid (show Hid _ from stepsEqual A B n m c d l r w hr hs hn hm)
  clear hr hs
  go_enter Try.func20, Try.ntmps20
  go_wp2_with fail
  refine Calls.mono HC.out ?_
  rintro e w1 ⟨rfl, hx⟩
  have HX := Lib.hid hx; clear hx
  go_wp2
  (try rw [Exit.noGoto_ret])
  go_ret
  exact ⟨rfl, HX.out⟩
end Go.Proofs.Ytggfepphjaohiaa
