/-
  Walk: are two rows of numbers the same. Conditions: none.
-/
import Derived.Test.YtmejjeeobhapfaaMem
import Derived.Deep.QuietTactic
import Derived.BigQuiet
namespace Go.Proofs.Ytmejjeeobhapfaa
open Go.RowKit
set_option linter.unusedVariables false
set_option linter.unusedSimpArgs false

set_option maxHeartbeats 2000000 in
theorem refSameI (A B : Option Addr) (n c m d : Nat) (l l' : List Int) (w : World) (hr : RdI w A n l) (hr' : RdI w B m l') (hn : n ≤ 9223372036854775807) (hm : m ≤ 9223372036854775807) :
    Calls Try.prog 12 #[.slice A n c, .slice B m d] w fun e w' => e = .returned (.bool (decide (l = l'))) ∧ Ext w w' := by
  have HR := Lib.hid hr; clear hr
  have HR' := Lib.hid hr'; clear hr'
  by_cases hnm : n = m
  case neg =>
    have hne : ((n : Int) != (m : Int)) = true := by rw [bne_iff_ne]; omega
    have HE : Hid (decide (l = l') = false) := decide_eq_false (fun h => hnm (by rw [← RdL.len HR.out, ← RdL.len HR'.out, h]))
    go_enter Try.func12, Try.ntmps12
    go_wp2
    (try rw [Exit.noGoto_ret])
    go_ret
    exact ⟨by rw [HE.out]; rfl, Ext.rfl'⟩
  subst hnm
  go_enter Try.func12, Try.ntmps12
  go_wp2
  go_loopw [5] (fun i wr => ∃ k : Nat, k ≤ n ∧ i = .int .i64 k ∧ Hid (l.take k = l'.take k) ∧ Ext w wr) (fun i _ => n - (intOf i).toNat)
  case atStart => exact ⟨0, by omega, rfl, rfl, Ext.rfl'⟩
  case round =>
    obtain ⟨k, hk, rfl, Hs, hext⟩ := hrel
    by_cases hlt : k < n
    · obtain ⟨b, off, x1, rfl, hb, hx, hd0⟩ := RdI.cut HR.out hlt
      obtain ⟨b', off', y1, rfl, hb', hx', he0⟩ := RdI.cut HR'.out hlt
      replace hd0 := hext.cell' hd0
      replace he0 := hext.cell' he0
      have Hx := Lib.hid hx
      have Hx' := Lib.hid hx'
      have Hext := Lib.hid hext
      have hi0' : (0 : Int) ≤ (k : Int) := Int.natCast_nonneg _
      have hi1 : (k : Int) < (n : Int) := by omega
      clear hx hx' hext
      by_cases e1 : x1 = y1
      case neg =>
        have HE : Hid (decide (l = l') = false) := decide_eq_false (fun h => by
          have h1 := Hx.out; have h2 := Hx'.out; rw [h] at h1; rw [h1] at h2; injection h2 with h2; exact e1 h2)
        have d1 : (x1 == y1) = false := by simpa using e1
        clear e1
        go_wp2
        go_quiet (fail)
        go_wp2
        (try rw [Exit.noGoto_ret])
        go_ret
        exact ⟨by rw [HE.out]; rfl, below_drewN' Hext.out _⟩
      subst e1
      have HN : Hid (l.take (k + 1) = l'.take (k + 1)) := by
        show _ = _
        rw [take_snoc' Hx.out, take_snoc' Hx'.out, Hs.out]
      go_wp2
      go_quiet (fail)
      go_wp2
      go_roundw
      case rel => exact ⟨k + 1, by omega, by go_num, HN, below_drewN' Hext.out _⟩
      case measure => simp [intOf]; omega
    · have HE : Hid (decide (l = l') = true) := decide_eq_true (by rw [← take_all' (RdL.len HR.out) (show n ≤ k by omega), Hs.out, take_all' (RdL.len HR'.out) (by omega)])
      have Hext := Lib.hid hext
      clear hext
      go_wp2
      (try rw [Exit.noGoto_ret])
      go_ret
      exact ⟨by rw [HE.out]; rfl, Hext.out⟩
theorem refSameIT (A B : Option Addr) (n c m d : Nat) (l : List Int) (w : World) (hr : RdI w A n l) (hr' : RdI w B m l) (hn : n ≤ 9223372036854775807) (hm : m ≤ 9223372036854775807) :
    Calls Try.prog 12 #[.slice A n c, .slice B m d] w fun e w' => e = .returned (.bool true) ∧ Ext w w' := by
  have h := refSameI A B n c m d l l w hr hr' hn hm
  rwa [decide_eq_true (rfl : l = l)] at h
end Go.Proofs.Ytmejjeeobhapfaa
