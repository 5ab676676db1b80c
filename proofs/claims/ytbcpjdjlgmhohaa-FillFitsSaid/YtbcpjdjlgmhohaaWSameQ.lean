/-
  Walks: are two rows the same: slots, jobs, numbers. Conditions: none.
-/
import Derived.Test.YtbcpjdjlgmhohaaMChk
import Derived.Deep.QuietTactic
import Derived.BigQuiet
namespace Go.Proofs.Ytbcpjdjlgmhohaa
open Go.RowKit
set_option linter.unusedVariables false
set_option linter.unusedSimpArgs false

set_option maxHeartbeats 2000000 in
theorem refSameS (A B : Option Addr) (n c m d : Nat) (l l' : List (Int × Int × Int × Int)) (w : World) (hr : RdQ w A n l) (hr' : RdQ w B m l') (hn : n ≤ 9223372036854775807) (hm : m ≤ 9223372036854775807) :
    Calls Try.prog 14 #[.slice A n c, .slice B m d] w fun e w' => e = .returned (.bool (decide (l = l'))) ∧ Ext w w' := by
  have HR := Lib.hid hr; clear hr
  have HR' := Lib.hid hr'; clear hr'
  by_cases hnm : n = m
  case neg =>
    have hne : ((n : Int) != (m : Int)) = true := by rw [bne_iff_ne]; omega
    have HE : Hid (decide (l = l') = false) := decide_eq_false (fun h => hnm (by rw [← RdL.len HR.out, ← RdL.len HR'.out, h]))
    go_enter Try.func14, Try.ntmps14
    go_wp2
    (try rw [Exit.noGoto_ret])
    go_ret
    exact ⟨by rw [HE.out]; rfl, Ext.rfl'⟩
  subst hnm
  go_enter Try.func14, Try.ntmps14
  go_wp2
  go_loopw [5] (fun i wr => ∃ k : Nat, k ≤ n ∧ i = .int .i64 k ∧ Hid (l.take k = l'.take k) ∧ Ext w wr) (fun i _ => n - (intOf i).toNat)
  case atStart => exact ⟨0, by omega, rfl, rfl, Ext.rfl'⟩
  case round =>
    obtain ⟨k, hk, rfl, Hs, hext⟩ := hrel
    by_cases hlt : k < n
    · obtain ⟨b, off, x1, x2, x3, x4, rfl, hb, hx, hd0, hd1, hd2, hd3⟩ := RdQ.cut HR.out hlt
      obtain ⟨b', off', y1, y2, y3, y4, rfl, hb', hx', he0, he1, he2, he3⟩ := RdQ.cut HR'.out hlt
      replace hd0 := hext.cell' hd0
      replace hd1 := hext.cell' hd1
      replace hd2 := hext.cell' hd2
      replace hd3 := hext.cell' hd3
      replace he0 := hext.cell' he0
      replace he1 := hext.cell' he1
      replace he2 := hext.cell' he2
      replace he3 := hext.cell' he3
      have Hx := Lib.hid hx
      have Hx' := Lib.hid hx'
      have Hext := Lib.hid hext
      have hi0' : (0 : Int) ≤ (k : Int) := Int.natCast_nonneg _
      have hi1 : (k : Int) < (n : Int) := by omega
      clear hx hx' hext
      by_cases e1 : x1 = y1
      case neg =>
        have HE : Hid (decide (l = l') = false) := decide_eq_false (fun h => by
          have h1 := Hx.out; have h2 := Hx'.out; rw [h] at h1; rw [h1] at h2; injection h2 with h2; injection h2 with h2 _; exact e1 h2)
        have d1 : (x1 == y1) = false := by simpa using e1
        clear e1
        go_wp2
        go_quiet (fail)
        go_wp2
        (try rw [Exit.noGoto_ret])
        go_ret
        exact ⟨by rw [HE.out]; rfl, below_drewN' Hext.out _⟩
      by_cases e2 : x2 = y2
      case neg =>
        have HE : Hid (decide (l = l') = false) := decide_eq_false (fun h => by
          have h1 := Hx.out; have h2 := Hx'.out; rw [h] at h1; rw [h1] at h2; injection h2 with h2; injection h2 with _ h2; injection h2 with h2 _; exact e2 h2)
        have d2 : (x2 == y2) = false := by simpa using e2
        have d1 : (x1 == y1) = true := by simpa using e1
        replace e1 := Lib.hid e1
        clear e2
        go_wp2
        go_quiet (fail)
        go_wp2
        (try rw [Exit.noGoto_ret])
        go_ret
        exact ⟨by rw [HE.out]; rfl, below_drewN' Hext.out _⟩
      by_cases e3 : x3 = y3
      case neg =>
        have HE : Hid (decide (l = l') = false) := decide_eq_false (fun h => by
          have h1 := Hx.out; have h2 := Hx'.out; rw [h] at h1; rw [h1] at h2; injection h2 with h2; injection h2 with _ h2; injection h2 with _ h2; injection h2 with h2 _; exact e3 h2)
        have d3 : (x3 == y3) = false := by simpa using e3
        have d1 : (x1 == y1) = true := by simpa using e1
        have d2 : (x2 == y2) = true := by simpa using e2
        replace e1 := Lib.hid e1
        replace e2 := Lib.hid e2
        clear e3
        go_wp2
        go_quiet (fail)
        go_wp2
        (try rw [Exit.noGoto_ret])
        go_ret
        exact ⟨by rw [HE.out]; rfl, below_drewN' Hext.out _⟩
      by_cases e4 : x4 = y4
      case neg =>
        have HE : Hid (decide (l = l') = false) := decide_eq_false (fun h => by
          have h1 := Hx.out; have h2 := Hx'.out; rw [h] at h1; rw [h1] at h2; injection h2 with h2; injection h2 with _ h2; injection h2 with _ h2; injection h2 with _ h2; exact e4 h2)
        have d4 : (x4 == y4) = false := by simpa using e4
        have d1 : (x1 == y1) = true := by simpa using e1
        have d2 : (x2 == y2) = true := by simpa using e2
        have d3 : (x3 == y3) = true := by simpa using e3
        replace e1 := Lib.hid e1
        replace e2 := Lib.hid e2
        replace e3 := Lib.hid e3
        clear e4
        go_wp2
        go_quiet (fail)
        go_wp2
        (try rw [Exit.noGoto_ret])
        go_ret
        exact ⟨by rw [HE.out]; rfl, below_drewN' Hext.out _⟩
      subst e1
      subst e2
      subst e3
      subst e4
      have HN : Hid (l.take (k + 1) = l'.take (k + 1)) := by
        show _ = _
        rw [take_snoc' Hx.out, take_snoc' Hx'.out, Hs.out]
      go_wp2
      go_quiet (fail)
      go_wp2
      go_roundw
      case rel => exact ⟨k + 1, by omega, by go_num, HN, below_drewN' Hext.out _⟩
      case measure => simp [intOf]; omega
    · have HE : Hid (decide (l = l') = true) := decide_eq_true (by rw [← take_all' (RdL.len HR.out) (show n ≤ k by omega), Hs.out, take_all' (RdL.len HR'.out) (by omega)])
      have Hext := Lib.hid hext
      clear hext
      go_wp2
      (try rw [Exit.noGoto_ret])
      go_ret
      exact ⟨by rw [HE.out]; rfl, Hext.out⟩
theorem refSameST (A B : Option Addr) (n c m d : Nat) (l : List (Int × Int × Int × Int)) (w : World) (hr : RdQ w A n l) (hr' : RdQ w B m l) (hn : n ≤ 9223372036854775807) (hm : m ≤ 9223372036854775807) :
    Calls Try.prog 14 #[.slice A n c, .slice B m d] w fun e w' => e = .returned (.bool true) ∧ Ext w w' := by
  have h := refSameS A B n c m d l l w hr hr' hn hm
  rwa [decide_eq_true (rfl : l = l)] at h

set_option maxHeartbeats 2000000 in
theorem refSameJ (A B : Option Addr) (n c m d : Nat) (l l' : List (Int × Int × Int × Int)) (w : World) (hr : RdQ w A n l) (hr' : RdQ w B m l') (hn : n ≤ 9223372036854775807) (hm : m ≤ 9223372036854775807) :
    Calls Try.prog 17 #[.slice A n c, .slice B m d] w fun e w' => e = .returned (.bool (decide (l = l'))) ∧ Ext w w' := by
  have HR := Lib.hid hr; clear hr
  have HR' := Lib.hid hr'; clear hr'
  by_cases hnm : n = m
  case neg =>
    have hne : ((n : Int) != (m : Int)) = true := by rw [bne_iff_ne]; omega
    have HE : Hid (decide (l = l') = false) := decide_eq_false (fun h => hnm (by rw [← RdL.len HR.out, ← RdL.len HR'.out, h]))
    go_enter Try.func17, Try.ntmps17
    go_wp2
    (try rw [Exit.noGoto_ret])
    go_ret
    exact ⟨by rw [HE.out]; rfl, Ext.rfl'⟩
  subst hnm
  go_enter Try.func17, Try.ntmps17
  go_wp2
  go_loopw [5] (fun i wr => ∃ k : Nat, k ≤ n ∧ i = .int .i64 k ∧ Hid (l.take k = l'.take k) ∧ Ext w wr) (fun i _ => n - (intOf i).toNat)
  case atStart => exact ⟨0, by omega, rfl, rfl, Ext.rfl'⟩
  case round =>
    obtain ⟨k, hk, rfl, Hs, hext⟩ := hrel
    by_cases hlt : k < n
    · obtain ⟨b, off, x1, x2, x3, x4, rfl, hb, hx, hd0, hd1, hd2, hd3⟩ := RdQ.cut HR.out hlt
      obtain ⟨b', off', y1, y2, y3, y4, rfl, hb', hx', he0, he1, he2, he3⟩ := RdQ.cut HR'.out hlt
      replace hd0 := hext.cell' hd0
      replace hd1 := hext.cell' hd1
      replace hd2 := hext.cell' hd2
      replace hd3 := hext.cell' hd3
      replace he0 := hext.cell' he0
      replace he1 := hext.cell' he1
      replace he2 := hext.cell' he2
      replace he3 := hext.cell' he3
      have Hx := Lib.hid hx
      have Hx' := Lib.hid hx'
      have Hext := Lib.hid hext
      have hi0' : (0 : Int) ≤ (k : Int) := Int.natCast_nonneg _
      have hi1 : (k : Int) < (n : Int) := by omega
      clear hx hx' hext
      by_cases e1 : x1 = y1
      case neg =>
        have HE : Hid (decide (l = l') = false) := decide_eq_false (fun h => by
          have h1 := Hx.out; have h2 := Hx'.out; rw [h] at h1; rw [h1] at h2; injection h2 with h2; injection h2 with h2 _; exact e1 h2)
        have d1 : (x1 == y1) = false := by simpa using e1
        clear e1
        go_wp2
        go_quiet (fail)
        go_wp2
        (try rw [Exit.noGoto_ret])
        go_ret
        exact ⟨by rw [HE.out]; rfl, below_drewN' Hext.out _⟩
      by_cases e2 : x2 = y2
      case neg =>
        have HE : Hid (decide (l = l') = false) := decide_eq_false (fun h => by
          have h1 := Hx.out; have h2 := Hx'.out; rw [h] at h1; rw [h1] at h2; injection h2 with h2; injection h2 with _ h2; injection h2 with h2 _; exact e2 h2)
        have d2 : (x2 == y2) = false := by simpa using e2
        have d1 : (x1 == y1) = true := by simpa using e1
        replace e1 := Lib.hid e1
        clear e2
        go_wp2
        go_quiet (fail)
        go_wp2
        (try rw [Exit.noGoto_ret])
        go_ret
        exact ⟨by rw [HE.out]; rfl, below_drewN' Hext.out _⟩
      by_cases e3 : x3 = y3
      case neg =>
        have HE : Hid (decide (l = l') = false) := decide_eq_false (fun h => by
          have h1 := Hx.out; have h2 := Hx'.out; rw [h] at h1; rw [h1] at h2; injection h2 with h2; injection h2 with _ h2; injection h2 with _ h2; injection h2 with h2 _; exact e3 h2)
        have d3 : (x3 == y3) = false := by simpa using e3
        have d1 : (x1 == y1) = true := by simpa using e1
        have d2 : (x2 == y2) = true := by simpa using e2
        replace e1 := Lib.hid e1
        replace e2 := Lib.hid e2
        clear e3
        go_wp2
        go_quiet (fail)
        go_wp2
        (try rw [Exit.noGoto_ret])
        go_ret
        exact ⟨by rw [HE.out]; rfl, below_drewN' Hext.out _⟩
      by_cases e4 : x4 = y4
      case neg =>
        have HE : Hid (decide (l = l') = false) := decide_eq_false (fun h => by
          have h1 := Hx.out; have h2 := Hx'.out; rw [h] at h1; rw [h1] at h2; injection h2 with h2; injection h2 with _ h2; injection h2 with _ h2; injection h2 with _ h2; exact e4 h2)
        have d4 : (x4 == y4) = false := by simpa using e4
        have d1 : (x1 == y1) = true := by simpa using e1
        have d2 : (x2 == y2) = true := by simpa using e2
        have d3 : (x3 == y3) = true := by simpa using e3
        replace e1 := Lib.hid e1
        replace e2 := Lib.hid e2
        replace e3 := Lib.hid e3
        clear e4
        go_wp2
        go_quiet (fail)
        go_wp2
        (try rw [Exit.noGoto_ret])
        go_ret
        exact ⟨by rw [HE.out]; rfl, below_drewN' Hext.out _⟩
      subst e1
      subst e2
      subst e3
      subst e4
      have HN : Hid (l.take (k + 1) = l'.take (k + 1)) := by
        show _ = _
        rw [take_snoc' Hx.out, take_snoc' Hx'.out, Hs.out]
      go_wp2
      go_quiet (fail)
      go_wp2
      go_roundw
      case rel => exact ⟨k + 1, by omega, by go_num, HN, below_drewN' Hext.out _⟩
      case measure => simp [intOf]; omega
    · have HE : Hid (decide (l = l') = true) := decide_eq_true (by rw [← take_all' (RdL.len HR.out) (show n ≤ k by omega), Hs.out, take_all' (RdL.len HR'.out) (by omega)])
      have Hext := Lib.hid hext
      clear hext
      go_wp2
      (try rw [Exit.noGoto_ret])
      go_ret
      exact ⟨by rw [HE.out]; rfl, Hext.out⟩
theorem refSameJT (A B : Option Addr) (n c m d : Nat) (l : List (Int × Int × Int × Int)) (w : World) (hr : RdQ w A n l) (hr' : RdQ w B m l) (hn : n ≤ 9223372036854775807) (hm : m ≤ 9223372036854775807) :
    Calls Try.prog 17 #[.slice A n c, .slice B m d] w fun e w' => e = .returned (.bool true) ∧ Ext w w' := by
  have h := refSameJ A B n c m d l l w hr hr' hn hm
  rwa [decide_eq_true (rfl : l = l)] at h

set_option maxHeartbeats 2000000 in
theorem refSameI (A B : Option Addr) (n c m d : Nat) (l l' : List Int) (w : World) (hr : RdI w A n l) (hr' : RdI w B m l') (hn : n ≤ 9223372036854775807) (hm : m ≤ 9223372036854775807) :
    Calls Try.prog 15 #[.slice A n c, .slice B m d] w fun e w' => e = .returned (.bool (decide (l = l'))) ∧ Ext w w' := by
  have HR := Lib.hid hr; clear hr
  have HR' := Lib.hid hr'; clear hr'
  by_cases hnm : n = m
  case neg =>
    have hne : ((n : Int) != (m : Int)) = true := by rw [bne_iff_ne]; omega
    have HE : Hid (decide (l = l') = false) := decide_eq_false (fun h => hnm (by rw [← RdL.len HR.out, ← RdL.len HR'.out, h]))
    go_enter Try.func15, Try.ntmps15
    go_wp2
    (try rw [Exit.noGoto_ret])
    go_ret
    exact ⟨by rw [HE.out]; rfl, Ext.rfl'⟩
  subst hnm
  go_enter Try.func15, Try.ntmps15
  go_wp2
  go_loopw [5] (fun i wr => ∃ k : Nat, k ≤ n ∧ i = .int .i64 k ∧ Hid (l.take k = l'.take k) ∧ Ext w wr) (fun i _ => n - (intOf i).toNat)
  case atStart => exact ⟨0, by omega, rfl, rfl, Ext.rfl'⟩
  case round =>
    obtain ⟨k, hk, rfl, Hs, hext⟩ := hrel
    by_cases hlt : k < n
    · obtain ⟨b, off, x1, rfl, hb, hx, hd0⟩ := RdI.cut HR.out hlt
      obtain ⟨b', off', y1, rfl, hb', hx', he0⟩ := RdI.cut HR'.out hlt
      replace hd0 := hext.cell' hd0
      replace he0 := hext.cell' he0
      have Hx := Lib.hid hx
      have Hx' := Lib.hid hx'
      have Hext := Lib.hid hext
      have hi0' : (0 : Int) ≤ (k : Int) := Int.natCast_nonneg _
      have hi1 : (k : Int) < (n : Int) := by omega
      clear hx hx' hext
      by_cases e1 : x1 = y1
      case neg =>
        have HE : Hid (decide (l = l') = false) := decide_eq_false (fun h => by
          have h1 := Hx.out; have h2 := Hx'.out; rw [h] at h1; rw [h1] at h2; injection h2 with h2; exact e1 h2)
        have d1 : (x1 == y1) = false := by simpa using e1
        clear e1
        go_wp2
        go_quiet (fail)
        go_wp2
        (try rw [Exit.noGoto_ret])
        go_ret
        exact ⟨by rw [HE.out]; rfl, below_drewN' Hext.out _⟩
      subst e1
      have HN : Hid (l.take (k + 1) = l'.take (k + 1)) := by
        show _ = _
        rw [take_snoc' Hx.out, take_snoc' Hx'.out, Hs.out]
      go_wp2
      go_quiet (fail)
      go_wp2
      go_roundw
      case rel => exact ⟨k + 1, by omega, by go_num, HN, below_drewN' Hext.out _⟩
      case measure => simp [intOf]; omega
    · have HE : Hid (decide (l = l') = true) := decide_eq_true (by rw [← take_all' (RdL.len HR.out) (show n ≤ k by omega), Hs.out, take_all' (RdL.len HR'.out) (by omega)])
      have Hext := Lib.hid hext
      clear hext
      go_wp2
      (try rw [Exit.noGoto_ret])
      go_ret
      exact ⟨by rw [HE.out]; rfl, Hext.out⟩
theorem refSameIT (A B : Option Addr) (n c m d : Nat) (l : List Int) (w : World) (hr : RdI w A n l) (hr' : RdI w B m l) (hn : n ≤ 9223372036854775807) (hm : m ≤ 9223372036854775807) :
    Calls Try.prog 15 #[.slice A n c, .slice B m d] w fun e w' => e = .returned (.bool true) ∧ Ext w w' := by
  have h := refSameI A B n c m d l l w hr hr' hn hm
  rwa [decide_eq_true (rfl : l = l)] at h
end Go.Proofs.Ytbcpjdjlgmhohaa
