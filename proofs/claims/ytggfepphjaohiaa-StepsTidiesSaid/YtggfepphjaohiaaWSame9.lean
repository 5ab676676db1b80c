/-
  Walk: are two rows of steps the same, by the document. Conditions: none.
-/
import Derived.Test.YtggfepphjaohiaaWChk
namespace Go.Proofs.Ytggfepphjaohiaa
open Go.RowKit
set_option linter.unusedVariables false
set_option linter.unusedSimpArgs false

def sameL (l l' : List Stp) : Bool := decide (l = l')
theorem sameL_t {l l' : List Stp} (h : l = l') : sameL l l' = true := by simp [sameL, h]
theorem sameL_f {l l' : List Stp} (h : ¬ l = l') : sameL l l' = false := by simp [sameL, h]

set_option maxHeartbeats 1000000 in
theorem refSame9 (A B : Option Addr) (n c m d : Nat) (l l' : List Stp) (w : World) (hr : RdP w A n l) (hr' : RdP w B m l') (hn : n ≤ 9223372036854775807) (hm : m ≤ 9223372036854775807) :
    Calls Try.prog 14 #[.slice A n c, .slice B m d] w fun e w' => e = .returned (.bool (sameL l l')) ∧ Ext w w' := by
  have HR := Lib.hid hr; clear hr
  have HR' := Lib.hid hr'; clear hr'
  by_cases hnm : n = m
  case neg =>
    have hne : ((n : Int) != (m : Int)) = true := by rw [bne_iff_ne]; omega
    have HE : Hid (sameL l l' = false) := sameL_f (fun h => hnm (by rw [← RdL.len HR.out, ← RdL.len HR'.out, h]))
    go_enter Try.func14, Try.ntmps14
    go_wp2
    go_ret
    exact ⟨ret_b HE.out.symm, Ext.rfl'⟩
  subst hnm
  go_enter Try.func14, Try.ntmps14
  go_wp2
  go_loopw [5] (fun i wr => ∃ k : Nat, k ≤ n ∧ i = .int .i64 k ∧ Hid (l.take k = l'.take k) ∧ Ext w wr) (fun i _ => n - (intOf i).toNat)
  case atStart => exact ⟨0, by omega, rfl, rfl, Ext.rfl'⟩
  case round =>
    obtain ⟨k, hk, rfl, Hs, hext⟩ := hrel
    by_cases hlt : k < n
    · obtain ⟨b, off, x, y, rfl, hb, hx, hd0, hd1⟩ := RdP.cut HR.out hlt
      obtain ⟨b', off', x', y', rfl, hb', hx', he0, he1⟩ := RdP.cut HR'.out hlt
      replace hd0 := hext.cell' hd0
      replace hd1 := hext.cell' hd1
      replace he0 := hext.cell' he0
      replace he1 := hext.cell' he1
      have Hx := Lib.hid hx
      have Hx' := Lib.hid hx'
      have Hext := Lib.hid hext
      have hi0' : (0 : Int) ≤ (k : Int) := Int.natCast_nonneg _
      have hi1 : (k : Int) < (n : Int) := by omega
      clear hx hx' hext
      by_cases e1 : x = x'
      · by_cases e2 : y = y'
        · subst e1
          subst e2
          have HN : Hid (l.take (k + 1) = l'.take (k + 1)) := by
            show _ = _
            rw [take_snoc' Hx.out, take_snoc' Hx'.out, Hs.out]
          go_wp2
          go_quiet (fail)
          go_wp2
          go_roundw
          case rel => exact ⟨k + 1, by omega, by go_num, HN, below_drewN' Hext.out _⟩
          case measure => simp [intOf]; omega
        · have HE : Hid (sameL l l' = false) := sameL_f (fun h => by
            have h1 := Hx.out; have h2 := Hx'.out; rw [h] at h1; rw [h1] at h2; injection h2 with h2; injection h2 with _ h2; exact e2 h2)
          have d1 : (x == x') = true := by simpa using e1
          have d2 : (y == y') = false := by simpa using e2
          replace e1 := Lib.hid e1
          go_wp2
          go_quiet (fail)
          go_wp2
          go_ret
          exact ⟨ret_b HE.out.symm, below_drewN' Hext.out _⟩
      · have HE : Hid (sameL l l' = false) := sameL_f (fun h => by
          have h1 := Hx.out; have h2 := Hx'.out; rw [h] at h1; rw [h1] at h2; injection h2 with h2; injection h2 with h2 _; exact e1 h2)
        have d1 : (x == x') = false := by simpa using e1
        go_wp2
        go_quiet (fail)
        go_wp2
        go_ret
        exact ⟨ret_b HE.out.symm, below_drewN' Hext.out _⟩
    · have HE : Hid (sameL l l' = true) := sameL_t (by rw [← take_all' (RdL.len HR.out) (show n ≤ k by omega), Hs.out, take_all' (RdL.len HR'.out) (by omega)])
      go_wp2
      go_ret
      exact ⟨ret_b HE.out.symm, hext⟩
end Go.Proofs.Ytggfepphjaohiaa
