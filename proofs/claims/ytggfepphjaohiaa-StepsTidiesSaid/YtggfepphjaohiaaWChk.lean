/-
  Walks: clock.Is, the document's Is, both Checks of a profile, and what is free at a time. Conditions: none.
-/
import Derived.Test.YtggfepphjaohiaaProf
import Derived.Deep.QuietTactic
import Derived.BigQuiet
import Derived.Outline
import Derived.WalkSpells
import Derived.WalkLawsBesides
import Derived.IntWalk
import Derived.Deep.LoopGhost
namespace Go.Proofs.Ytggfepphjaohiaa
open Go.RowKit

theorem clkIs (t : Int) (w : World) : Calls Try.prog 30 #[.int .i64 t] w fun e w' => e = .returned (.bool (isT t)) ∧ w = w' := by
  by_cases h0 : 0 ≤ t
  · by_cases h1 : t ≤ 1099511627775
    all_goals
      go_enter Try.func30, Try.ntmps30
      go_wp2
      go_ret
      simp [isT, h0, h1]
  · have hf : isT t = false := by rw [isT_f]; omega
    go_enter Try.func30, Try.ntmps30
    go_wp2
    go_ret
    simp

theorem refIs (t : Int) (w : World) : Calls Try.prog 34 #[.int .i64 t] w fun e w' => e = .returned (.bool (isT t)) ∧ w = w' := by
  by_cases h0 : 0 ≤ t
  · by_cases h1 : t ≤ 1099511627775
    all_goals
      go_enter Try.func34, Try.ntmps34
      go_wp2
      go_ret
      simp [isT, h0, h1]
  · have hf : isT t = false := by rw [isT_f]; omega
    go_enter Try.func34, Try.ntmps34
    go_wp2
    go_ret
    simp

theorem clkIsV {t : Int} {v : Bool} (h : isT t = v) (w : World) : Calls Try.prog 30 #[.int .i64 t] w fun e w' => e = .returned (.bool v) ∧ w = w' := by
  subst h; exact clkIs t w
theorem refIsV {t : Int} {v : Bool} (h : isT t = v) (w : World) : Calls Try.prog 34 #[.int .i64 t] w fun e w' => e = .returned (.bool v) ∧ w = w' := by
  subst h; exact refIs t w

theorem refFree (A : Option Addr) (n c : Nat) (l : List Stp) (t : Int) (w : World) (hr : RdP w A n l) (hn : n ≤ 9223372036854775807) :
    Calls Try.prog 36 #[.slice A n c, .int .i64 t] w fun e w' => e = .returned (.int .i64 (freeT l t)) ∧ w = w' := by
  have HR := Lib.hid hr; clear hr
  go_enter Try.func36, Try.ntmps36
  go_wp2
  go_loop [5, 6] (fun r i => ∃ k : Nat, k ≤ n ∧ i = .int .i64 k ∧ r = .int .i64 (freeT (l.take k) t)) (fun _ i => n - (intOf i).toNat)
  case atStart => exact ⟨0, by omega, rfl, rfl⟩
  case round =>
    obtain ⟨k, hk, rfl, rfl⟩ := hrel
    by_cases hlt : k < n
    · obtain ⟨b, off, a, f, rfl, hb, hx, hc0, hc1⟩ := RdP.cut HR.out hlt
      have HS : Hid (freeT (l.take (k + 1)) t = if a ≤ t then f else freeT (l.take k) t) := by
        show _ = _
        rw [take_snoc' hx, freeT_snoc]
      clear hx
      go_wp2
      all_goals
        go_round
        case rel => exact ⟨k + 1, by omega, by go_num, by rw [HS.out]; first | rw [if_pos ‹_›] | rw [if_neg (by omega)]⟩
        case measure => simp [intOf]; omega
    · have HE : Hid (freeT (l.take k) t = freeT l t) := by
        show _ = _
        rw [take_all' (RdL.len HR.out) (by omega)]
      go_wp2
      go_ret
      exact ⟨ret_i HE.out, rfl⟩
end Go.Proofs.Ytggfepphjaohiaa
