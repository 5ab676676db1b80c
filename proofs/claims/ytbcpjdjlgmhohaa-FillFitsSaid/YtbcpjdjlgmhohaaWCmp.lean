/-
  Walks: two numbers compared; the first one that is not nothing; two jobs compared. Conditions: none.
-/
import Derived.Test.YtbcpjdjlgmhohaaMPJ
import Derived.Test.YtbcpjdjlgmhohaaMBase
import Derived.Deep.RegionHeld3
import Derived.WalkSpells
import Derived.WalkLawsBesides
import Derived.IntWalk
import Derived.Deep.LoopGhost
namespace Go.Proofs.Ytbcpjdjlgmhohaa
open Go.RowKit
set_option linter.unusedVariables false
set_option linter.unusedSimpArgs false

theorem Try.infoJob : (Try.prog.info? 45).map (fun i => (i.zero, i.size, i.bytes)) = some (some (.agg #[.int .i64 0, .int .i64 0, .int .i64 0, .int .i64 0]), 4, 32) := by kernel_rfl
theorem cmpNaN (x : Int) (w : World) : Calls Try.prog 58 #[.int .i64 x] w fun e w' => e = .returned (.bool false) ∧ w = w' := by
  go_enter Try.func58, Try.ntmps58
  go_wp2
  go_ret
  exact ⟨by simp, rfl⟩
theorem cmpCompare (x y : Int) (w : World) : Calls Try.prog 36 #[.int .i64 x, .int .i64 y] w fun e w' => e = .returned (.int .i64 (cmpI x y)) ∧ w = w' := by
  by_cases h : x < y
  · have e : cmpI x y = -1 := by unfold cmpI; rw [if_pos h]
    rw [e]
    clear e
    go_enter Try.func36, Try.ntmps36
    go_wp2_with (go_at_call 58; refine (cmpNaN _ _).mono ?_; rintro e w' ⟨rfl, rfl⟩)
    (try rw [Exit.noGoto_ret])
    go_ret
    exact ⟨rfl, rfl⟩
  · by_cases h' : y < x
    · have e : cmpI x y = 1 := by unfold cmpI; rw [if_neg h, if_pos h']
      rw [e]
      clear e
      go_enter Try.func36, Try.ntmps36
      go_wp2_with (go_at_call 58; refine (cmpNaN _ _).mono ?_; rintro e w' ⟨rfl, rfl⟩)
      (try rw [Exit.noGoto_ret])
      go_ret
      exact ⟨rfl, rfl⟩
    · have e : cmpI x y = 0 := by unfold cmpI; rw [if_neg h, if_neg h']
      rw [e]
      clear e
      go_enter Try.func36, Try.ntmps36
      go_wp2_with (go_at_call 58; refine (cmpNaN _ _).mono ?_; rintro e w' ⟨rfl, rfl⟩)
      (try rw [Exit.noGoto_ret])
      go_ret
      exact ⟨rfl, rfl⟩
theorem cmpOr (b : Nat) (x y : Int) (w : World) (hx : w.cell? ⟨b, 0, none⟩ = some (.int .i64 x)) (hy : w.cell? ⟨b, 1, none⟩ = some (.int .i64 y)) :
    Calls Try.prog 35 #[.slice (some ⟨b, 0, none⟩) 2 2] w fun e w' => e = .returned (.int .i64 (if x = 0 then y else x)) ∧ w = w' := by
  by_cases h : x = 0
  · have e : (if x = 0 then y else x) = y := if_pos h
    rw [e]
    clear e
    subst h
    by_cases h' : y = 0
    · subst h'
      go_enter Try.func35, Try.ntmps35
      go_wp2
      refine wp_loop_rounds 3 ?_
      rw [rounds_succ]
      go_wp2
      rw [rounds_succ]
      go_wp2
      rw [rounds_succ]
      go_wp2
      (try rw [Exit.noGoto_ret])
      go_ret
      exact ⟨rfl, rfl⟩
    · have d : (y != 0) = true := by simpa using h'
      go_enter Try.func35, Try.ntmps35
      go_wp2
      refine wp_loop_rounds 2 ?_
      rw [rounds_succ]
      go_wp2
      rw [rounds_succ]
      go_wp2
      (try rw [Exit.noGoto_ret])
      go_ret
      exact ⟨rfl, rfl⟩
  · have e : (if x = 0 then y else x) = x := if_neg h
    rw [e]
    clear e
    have d : (x != 0) = true := by simpa using h
    go_enter Try.func35, Try.ntmps35
    go_wp2
    refine wp_loop_rounds 1 ?_
    rw [rounds_succ]
    go_wp2
    (try rw [Exit.noGoto_ret])
    go_ret
    exact ⟨rfl, rfl⟩
theorem cmpOrV {x y v : Int} (h : (if x = 0 then y else x) = v) (b : Nat) (w : World) (hx : w.cell? ⟨b, 0, none⟩ = some (.int .i64 x)) (hy : w.cell? ⟨b, 1, none⟩ = some (.int .i64 y)) :
    Calls Try.prog 35 #[.slice (some ⟨b, 0, none⟩) 2 2] w fun e w' => e = .returned (.int .i64 v) ∧ w = w' := by
  subst h; exact cmpOr b x y w hx hy
end Go.Proofs.Ytbcpjdjlgmhohaa
