/-
  Walk: a copy of a slice. Conditions: none.
-/
import Derived.Test.YtbcpjdjlgmhohaaMBase
import Derived.Test.YtbcpjdjlgmhohaaWCut
import Derived.Lib.Walk
import Derived.Lib.SliceRun
namespace Go.Proofs.Ytbcpjdjlgmhohaa
open Go.RowKit

def GivesRowP (n : Nat) (l : List (Int × Int)) (w : World) (e : Ending) (w' : World) : Prop := ∃ v', e = .returned v' ∧ w'.ownsRow w.heap.size 48 2 v' n (flat encP l) ∧ Ext w w'
set_option maxHeartbeats 2000000 in
set_option maxRecDepth 100000 in
theorem cloneP (A : Option Addr) (n c : Nat) (l : List (Int × Int)) (w : World) (hr : RdP w A n l) (hn : n ≤ 1000000) :
    Calls Try.prog 45 #[.slice A n c] w (GivesRowP n l w) := by
  have q22 : ∀ (w : World) (a : Option Addr) (n c n' c' : Nat), (binOp .eql 22 (.slice a n c) (.slice none n' c')).run Try.prog w = .ok (.bool a.isNone) w := fun w a n c n' c' => Lib.run_eql_slice_nil w _ _ a n c n' c' Try.underlying22
  have HR := Lib.hid hr; clear hr
  obtain ⟨i0, hi0, hz0, hz1, hz2⟩ := info_parts Try.infoStp
  cases A with
  | none =>
    have hn0 : n = 0 := by
      rcases HR.out.2.2.2 with h | ⟨b, off, h, _⟩
      · exact h
      · cases h
    have HO : Hid (w.ownsRow w.heap.size 48 2 (.slice none 0 0) n (flat encP l)) := by
      subst hn0
      have hl : l = [] := List.length_eq_zero_iff.1 (RdL.len HR.out)
      subst hl
      exact World.ownsRow_nil _ _ _ _
    clear hn0
    go_enter Try.func45, Try.ntmps45
    go_wp2
    go_ret
    exact ⟨_, rfl, HO.out, Ext.rfl'⟩
  | some ad =>
    have HC : Hid (∀ j u, (flat encP l)[j]? = some u → w.cell? (ad.add j) = some u) := fun j u hj => by
      rcases HR.out.2.2.2 with h | ⟨b, off, h, _, hc⟩
      · subst h
        have hl : l = [] := List.length_eq_zero_iff.1 (RdL.len HR.out)
        subst hl
        simp [flat] at hj
      · injection h with h
        subst h
        rw [Addr.add_lit]
        exact hc j u hj
    have HL : Hid ((flat encP l).length = n * 2) := by show _ = _; rw [flat_length encP_len, RdL.len HR.out]
    have H1 : Hid (∀ u ∈ flat encP l, u.oneCell' = true) := fun u hu => by
      obtain ⟨x, _, hx⟩ := List.mem_flatMap.1 hu
      simp only [encP, List.mem_cons, List.not_mem_nil, or_false] at hx
      rcases hx with rfl | rfl <;> rfl
    obtain ⟨F, HF⟩ : ∃ F, Hid (F = flat encP l) := ⟨_, rfl⟩
    rw [← HF.out] at HC HL H1
    go_enter Try.func45, Try.ntmps45
    go_wp2_with (at_builtin; refine wpList_append_own _ rfl _ _ 22 rfl w.heap.size 48 i0 _ 2 16 Try.underlying22 hi0 hz0 hz1 hz2 rfl (by omega) _ _ _ rfl (World.ownsRow_made w #[] 0 (Nat.le_refl _) (Nat.zero_le _) (by simp)) ad n c F rfl ?qc1 ?qc2 ?qc3 ?qc4 ?qc5 ?qc6 ?_)
    case qc1 => exact HL.out
    case qc2 =>
      intro j u hj
      exact Lib.cell?_alloc_some _ (HC.out j u hj)
    case qc3 => exact H1.out
    case qc4 => rw [Nat.zero_add]; simp only [maxLen]; omega
    case qc5 => rw [Nat.zero_add]; omega
    case qc6 => simp
    intro v' w1 hown hgrow hnil
    have HO : Hid (w1.ownsRow w.heap.size 48 2 v' n (flat encP l)) := by
      rw [← HF.out]
      exact hown
    have HX : Hid (Ext w w1) := ((Below.refl _ w).alloc (Nat.le_refl _) _).grown hgrow (by simp) (by intro k hk; simp [Value.ownBlock] at hk; omega)
    clear hown hgrow hnil
    go_wp2
    go_ret
    exact ⟨v', rfl, HO.out, HX.out⟩
end Go.Proofs.Ytbcpjdjlgmhohaa
