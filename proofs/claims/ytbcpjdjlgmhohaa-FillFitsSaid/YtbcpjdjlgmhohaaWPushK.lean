/-
  Walk: the document's step more, if it is another one; other rows are kept. Conditions: none.
-/
import Derived.Test.YtbcpjdjlgmhohaaWTidy
namespace Go.Proofs.Ytbcpjdjlgmhohaa
open Go.RowKit

/-- rows of other elements are as they were -/
def KeepsI (w w' : World) : Prop := ∀ b e s v n xs, e ≠ 48 → w.ownsRow b e s v n xs → w'.ownsRow b e s v n xs
theorem own_apart {w : World} {b b' : Nat} {e e' : TypeId} {s s' n n' : Nat} {v v' : Value} {xs xs' : List Value} (h : w.ownsRow b e s v n xs) (k : w.ownsRow b' e' s' v' n' xs') (ne : e ≠ e') : v.ownBlock = none ∨ v.ownBlock ≠ v'.ownBlock := by
  rcases h.2 with ⟨rfl, _⟩ | ⟨g, cap, cur, rfl, _, hg, _⟩
  · exact .inl rfl
  · right
    rcases k.2 with ⟨rfl, _⟩ | ⟨g', cap', cur', rfl, _, hg', _⟩
    · intro e; cases e
    · intro e
      have e1 : g = g' := Option.some.inj e
      subst e1
      rw [hg] at hg'
      injection hg' with hg'
      injection hg' with _ h2 _
      exact ne h2
def GivesPushK (base : Nat) (o : List (Int × Int)) (x : Int × Int) (w : World) (e : Ending) (w' : World) : Prop :=
  ∃ v', e = .returned v' ∧ w'.ownsRow base 48 2 v' (pushT o x).length (flat encP (pushT o x)) ∧ (∀ w0, Below base w0 w → Below base w0 w') ∧ KeepsI w w'
set_option maxHeartbeats 4000000 in
theorem refPushK (base : Nat) (v : Value) (n : Nat) (o : List (Int × Int)) (a u : Int) (w : World) (hown : w.ownsRow base 48 2 v n (flat encP o)) (hl : o.length = n) (hn : n ≤ 200000) (hb : base ≤ w.heap.size) :
    Calls Try.prog 56 #[v, .agg #[.int .i64 a, .int .i64 u]] w (GivesPushK base o (a, u) w) := by
  obtain ⟨i0, hi0, hz0, hz1, hz2⟩ := info_parts Try.infoStp
  obtain ⟨A3, c3, rfl, _, hr3⟩ := RdL.of_own encP_len hown hl
  obtain ⟨w1, hw1⟩ : ∃ w1, w.alloc (.cells #[.int .i64 a, .int .i64 u] 48) = w1 := ⟨_, rfl⟩
  have hs0 : w1.cell? ⟨w.heap.size, 0, none⟩ = some (.int .i64 a) := by rw [← hw1]; simp
  have hs1 : w1.cell? ⟨w.heap.size, 1, none⟩ = some (.int .i64 u) := by rw [← hw1]; simp
  have HS1 : Hid (w.heap.size + 1 = w1.heap.size ∧ base ≤ w.heap.size) := ⟨by rw [← hw1]; simp, hb⟩
  have hown1 : w1.ownsRow base 48 2 (.slice A3 n c3) n (flat encP o) := by rw [← hw1]; exact hown.alloc _
  have HB1 : Hid (∀ w0, Below base w0 w → Below base w0 w1) := fun w0 h => by rw [← hw1]; exact h.alloc hb _
  have HK1 : Hid (KeepsI w w1) := fun b e s v n xs _ h => by rw [← hw1]; exact h.alloc _
  have hx1 : Ext w w1 := by rw [← hw1]; exact (Below.refl _ _).alloc (Nat.le_refl _) _
  replace hr3 := RdL.ext hr3 hx1
  have HLN := Lib.hid hl
  clear hown hl hx1 hb
  obtain ⟨F, HF⟩ : ∃ F, Hid (F = flat encP o) := ⟨_, rfl⟩
  rw [← HF.out] at hown1
  go_enter Try.func56, Try.ntmps56
  go_wp2
  by_cases hL0 : n = 0
  · subst hL0
    have hp0 : o = [] := List.length_eq_zero_iff.1 HLN.out
    have HN : Hid (pushT o (a, u) = o ++ [(a, u)]) := by show _ = _; rw [hp0]; rfl
    clear hp0 hr3 hw1
    go_quiet (fail)
    have HB : Hid (∀ w0, Below base w0 w → Below base w0 (w1.drewN nq)) := fun w0 h => below_drewN' (HB1.out w0 h) _
    have hbs : base ≤ w1.heap.size := by have := HS1.out; omega
    go_wp2_with (at_builtin; refine wpList_append_lies _ rfl _ _ _ rfl base 48 i0 _ 2 16 Try.underlying22 hi0 hz0 hz1 hz2 rfl (by omega) _ 0 F rfl (World.ownsRow.alloc (show (w1.drewN nq).ownsRow _ _ _ _ _ _ from hown1) _) ⟨w1.heap.size, 0, none⟩ 1 1 [.int .i64 a, .int .i64 u] rfl rfl (World.news_of_block (cs := #[.int .i64 a, .int .i64 u]) (t := 48) (fr := (0, 0)) (heap_alloc_new (w1.drewN nq) _)) (by simp [Value.oneCell']) (by omega) (by simp only [maxLen]; omega) (by omega) (by simp; omega) (w1.heap.size + 1) (by simp) ?_; intro gg cap w4 hown4 hgrow hat hlt2; have Hown4 := Lib.hid hown4; have Hgrow := Lib.hid hgrow; clear hown4 hgrow hat)
    go_ret
    refine ⟨_, rfl, ?_, fun w0 h => ((HB.out w0 h).alloc (by simp; omega) _).grown Hgrow.out (by simp; omega) (fun z hz => (hown1.lt z hz).1), fun b e s v n xs ne h => World.ownsRow.kept (World.ownsRow.alloc (show (w1.drewN nq).ownsRow _ _ _ _ _ _ from HK1.out b e s v n xs ne h) _) Hgrow.out (own_apart (HK1.out b e s v n xs ne h) hown1 ne)⟩
    rw [HN.out, flat_append, flat_one, List.length_append, HLN.out, ← HF.out]
    exact Hown4.out
  · obtain ⟨M, rfl⟩ : ∃ M, n = M + 1 := ⟨n - 1, by omega⟩
    obtain ⟨b3, o3, a3, u3, hA3, hb3, hx3, he0, he1⟩ := RdP.cut hr3 (k := M) (by omega)
    have hlast : o.getLast? = some (a3, u3) := by rw [List.getLast?_eq_getElem?, HLN.out]; exact hx3
    subst hA3
    have hj0 : decide ((M : Int) + 1 > 0) = true := decide_eq_true (by omega)
    have hML : (M : Int) < (M : Int) + 1 := by omega
    have wM : IntKind.i64.wrap (M : Int) = (M : Int) := IntWalk.i64_in _ (by omega)
    clear hr3 hx3 hL0 hw1
    by_cases hu : u3 = u
    · have du : (u3 == u) = true := by simpa using hu
      have HN : Hid (pushT o (a, u) = o) := pushT_same hlast hu
      have HO3 : Hid (∀ q, (w1.drewN q).ownsRow base 48 2 (.slice (some ⟨b3, o3, none⟩) (M + 1) c3) o.length (flat encP o)) := fun q => by rw [HLN.out, ← HF.out]; exact hown1
      have HBQ : Hid (∀ q w0, Below base w0 w → Below base w0 (w1.drewN q)) := fun q w0 h => below_drewN' (HB1.out w0 h) _
      clear hown1 hlast hu
      go_quiet (fail)
      go_wp2
      (try rw [Exit.noGoto_ret])
      go_ret
      exact ⟨_, rfl, by rw [HN.out]; exact HO3.out _, HBQ.out _, HK1.out⟩
    · have du : (u3 == u) = false := by simpa using hu
      have HN : Hid (pushT o (a, u) = o ++ [(a, u)]) := pushT_more hlast hu
      clear hlast hu
      go_quiet (fail)
      have HB : Hid (∀ w0, Below base w0 w → Below base w0 (w1.drewN nq)) := fun w0 h => below_drewN' (HB1.out w0 h) _
      have hbs : base ≤ w1.heap.size := by have := HS1.out; omega
      go_wp2_with (at_builtin; refine wpList_append_lies _ rfl _ _ _ rfl base 48 i0 _ 2 16 Try.underlying22 hi0 hz0 hz1 hz2 rfl (by omega) _ (M + 1) F rfl (World.ownsRow.alloc (show (w1.drewN nq).ownsRow _ _ _ _ _ _ from hown1) _) ⟨w1.heap.size, 0, none⟩ 1 1 [.int .i64 a, .int .i64 u] rfl rfl (World.news_of_block (cs := #[.int .i64 a, .int .i64 u]) (t := 48) (fr := (0, 0)) (heap_alloc_new (w1.drewN nq) _)) (by simp [Value.oneCell']) (by omega) (by simp only [maxLen]; omega) (by omega) (by simp; omega) (w1.heap.size + 1) (by simp) ?_; intro gg cap w4 hown4 hgrow hat hlt2; have Hown4 := Lib.hid hown4; have Hgrow := Lib.hid hgrow; clear hown4 hgrow hat)
      go_ret
      refine ⟨_, rfl, ?_, fun w0 h => ((HB.out w0 h).alloc (by simp; omega) _).grown Hgrow.out (by simp; omega) (fun z hz => (hown1.lt z hz).1), fun b e s v n xs ne h => World.ownsRow.kept (World.ownsRow.alloc (show (w1.drewN nq).ownsRow _ _ _ _ _ _ from HK1.out b e s v n xs ne h) _) Hgrow.out (own_apart (HK1.out b e s v n xs ne h) hown1 ne)⟩
      rw [HN.out, flat_append, flat_one, List.length_append, HLN.out, ← HF.out]
      exact Hown4.out
end Go.Proofs.Ytbcpjdjlgmhohaa
