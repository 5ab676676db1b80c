import Derived.Test.YtbcpjdjlgmhohaaMBase
import Derived.Deep.QuietTactic
import Derived.BigQuiet
import Derived.Outline
import Derived.WalkSpells
import Derived.WalkLawsBesides
import Derived.IntWalk
import Derived.Deep.LoopGhost
/-
  Walks: clock.Is, the document's Is, both Checks of a profile, and what is free at a time. Conditions: none.
-/
namespace Go.Proofs.Ytbcpjdjlgmhohaa
open Go.RowKit

theorem clkIs (t : Int) (w : World) : Calls Try.prog 39 #[.int .i64 t] w fun e w' => e = .returned (.bool (isT t)) ∧ w = w' := by
  by_cases h0 : 0 ≤ t
  · by_cases h1 : t ≤ 1099511627775
    all_goals
      go_enter Try.func39, Try.ntmps39
      go_wp2
      go_ret
      simp [isT, h0, h1]
  · have hf : isT t = false := by rw [isT_f]; omega
    go_enter Try.func39, Try.ntmps39
    go_wp2
    go_ret
    simp

theorem refIs (t : Int) (w : World) : Calls Try.prog 44 #[.int .i64 t] w fun e w' => e = .returned (.bool (isT t)) ∧ w = w' := by
  by_cases h0 : 0 ≤ t
  · by_cases h1 : t ≤ 1099511627775
    all_goals
      go_enter Try.func44, Try.ntmps44
      go_wp2
      go_ret
      simp [isT, h0, h1]
  · have hf : isT t = false := by rw [isT_f]; omega
    go_enter Try.func44, Try.ntmps44
    go_wp2
    go_ret
    simp

theorem clkIsV {t : Int} {v : Bool} (h : isT t = v) (w : World) : Calls Try.prog 39 #[.int .i64 t] w fun e w' => e = .returned (.bool v) ∧ w = w' := by
  subst h; exact clkIs t w
theorem refIsV {t : Int} {v : Bool} (h : isT t = v) (w : World) : Calls Try.prog 44 #[.int .i64 t] w fun e w' => e = .returned (.bool v) ∧ w = w' := by
  subst h; exact refIs t w

theorem refFree (A : Option Addr) (n c : Nat) (l : List Stp) (t : Int) (w : World) (hr : RdP w A n l) (hn : n ≤ 9223372036854775807) :
    Calls Try.prog 55 #[.slice A n c, .int .i64 t] w fun e w' => e = .returned (.int .i64 (freeT l t)) ∧ w = w' := by
  have HR := Lib.hid hr; clear hr
  go_enter Try.func55, Try.ntmps55
  go_wp2
  go_loop [5, 6] (fun r i => ∃ k : Nat, k ≤ n ∧ i = .int .i64 k ∧ r = .int .i64 (freeT (l.take k) t)) (fun _ i => n - (intOf i).toNat)
  case atStart => exact ⟨0, by omega, rfl, rfl⟩
  case round =>
    obtain ⟨k, hk, rfl, rfl⟩ := hrel
    by_cases hlt : k < n
    · obtain ⟨b, off, a, f, rfl, hb, hx, hc0, hc1⟩ := RdP.cut HR.out hlt
      have HS : Hid (freeT (l.take (k + 1)) t = if a ≤ t then f else freeT (l.take k) t) := by
        show _ = _
        rw [take_snoc' hx, freeT_snoc]
      clear hx
      go_wp2
      all_goals
        go_round
        case rel => exact ⟨k + 1, by omega, by go_num, by rw [HS.out]; first | rw [if_pos ‹_›] | rw [if_neg (by omega)]⟩
        case measure => simp [intOf]; omega
    · have HE : Hid (freeT (l.take k) t = freeT l t) := by
        show _ = _
        rw [take_all' (RdL.len HR.out) (by omega)]
      go_wp2
      go_ret
      exact ⟨ret_i HE.out, rfl⟩
end Go.Proofs.Ytbcpjdjlgmhohaa

/-
  Walks: both Checks of a profile. Conditions: none.
-/
namespace Go.Proofs.Ytbcpjdjlgmhohaa
open Go.RowKit

set_option maxHeartbeats 1000000 in
theorem stepsCheck (A : Option Addr) (n c : Nat) (l : List Stp) (w : World) (hr : RdP w A n l) (hn : n ≤ 9223372036854775807) :
    Calls Try.prog 38 #[.slice A n c] w fun e w' => e = .returned (.int .i64 (chkE l)) ∧ Ext w w' := by
  have HR := Lib.hid hr; clear hr
  have hlen := RdL.len HR.out
  have Hlen := Lib.hid hlen; clear hlen
  by_cases h0 : n = 0
  · have HE : Hid (chkE l = 2) := chkE_f (fun h => by have := h.1; have := Hlen.out; omega)
    subst h0
    go_enter Try.func38, Try.ntmps38
    go_wp2; go_step3; go_wp2
    (try rw [Exit.noGoto_ret])
    go_ret
    exact ⟨ret_i HE.out.symm, Ext.rfl'⟩
  have hz : ((n : Int) == 0) = false := by rw [beq_eq_false_iff_ne]; omega
  by_cases h1 : 20000 < n
  · have HE : Hid (chkE l = 2) := chkE_f (fun h => by have := h.2.1; have := Hlen.out; omega)
    go_enter Try.func38, Try.ntmps38
    go_wp2; go_step3; go_wp2
    (try rw [Exit.noGoto_ret])
    go_ret
    exact ⟨ret_i HE.out.symm, Ext.rfl'⟩
  obtain ⟨b, off, a0, f0, rfl, hb, hx0, hc0, _⟩ := RdP.cut HR.out (k := 0) (by omega)
  have Hx0 := Lib.hid hx0; clear hx0
  simp only [Nat.zero_mul, Nat.add_zero] at hc0
  by_cases h2 : a0 = 0
  · subst h2
    go_enter Try.func38, Try.ntmps38
    go_wp2; go_step3; go_wp2; go_step3; go_wp2
    go_loopw [3, 23] (fun o i wr => ∃ k : Nat, k ≤ n ∧ i = .int .i64 k ∧ o = .bool true ∧ Hid (∀ i, i < k → okAt l i) ∧ Ext w wr) (fun _ i _ => n - (intOf i).toNat)
    case atStart => exact ⟨0, by omega, rfl, rfl, fun i hi => absurd hi (by omega), Ext.rfl'⟩
    case round =>
      obtain ⟨k, hk, rfl, rfl, Hok, hext⟩ := hrel
      by_cases hlt : k < n
      · obtain ⟨b', off', a, f, hA, hbk, hx, hd0, hd1⟩ := RdP.cut HR.out hlt
        injection hA with hA; injection hA with hA1 hA2 _; subst hA1; subst hA2
        replace hd0 := hext.cell' hd0
        replace hd1 := hext.cell' hd1
        have Hx := Lib.hid hx; clear hx hc0 hz h1
        have hbw : b < wr.heap.size := by have := hext.size; omega
        have Hext := Lib.hid hext; clear hext hb hbk
        by_cases ca : isT a = false
        · skip
          have HE : Hid (chkE l = 2) := chkE_f (fun h => by obtain ⟨p1, p2, p3, p4⟩ := h.2.2.2 k (by have := Hlen.out; omega) a f Hx.out; rw [isT_f] at ca; omega)
          go_wp2
          go_quiet ((go_at_call 39; exact quietL (clkIsV ca _)))
          go_wp2
          (try rw [Exit.noGoto_ret])
          go_ret
          exact ⟨ret_i HE.out.symm, below_drewN' (Hext.out.alloc Hext.out.size _) _⟩
        replace ca : isT a = true := by simpa using ca
        by_cases cf : f < 0
        · have df : decide (0 ≤ f) = false := by simpa using cf
          have HE : Hid (chkE l = 2) := chkE_f (fun h => by obtain ⟨p1, p2, p3, p4⟩ := h.2.2.2 k (by have := Hlen.out; omega) a f Hx.out; omega)
          go_wp2
          go_quiet ((go_at_call 39; exact quietL (clkIsV ca _)))
          go_wp2
          (try rw [Exit.noGoto_ret])
          go_ret
          exact ⟨ret_i HE.out.symm, below_drewN' (Hext.out.alloc Hext.out.size _) _⟩
        replace cf : 0 ≤ f := by omega
        by_cases cg : 10000 < f
        · have dg : decide (f ≤ 10000) = false := by simpa using cg
          have HE : Hid (chkE l = 2) := chkE_f (fun h => by obtain ⟨p1, p2, p3, p4⟩ := h.2.2.2 k (by have := Hlen.out; omega) a f Hx.out; omega)
          go_wp2
          go_quiet ((go_at_call 39; exact quietL (clkIsV ca _)))
          go_wp2
          (try rw [Exit.noGoto_ret])
          go_ret
          exact ⟨ret_i HE.out.symm, below_drewN' (Hext.out.alloc Hext.out.size _) _⟩
        replace cg : f ≤ 10000 := by omega
        have HT := (isT_iff a).1 ca
        replace HT := Lib.hid HT
        by_cases ck : k = 0
        · subst ck
          simp only [Nat.zero_mul, Nat.add_zero] at hd0 hd1
          have HN : Hid (∀ i, i < 0 + 1 → okAt l i) := fun i hi a' f' hx' => by
            obtain rfl : i = 0 := by omega
            have := Hx.out.symm.trans hx'; injection this with this; injection this with e1 e2; subst e1; subst e2
            exact ⟨HT.out, cf, cg, .inl rfl⟩
          go_wp2
          go_quiet ((go_at_call 39; exact quietL (clkIsV ca _)))
          go_wp2
          go_roundw
          case rel => exact ⟨0 + 1, by omega, by go_num, rfl, HN, below_drewN' (Hext.out.alloc Hext.out.size _) _⟩
          case measure => simp [intOf]; omega
        obtain ⟨m, rfl⟩ : ∃ m, k = m + 1 := ⟨k - 1, by omega⟩
        obtain ⟨b', off', a', f', hA, _, hx', he0, he1⟩ := RdP.cut HR.out (k := m) (by omega)
        injection hA with hA; injection hA with hA1 hA2 _; subst hA1; subst hA2
        replace he0 := Hext.out.cell' he0
        replace he1 := Hext.out.cell' he1
        have Hx' := Lib.hid hx'; clear hx'
        have hk0 : (((m : Int) + 1) == 0) = false := by rw [beq_eq_false_iff_ne]; omega
        by_cases cl : a ≤ a'
        · have dl : decide (a' < a) = false := by simpa using cl
          have HE : Hid (chkE l = 2) := chkE_f (fun h => by obtain ⟨p1, p2, p3, p4⟩ := h.2.2.2 (m + 1) (by have := Hlen.out; omega) a f Hx.out; rcases p4 with p4 | p4; omega; have := (p4 a' f' Hx'.out).1; omega)
          go_wp2
          go_quiet ((go_at_call 39; exact quietL (clkIsV ca _)))
          go_wp2
          (try rw [Exit.noGoto_ret])
          go_ret
          exact ⟨ret_i HE.out.symm, below_drewN' (Hext.out.alloc Hext.out.size _) _⟩
        replace cl : a' < a := by omega
        by_cases ce : f = f'
        · have de : (f != f') = false := by simpa using ce
          replace ce := Lib.hid ce
          have HE : Hid (chkE l = 2) := chkE_f (fun h => by obtain ⟨p1, p2, p3, p4⟩ := h.2.2.2 (m + 1) (by have := Hlen.out; omega) a f Hx.out; rcases p4 with p4 | p4; omega; exact (p4 a' f' Hx'.out).2 ce.out)
          clear ce
          go_wp2
          go_quiet ((go_at_call 39; exact quietL (clkIsV ca _)))
          go_wp2
          (try rw [Exit.noGoto_ret])
          go_ret
          exact ⟨ret_i HE.out.symm, below_drewN' (Hext.out.alloc Hext.out.size _) _⟩
        have de : (f != f') = true := by simpa using ce
        replace ce := Lib.hid ce
        have HN : Hid (∀ i, i < m + 1 + 1 → okAt l i) := fun i hi => by
          by_cases hi' : i < m + 1
          · exact Hok.out i hi'
          · obtain rfl : i = m + 1 := by omega
            intro x y hx
            have := Hx.out.symm.trans hx; injection this with this; injection this with e1 e2; subst e1; subst e2
            refine ⟨HT.out, cf, cg, .inr fun x y hy => ?_⟩
            have := Hx'.out.symm.trans hy; injection this with this; injection this with e1 e2; subst e1; subst e2
            exact ⟨cl, ce.out⟩
        clear ce
        go_wp2
        go_quiet ((go_at_call 39; exact quietL (clkIsV ca _)))
        go_wp2
        go_roundw
        case rel => exact ⟨m + 1 + 1, by omega, by go_num, rfl, HN, below_drewN' (Hext.out.alloc Hext.out.size _) _⟩
        case measure => simp [intOf]; omega
      · have HE : Hid (chkE l = 0) := chkE_t ⟨by have := Hlen.out; omega, by have := Hlen.out; omega, by rw [Hx0.out]; rintro _ _ ⟨⟩; rfl, fun i hi => Hok.out i (by have := Hlen.out; omega)⟩
        go_wp2
        (try rw [Exit.noGoto_ret])
        go_ret
        exact ⟨ret_i HE.out.symm, hext⟩
  · have HE : Hid (chkE l = 2) := chkE_f (fun h => h2 (h.2.2.1 _ _ Hx0.out))
    have hne : (a0 != 0) = true := by simpa using h2
    go_enter Try.func38, Try.ntmps38
    go_wp2; go_step3; go_wp2
    (try rw [Exit.noGoto_ret])
    go_ret
    exact ⟨ret_i HE.out.symm, Ext.rfl'⟩
end Go.Proofs.Ytbcpjdjlgmhohaa

/-
  Walk: the document's Check of a profile. Conditions: none.
-/
namespace Go.Proofs.Ytbcpjdjlgmhohaa
open Go.RowKit

set_option maxHeartbeats 1000000 in
theorem refCheck (A : Option Addr) (n c : Nat) (l : List Stp) (w : World) (hr : RdP w A n l) (hn : n ≤ 9223372036854775807) :
    Calls Try.prog 43 #[.slice A n c] w fun e w' => e = .returned (.int .i64 (chkE l)) ∧ Ext w w' := by
  have HR := Lib.hid hr; clear hr
  have hlen := RdL.len HR.out
  have Hlen := Lib.hid hlen; clear hlen
  by_cases h0 : n < 1
  · have HE : Hid (chkE l = 2) := chkE_f (fun h => by have := h.1; have := Hlen.out; omega)
    go_enter Try.func43, Try.ntmps43
    go_wp2
    go_ret
    exact ⟨ret_i HE.out.symm, Ext.rfl'⟩
  by_cases h1 : 20000 < n
  · have HE : Hid (chkE l = 2) := chkE_f (fun h => by have := h.2.1; have := Hlen.out; omega)
    go_enter Try.func43, Try.ntmps43
    go_wp2
    go_ret
    exact ⟨ret_i HE.out.symm, Ext.rfl'⟩
  go_enter Try.func43, Try.ntmps43
  go_wp2
  go_loopw [3] (fun i wr => ∃ k : Nat, k ≤ n ∧ i = .int .i64 k ∧ Hid ((∀ i, i < k → okAt l i) ∧ (0 < k → ∀ a f, l[0]? = some (a, f) → a = 0)) ∧ Ext w wr) (fun i _ => n - (intOf i).toNat)
  case atStart => exact ⟨0, by omega, rfl, ⟨fun i hi => absurd hi (by omega), fun hi => absurd hi (by omega)⟩, Ext.rfl'⟩
  case round =>
    obtain ⟨k, hk, rfl, Hok, hext⟩ := hrel
    by_cases hlt : k < n
    · obtain ⟨b, off, a, f, rfl, hb, hx, hd0, hd1⟩ := RdP.cut HR.out hlt
      replace hd0 := hext.cell' hd0
      replace hd1 := hext.cell' hd1
      have Hx := Lib.hid hx; clear hx h1
      have Hext := Lib.hid hext; clear hext hb
      by_cases ca : isT a = false
      · skip
        have HE : Hid (chkE l = 2) := chkE_f (fun h => by obtain ⟨p1, p2, p3, p4⟩ := h.2.2.2 (k) (by have := Hlen.out; omega) a f Hx.out; rw [isT_f] at ca; omega)
        go_wp2_with (go_at_call 44; refine (refIsV ca _).mono ?_; rintro e w' ⟨rfl, rfl⟩)
        go_ret
        exact ⟨ret_i HE.out.symm, Hext.out⟩
      replace ca : isT a = true := by simpa using ca
      by_cases cf : f < 0
      · skip
        have HE : Hid (chkE l = 2) := chkE_f (fun h => by obtain ⟨p1, p2, p3, p4⟩ := h.2.2.2 (k) (by have := Hlen.out; omega) a f Hx.out; omega)
        go_wp2_with (go_at_call 44; refine (refIsV ca _).mono ?_; rintro e w' ⟨rfl, rfl⟩)
        go_ret
        exact ⟨ret_i HE.out.symm, Hext.out⟩
      replace cf : 0 ≤ f := by omega
      by_cases cg : 10000 < f
      · skip
        have HE : Hid (chkE l = 2) := chkE_f (fun h => by obtain ⟨p1, p2, p3, p4⟩ := h.2.2.2 (k) (by have := Hlen.out; omega) a f Hx.out; omega)
        go_wp2_with (go_at_call 44; refine (refIsV ca _).mono ?_; rintro e w' ⟨rfl, rfl⟩)
        go_ret
        exact ⟨ret_i HE.out.symm, Hext.out⟩
      replace cg : f ≤ 10000 := by omega
      have HT := (isT_iff a).1 ca
      replace HT := Lib.hid HT
      by_cases ck : k = 0
      · subst ck
        simp only [Nat.zero_mul, Nat.add_zero] at hd0 hd1
        by_cases cz : 0 < a
        · have HE : Hid (chkE l = 2) := chkE_f (fun h => by have := h.2.2.1 a f Hx.out; omega)
          go_wp2_with (go_at_call 44; refine (refIsV ca _).mono ?_; rintro e w' ⟨rfl, rfl⟩)
          go_quiet (fail)
          go_wp2
          go_ret
          exact ⟨ret_i HE.out.symm, below_drewN' Hext.out _⟩
        have HN : Hid ((∀ i, i < 0 + 1 → okAt l i) ∧ (0 < 0 + 1 → ∀ a f, l[0]? = some (a, f) → a = 0)) := by
          have hz : a = 0 := by have := HT.out; omega
          refine ⟨fun i hi a' f' hx' => ?_, fun _ a' f' hx' => ?_⟩
          · obtain rfl : i = 0 := by omega
            have := Hx.out.symm.trans hx'; injection this with this; injection this with e1 e2; subst e1; subst e2
            exact ⟨HT.out, cf, cg, .inl rfl⟩
          · have := Hx.out.symm.trans hx'; injection this with this; injection this with e1 e2; subst e1; exact hz
        have dz : decide (0 < a) = false := by simpa using cz
        go_wp2_with (go_at_call 44; refine (refIsV ca _).mono ?_; rintro e w' ⟨rfl, rfl⟩)
        go_quiet (fail)
        go_wp2
        go_roundw
        case rel => exact ⟨0 + 1, by omega, by go_num, HN, below_drewN' Hext.out _⟩
        case measure => simp [intOf]; omega
      obtain ⟨m, rfl⟩ : ∃ m, k = m + 1 := ⟨k - 1, by omega⟩
      obtain ⟨b', off', a', f', hA, _, hx', he0, he1⟩ := RdP.cut HR.out (k := m) (by omega)
      injection hA with hA; injection hA with hA1 hA2 _; subst hA1; subst hA2
      replace he0 := Hext.out.cell' he0
      replace he1 := Hext.out.cell' he1
      have Hx' := Lib.hid hx'; clear hx'
      have hk0 : (((m : Int) + 1) == 0) = false := by rw [beq_eq_false_iff_ne]; omega
      by_cases cl : a ≤ a'
      · skip
        have HE : Hid (chkE l = 2) := chkE_f (fun h => by obtain ⟨p1, p2, p3, p4⟩ := h.2.2.2 (m + 1) (by have := Hlen.out; omega) a f Hx.out; rcases p4 with p4 | p4; omega; have := (p4 a' f' Hx'.out).1; omega)
        go_wp2_with (go_at_call 44; refine (refIsV ca _).mono ?_; rintro e w' ⟨rfl, rfl⟩)
        go_quiet (fail)
        go_wp2
        go_ret
        exact ⟨ret_i HE.out.symm, below_drewN' Hext.out _⟩
      have dl : decide (a ≤ a') = false := by simpa using cl
      replace cl : a' < a := by omega
      by_cases ce : f = f'
      · have de : (f == f') = true := by simpa using ce
        replace ce := Lib.hid ce
        have HE : Hid (chkE l = 2) := chkE_f (fun h => by obtain ⟨p1, p2, p3, p4⟩ := h.2.2.2 (m + 1) (by have := Hlen.out; omega) a f Hx.out; rcases p4 with p4 | p4; omega; exact (p4 a' f' Hx'.out).2 ce.out)
        clear ce
        go_wp2_with (go_at_call 44; refine (refIsV ca _).mono ?_; rintro e w' ⟨rfl, rfl⟩)
        go_quiet (fail)
        go_wp2
        go_ret
        exact ⟨ret_i HE.out.symm, below_drewN' Hext.out _⟩
      have de : (f == f') = false := by simpa using ce
      replace ce := Lib.hid ce
      have HN : Hid ((∀ i, i < m + 1 + 1 → okAt l i) ∧ (0 < m + 1 + 1 → ∀ a f, l[0]? = some (a, f) → a = 0)) := by
        refine ⟨fun i hi => ?_, fun _ => Hok.out.2 (by omega)⟩
        by_cases hi' : i < m + 1
        · exact Hok.out.1 i hi'
        · obtain rfl : i = m + 1 := by omega
          intro x y hx
          have := Hx.out.symm.trans hx; injection this with this; injection this with e1 e2; subst e1; subst e2
          refine ⟨HT.out, cf, cg, .inr fun x y hy => ?_⟩
          have := Hx'.out.symm.trans hy; injection this with this; injection this with e1 e2; subst e1; subst e2
          exact ⟨cl, ce.out⟩
      clear ce
      go_wp2_with (go_at_call 44; refine (refIsV ca _).mono ?_; rintro e w' ⟨rfl, rfl⟩)
      go_quiet (fail)
      go_wp2
      go_roundw
      case rel => exact ⟨m + 1 + 1, by omega, by go_num, HN, below_drewN' Hext.out _⟩
      case measure => simp [intOf]; omega
    · have HE : Hid (chkE l = 0) := chkE_t ⟨by have := Hlen.out; omega, by have := Hlen.out; omega, Hok.out.2 (by omega), fun i hi => Hok.out.1 i (by have := Hlen.out; omega)⟩
      go_wp2
      go_ret
      exact ⟨ret_i HE.out.symm, hext⟩
end Go.Proofs.Ytbcpjdjlgmhohaa

/-
  Walk: are two rows of steps the same, by the document. Conditions: none.
-/
namespace Go.Proofs.Ytbcpjdjlgmhohaa
open Go.RowKit
set_option linter.unusedVariables false
set_option linter.unusedSimpArgs false

def sameL (l l' : List Stp) : Bool := decide (l = l')
theorem sameL_t {l l' : List Stp} (h : l = l') : sameL l l' = true := by simp [sameL, h]
theorem sameL_f {l l' : List Stp} (h : ¬ l = l') : sameL l l' = false := by simp [sameL, h]

set_option maxHeartbeats 1000000 in
theorem refSame9 (A B : Option Addr) (n c m d : Nat) (l l' : List Stp) (w : World) (hr : RdP w A n l) (hr' : RdP w B m l') (hn : n ≤ 9223372036854775807) (hm : m ≤ 9223372036854775807) :
    Calls Try.prog 24 #[.slice A n c, .slice B m d] w fun e w' => e = .returned (.bool (sameL l l')) ∧ Ext w w' := by
  have HR := Lib.hid hr; clear hr
  have HR' := Lib.hid hr'; clear hr'
  by_cases hnm : n = m
  case neg =>
    have hne : ((n : Int) != (m : Int)) = true := by rw [bne_iff_ne]; omega
    have HE : Hid (sameL l l' = false) := sameL_f (fun h => hnm (by rw [← RdL.len HR.out, ← RdL.len HR'.out, h]))
    go_enter Try.func24, Try.ntmps24
    go_wp2
    go_ret
    exact ⟨ret_b HE.out.symm, Ext.rfl'⟩
  subst hnm
  go_enter Try.func24, Try.ntmps24
  go_wp2
  go_loopw [5] (fun i wr => ∃ k : Nat, k ≤ n ∧ i = .int .i64 k ∧ Hid (l.take k = l'.take k) ∧ Ext w wr) (fun i _ => n - (intOf i).toNat)
  case atStart => exact ⟨0, by omega, rfl, rfl, Ext.rfl'⟩
  case round =>
    obtain ⟨k, hk, rfl, Hs, hext⟩ := hrel
    by_cases hlt : k < n
    · obtain ⟨b, off, x, y, rfl, hb, hx, hd0, hd1⟩ := RdP.cut HR.out hlt
      obtain ⟨b', off', x', y', rfl, hb', hx', he0, he1⟩ := RdP.cut HR'.out hlt
      replace hd0 := hext.cell' hd0
      replace hd1 := hext.cell' hd1
      replace he0 := hext.cell' he0
      replace he1 := hext.cell' he1
      have Hx := Lib.hid hx
      have Hx' := Lib.hid hx'
      have Hext := Lib.hid hext
      have hi0' : (0 : Int) ≤ (k : Int) := Int.natCast_nonneg _
      have hi1 : (k : Int) < (n : Int) := by omega
      clear hx hx' hext
      by_cases e1 : x = x'
      · by_cases e2 : y = y'
        · subst e1
          subst e2
          have HN : Hid (l.take (k + 1) = l'.take (k + 1)) := by
            show _ = _
            rw [take_snoc' Hx.out, take_snoc' Hx'.out, Hs.out]
          go_wp2
          go_quiet (fail)
          go_wp2
          go_roundw
          case rel => exact ⟨k + 1, by omega, by go_num, HN, below_drewN' Hext.out _⟩
          case measure => simp [intOf]; omega
        · have HE : Hid (sameL l l' = false) := sameL_f (fun h => by
            have h1 := Hx.out; have h2 := Hx'.out; rw [h] at h1; rw [h1] at h2; injection h2 with h2; injection h2 with _ h2; exact e2 h2)
          have d1 : (x == x') = true := by simpa using e1
          have d2 : (y == y') = false := by simpa using e2
          replace e1 := Lib.hid e1
          go_wp2
          go_quiet (fail)
          go_wp2
          go_ret
          exact ⟨ret_b HE.out.symm, below_drewN' Hext.out _⟩
      · have HE : Hid (sameL l l' = false) := sameL_f (fun h => by
          have h1 := Hx.out; have h2 := Hx'.out; rw [h] at h1; rw [h1] at h2; injection h2 with h2; injection h2 with h2 _; exact e1 h2)
        have d1 : (x == x') = false := by simpa using e1
        go_wp2
        go_quiet (fail)
        go_wp2
        go_ret
        exact ⟨ret_b HE.out.symm, below_drewN' Hext.out _⟩
    · have HE : Hid (sameL l l' = true) := sameL_t (by rw [← take_all' (RdL.len HR.out) (show n ≤ k by omega), Hs.out, take_all' (RdL.len HR'.out) (by omega)])
      go_wp2
      go_ret
      exact ⟨ret_b HE.out.symm, hext⟩
end Go.Proofs.Ytbcpjdjlgmhohaa

