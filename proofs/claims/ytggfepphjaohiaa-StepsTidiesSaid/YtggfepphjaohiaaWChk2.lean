/-
  Walks: both Checks of a profile. Conditions: none.
-/
import Derived.Test.YtggfepphjaohiaaWChk
namespace Go.Proofs.Ytggfepphjaohiaa
open Go.RowKit

set_option maxHeartbeats 1000000 in
theorem stepsCheck (A : Option Addr) (n c : Nat) (l : List Stp) (w : World) (hr : RdP w A n l) (hn : n ≤ 9223372036854775807) :
    Calls Try.prog 15 #[.slice A n c] w fun e w' => e = .returned (.int .i64 (chkE l)) ∧ Ext w w' := by
  have HR := Lib.hid hr; clear hr
  have hlen := RdL.len HR.out
  have Hlen := Lib.hid hlen; clear hlen
  by_cases h0 : n = 0
  · have HE : Hid (chkE l = 2) := chkE_f (fun h => by have := h.1; have := Hlen.out; omega)
    subst h0
    go_enter Try.func15, Try.ntmps15
    go_wp2; go_step3; go_wp2
    (try rw [Exit.noGoto_ret])
    go_ret
    exact ⟨ret_i HE.out.symm, Ext.rfl'⟩
  have hz : ((n : Int) == 0) = false := by rw [beq_eq_false_iff_ne]; omega
  by_cases h1 : 20000 < n
  · have HE : Hid (chkE l = 2) := chkE_f (fun h => by have := h.2.1; have := Hlen.out; omega)
    go_enter Try.func15, Try.ntmps15
    go_wp2; go_step3; go_wp2
    (try rw [Exit.noGoto_ret])
    go_ret
    exact ⟨ret_i HE.out.symm, Ext.rfl'⟩
  obtain ⟨b, off, a0, f0, rfl, hb, hx0, hc0, _⟩ := RdP.cut HR.out (k := 0) (by omega)
  have Hx0 := Lib.hid hx0; clear hx0
  simp only [Nat.zero_mul, Nat.add_zero] at hc0
  by_cases h2 : a0 = 0
  · subst h2
    go_enter Try.func15, Try.ntmps15
    go_wp2; go_step3; go_wp2; go_step3; go_wp2
    go_loopw [3, 23] (fun o i wr => ∃ k : Nat, k ≤ n ∧ i = .int .i64 k ∧ o = .bool true ∧ Hid (∀ i, i < k → okAt l i) ∧ Ext w wr) (fun _ i _ => n - (intOf i).toNat)
    case atStart => exact ⟨0, by omega, rfl, rfl, fun i hi => absurd hi (by omega), Ext.rfl'⟩
    case round =>
      obtain ⟨k, hk, rfl, rfl, Hok, hext⟩ := hrel
      by_cases hlt : k < n
      · obtain ⟨b', off', a, f, hA, hbk, hx, hd0, hd1⟩ := RdP.cut HR.out hlt
        injection hA with hA; injection hA with hA1 hA2 _; subst hA1; subst hA2
        replace hd0 := hext.cell' hd0
        replace hd1 := hext.cell' hd1
        have Hx := Lib.hid hx; clear hx hc0 hz h1
        have hbw : b < wr.heap.size := by have := hext.size; omega
        have Hext := Lib.hid hext; clear hext hb hbk
        by_cases ca : isT a = false
        · skip
          have HE : Hid (chkE l = 2) := chkE_f (fun h => by obtain ⟨p1, p2, p3, p4⟩ := h.2.2.2 k (by have := Hlen.out; omega) a f Hx.out; rw [isT_f] at ca; omega)
          go_wp2
          go_quiet ((go_at_call 30; exact quietL (clkIsV ca _)))
          go_wp2
          (try rw [Exit.noGoto_ret])
          go_ret
          exact ⟨ret_i HE.out.symm, below_drewN' (Hext.out.alloc Hext.out.size _) _⟩
        replace ca : isT a = true := by simpa using ca
        by_cases cf : f < 0
        · have df : decide (0 ≤ f) = false := by simpa using cf
          have HE : Hid (chkE l = 2) := chkE_f (fun h => by obtain ⟨p1, p2, p3, p4⟩ := h.2.2.2 k (by have := Hlen.out; omega) a f Hx.out; omega)
          go_wp2
          go_quiet ((go_at_call 30; exact quietL (clkIsV ca _)))
          go_wp2
          (try rw [Exit.noGoto_ret])
          go_ret
          exact ⟨ret_i HE.out.symm, below_drewN' (Hext.out.alloc Hext.out.size _) _⟩
        replace cf : 0 ≤ f := by omega
        by_cases cg : 10000 < f
        · have dg : decide (f ≤ 10000) = false := by simpa using cg
          have HE : Hid (chkE l = 2) := chkE_f (fun h => by obtain ⟨p1, p2, p3, p4⟩ := h.2.2.2 k (by have := Hlen.out; omega) a f Hx.out; omega)
          go_wp2
          go_quiet ((go_at_call 30; exact quietL (clkIsV ca _)))
          go_wp2
          (try rw [Exit.noGoto_ret])
          go_ret
          exact ⟨ret_i HE.out.symm, below_drewN' (Hext.out.alloc Hext.out.size _) _⟩
        replace cg : f ≤ 10000 := by omega
        have HT := (isT_iff a).1 ca
        replace HT := Lib.hid HT
        by_cases ck : k = 0
        · subst ck
          simp only [Nat.zero_mul, Nat.add_zero] at hd0 hd1
          have HN : Hid (∀ i, i < 0 + 1 → okAt l i) := fun i hi a' f' hx' => by
            obtain rfl : i = 0 := by omega
            have := Hx.out.symm.trans hx'; injection this with this; injection this with e1 e2; subst e1; subst e2
            exact ⟨HT.out, cf, cg, .inl rfl⟩
          go_wp2
          go_quiet ((go_at_call 30; exact quietL (clkIsV ca _)))
          go_wp2
          go_roundw
          case rel => exact ⟨0 + 1, by omega, by go_num, rfl, HN, below_drewN' (Hext.out.alloc Hext.out.size _) _⟩
          case measure => simp [intOf]; omega
        obtain ⟨m, rfl⟩ : ∃ m, k = m + 1 := ⟨k - 1, by omega⟩
        obtain ⟨b', off', a', f', hA, _, hx', he0, he1⟩ := RdP.cut HR.out (k := m) (by omega)
        injection hA with hA; injection hA with hA1 hA2 _; subst hA1; subst hA2
        replace he0 := Hext.out.cell' he0
        replace he1 := Hext.out.cell' he1
        have Hx' := Lib.hid hx'; clear hx'
        have hk0 : (((m : Int) + 1) == 0) = false := by rw [beq_eq_false_iff_ne]; omega
        by_cases cl : a ≤ a'
        · have dl : decide (a' < a) = false := by simpa using cl
          have HE : Hid (chkE l = 2) := chkE_f (fun h => by obtain ⟨p1, p2, p3, p4⟩ := h.2.2.2 (m + 1) (by have := Hlen.out; omega) a f Hx.out; rcases p4 with p4 | p4; omega; have := (p4 a' f' Hx'.out).1; omega)
          go_wp2
          go_quiet ((go_at_call 30; exact quietL (clkIsV ca _)))
          go_wp2
          (try rw [Exit.noGoto_ret])
          go_ret
          exact ⟨ret_i HE.out.symm, below_drewN' (Hext.out.alloc Hext.out.size _) _⟩
        replace cl : a' < a := by omega
        by_cases ce : f = f'
        · have de : (f != f') = false := by simpa using ce
          replace ce := Lib.hid ce
          have HE : Hid (chkE l = 2) := chkE_f (fun h => by obtain ⟨p1, p2, p3, p4⟩ := h.2.2.2 (m + 1) (by have := Hlen.out; omega) a f Hx.out; rcases p4 with p4 | p4; omega; exact (p4 a' f' Hx'.out).2 ce.out)
          clear ce
          go_wp2
          go_quiet ((go_at_call 30; exact quietL (clkIsV ca _)))
          go_wp2
          (try rw [Exit.noGoto_ret])
          go_ret
          exact ⟨ret_i HE.out.symm, below_drewN' (Hext.out.alloc Hext.out.size _) _⟩
        have de : (f != f') = true := by simpa using ce
        replace ce := Lib.hid ce
        have HN : Hid (∀ i, i < m + 1 + 1 → okAt l i) := fun i hi => by
          by_cases hi' : i < m + 1
          · exact Hok.out i hi'
          · obtain rfl : i = m + 1 := by omega
            intro x y hx
            have := Hx.out.symm.trans hx; injection this with this; injection this with e1 e2; subst e1; subst e2
            refine ⟨HT.out, cf, cg, .inr fun x y hy => ?_⟩
            have := Hx'.out.symm.trans hy; injection this with this; injection this with e1 e2; subst e1; subst e2
            exact ⟨cl, ce.out⟩
        clear ce
        go_wp2
        go_quiet ((go_at_call 30; exact quietL (clkIsV ca _)))
        go_wp2
        go_roundw
        case rel => exact ⟨m + 1 + 1, by omega, by go_num, rfl, HN, below_drewN' (Hext.out.alloc Hext.out.size _) _⟩
        case measure => simp [intOf]; omega
      · have HE : Hid (chkE l = 0) := chkE_t ⟨by have := Hlen.out; omega, by have := Hlen.out; omega, by rw [Hx0.out]; rintro _ _ ⟨⟩; rfl, fun i hi => Hok.out i (by have := Hlen.out; omega)⟩
        go_wp2
        (try rw [Exit.noGoto_ret])
        go_ret
        exact ⟨ret_i HE.out.symm, hext⟩
  · have HE : Hid (chkE l = 2) := chkE_f (fun h => h2 (h.2.2.1 _ _ Hx0.out))
    have hne : (a0 != 0) = true := by simpa using h2
    go_enter Try.func15, Try.ntmps15
    go_wp2; go_step3; go_wp2
    (try rw [Exit.noGoto_ret])
    go_ret
    exact ⟨ret_i HE.out.symm, Ext.rfl'⟩
end Go.Proofs.Ytggfepphjaohiaa
