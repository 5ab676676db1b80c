/-
  Walk: the document's Check of a profile. Conditions: none.
-/
import Derived.Test.YtggfepphjaohiaaWChk
namespace Go.Proofs.Ytggfepphjaohiaa
open Go.RowKit

set_option maxHeartbeats 1000000 in
theorem refCheck (A : Option Addr) (n c : Nat) (l : List Stp) (w : World) (hr : RdP w A n l) (hn : n ≤ 9223372036854775807) :
    Calls Try.prog 16 #[.slice A n c] w fun e w' => e = .returned (.int .i64 (chkE l)) ∧ Ext w w' := by
  have HR := Lib.hid hr; clear hr
  have hlen := RdL.len HR.out
  have Hlen := Lib.hid hlen; clear hlen
  by_cases h0 : n < 1
  · have HE : Hid (chkE l = 2) := chkE_f (fun h => by have := h.1; have := Hlen.out; omega)
    go_enter Try.func16, Try.ntmps16
    go_wp2
    go_ret
    exact ⟨ret_i HE.out.symm, Ext.rfl'⟩
  by_cases h1 : 20000 < n
  · have HE : Hid (chkE l = 2) := chkE_f (fun h => by have := h.2.1; have := Hlen.out; omega)
    go_enter Try.func16, Try.ntmps16
    go_wp2
    go_ret
    exact ⟨ret_i HE.out.symm, Ext.rfl'⟩
  go_enter Try.func16, Try.ntmps16
  go_wp2
  go_loopw [3] (fun i wr => ∃ k : Nat, k ≤ n ∧ i = .int .i64 k ∧ Hid ((∀ i, i < k → okAt l i) ∧ (0 < k → ∀ a f, l[0]? = some (a, f) → a = 0)) ∧ Ext w wr) (fun i _ => n - (intOf i).toNat)
  case atStart => exact ⟨0, by omega, rfl, ⟨fun i hi => absurd hi (by omega), fun hi => absurd hi (by omega)⟩, Ext.rfl'⟩
  case round =>
    obtain ⟨k, hk, rfl, Hok, hext⟩ := hrel
    by_cases hlt : k < n
    · obtain ⟨b, off, a, f, rfl, hb, hx, hd0, hd1⟩ := RdP.cut HR.out hlt
      replace hd0 := hext.cell' hd0
      replace hd1 := hext.cell' hd1
      have Hx := Lib.hid hx; clear hx h1
      have Hext := Lib.hid hext; clear hext hb
      by_cases ca : isT a = false
      · skip
        have HE : Hid (chkE l = 2) := chkE_f (fun h => by obtain ⟨p1, p2, p3, p4⟩ := h.2.2.2 (k) (by have := Hlen.out; omega) a f Hx.out; rw [isT_f] at ca; omega)
        go_wp2_with (go_at_call 34; refine (refIsV ca _).mono ?_; rintro e w' ⟨rfl, rfl⟩)
        go_ret
        exact ⟨ret_i HE.out.symm, Hext.out⟩
      replace ca : isT a = true := by simpa using ca
      by_cases cf : f < 0
      · skip
        have HE : Hid (chkE l = 2) := chkE_f (fun h => by obtain ⟨p1, p2, p3, p4⟩ := h.2.2.2 (k) (by have := Hlen.out; omega) a f Hx.out; omega)
        go_wp2_with (go_at_call 34; refine (refIsV ca _).mono ?_; rintro e w' ⟨rfl, rfl⟩)
        go_ret
        exact ⟨ret_i HE.out.symm, Hext.out⟩
      replace cf : 0 ≤ f := by omega
      by_cases cg : 10000 < f
      · skip
        have HE : Hid (chkE l = 2) := chkE_f (fun h => by obtain ⟨p1, p2, p3, p4⟩ := h.2.2.2 (k) (by have := Hlen.out; omega) a f Hx.out; omega)
        go_wp2_with (go_at_call 34; refine (refIsV ca _).mono ?_; rintro e w' ⟨rfl, rfl⟩)
        go_ret
        exact ⟨ret_i HE.out.symm, Hext.out⟩
      replace cg : f ≤ 10000 := by omega
      have HT := (isT_iff a).1 ca
      replace HT := Lib.hid HT
      by_cases ck : k = 0
      · subst ck
        simp only [Nat.zero_mul, Nat.add_zero] at hd0 hd1
        by_cases cz : 0 < a
        · have HE : Hid (chkE l = 2) := chkE_f (fun h => by have := h.2.2.1 a f Hx.out; omega)
          go_wp2_with (go_at_call 34; refine (refIsV ca _).mono ?_; rintro e w' ⟨rfl, rfl⟩)
          go_quiet (fail)
          go_wp2
          go_ret
          exact ⟨ret_i HE.out.symm, below_drewN' Hext.out _⟩
        have HN : Hid ((∀ i, i < 0 + 1 → okAt l i) ∧ (0 < 0 + 1 → ∀ a f, l[0]? = some (a, f) → a = 0)) := by
          have hz : a = 0 := by have := HT.out; omega
          refine ⟨fun i hi a' f' hx' => ?_, fun _ a' f' hx' => ?_⟩
          · obtain rfl : i = 0 := by omega
            have := Hx.out.symm.trans hx'; injection this with this; injection this with e1 e2; subst e1; subst e2
            exact ⟨HT.out, cf, cg, .inl rfl⟩
          · have := Hx.out.symm.trans hx'; injection this with this; injection this with e1 e2; subst e1; exact hz
        have dz : decide (0 < a) = false := by simpa using cz
        go_wp2_with (go_at_call 34; refine (refIsV ca _).mono ?_; rintro e w' ⟨rfl, rfl⟩)
        go_quiet (fail)
        go_wp2
        go_roundw
        case rel => exact ⟨0 + 1, by omega, by go_num, HN, below_drewN' Hext.out _⟩
        case measure => simp [intOf]; omega
      obtain ⟨m, rfl⟩ : ∃ m, k = m + 1 := ⟨k - 1, by omega⟩
      obtain ⟨b', off', a', f', hA, _, hx', he0, he1⟩ := RdP.cut HR.out (k := m) (by omega)
      injection hA with hA; injection hA with hA1 hA2 _; subst hA1; subst hA2
      replace he0 := Hext.out.cell' he0
      replace he1 := Hext.out.cell' he1
      have Hx' := Lib.hid hx'; clear hx'
      have hk0 : (((m : Int) + 1) == 0) = false := by rw [beq_eq_false_iff_ne]; omega
      by_cases cl : a ≤ a'
      · skip
        have HE : Hid (chkE l = 2) := chkE_f (fun h => by obtain ⟨p1, p2, p3, p4⟩ := h.2.2.2 (m + 1) (by have := Hlen.out; omega) a f Hx.out; rcases p4 with p4 | p4; omega; have := (p4 a' f' Hx'.out).1; omega)
        go_wp2_with (go_at_call 34; refine (refIsV ca _).mono ?_; rintro e w' ⟨rfl, rfl⟩)
        go_quiet (fail)
        go_wp2
        go_ret
        exact ⟨ret_i HE.out.symm, below_drewN' Hext.out _⟩
      have dl : decide (a ≤ a') = false := by simpa using cl
      replace cl : a' < a := by omega
      by_cases ce : f = f'
      · have de : (f == f') = true := by simpa using ce
        replace ce := Lib.hid ce
        have HE : Hid (chkE l = 2) := chkE_f (fun h => by obtain ⟨p1, p2, p3, p4⟩ := h.2.2.2 (m + 1) (by have := Hlen.out; omega) a f Hx.out; rcases p4 with p4 | p4; omega; exact (p4 a' f' Hx'.out).2 ce.out)
        clear ce
        go_wp2_with (go_at_call 34; refine (refIsV ca _).mono ?_; rintro e w' ⟨rfl, rfl⟩)
        go_quiet (fail)
        go_wp2
        go_ret
        exact ⟨ret_i HE.out.symm, below_drewN' Hext.out _⟩
      have de : (f == f') = false := by simpa using ce
      replace ce := Lib.hid ce
      have HN : Hid ((∀ i, i < m + 1 + 1 → okAt l i) ∧ (0 < m + 1 + 1 → ∀ a f, l[0]? = some (a, f) → a = 0)) := by
        refine ⟨fun i hi => ?_, fun _ => Hok.out.2 (by omega)⟩
        by_cases hi' : i < m + 1
        · exact Hok.out.1 i hi'
        · obtain rfl : i = m + 1 := by omega
          intro x y hx
          have := Hx.out.symm.trans hx; injection this with this; injection this with e1 e2; subst e1; subst e2
          refine ⟨HT.out, cf, cg, .inr fun x y hy => ?_⟩
          have := Hx'.out.symm.trans hy; injection this with this; injection this with e1 e2; subst e1; subst e2
          exact ⟨cl, ce.out⟩
      clear ce
      go_wp2_with (go_at_call 34; refine (refIsV ca _).mono ?_; rintro e w' ⟨rfl, rfl⟩)
      go_quiet (fail)
      go_wp2
      go_roundw
      case rel => exact ⟨m + 1 + 1, by omega, by go_num, HN, below_drewN' Hext.out _⟩
      case measure => simp [intOf]; omega
    · have HE : Hid (chkE l = 0) := chkE_t ⟨by have := Hlen.out; omega, by have := Hlen.out; omega, Hok.out.2 (by omega), fun i hi => Hok.out.1 i (by have := Hlen.out; omega)⟩
      go_wp2
      go_ret
      exact ⟨ret_i HE.out.symm, hext⟩
end Go.Proofs.Ytggfepphjaohiaa
