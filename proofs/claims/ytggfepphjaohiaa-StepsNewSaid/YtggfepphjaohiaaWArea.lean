/-
  Walks: what is free for a while, all together, by the program and by the document. Conditions: none.
-/
import Derived.Test.YtggfepphjaohiaaPArea
import Derived.Test.YtggfepphjaohiaaWTimes9
import Derived.Test.YtggfepphjaohiaaWLeast
import Derived.Test.YtggfepphjaohiaaWRAdd
namespace Go.Proofs.Ytggfepphjaohiaa
open Go.RowKit
set_option linter.unusedVariables false
set_option linter.unusedSimpArgs false

theorem refFreeV {v : Int} {t : Int} {l : List Stp} (h : freeT l t = v) (A : Option Addr) (n c : Nat) (w : World) (hr : RdP w A n l) (hn : n ≤ 9223372036854775807) :
    Calls Try.prog 36 #[.slice A n c, .int .i64 t] w fun e w' => e = .returned (.int .i64 v) ∧ w = w' := by
  subst h; exact refFree A n c l t w hr hn
theorem prod_small {z d : Int} (h0 : 0 ≤ z) (h1 : z ≤ 10000) (h2 : 0 ≤ d) (h3 : d ≤ 1099511627775) : 0 ≤ z * d ∧ z * d ≤ 10995116277750000 := by
  refine ⟨Int.mul_nonneg h0 h2, ?_⟩
  have := Int.mul_le_mul h1 h3 h2 (by omega)
  omega
def GivesArea (l : List Stp) (f t : Int) (w : World) (e : Ending) (w' : World) : Prop := e = .returned (.tuple #[.int .i64 (areaV l f t), .int .i64 (areaE l f t)]) ∧ Ext w w'

set_option maxHeartbeats 1000000 in
theorem refArea_bad (A : Option Addr) (n c : Nat) (l : List Stp) (f t : Int) (w : World) (hr : RdP w A n l) (hn : n ≤ 19000) (hbad : ¬ AreaArg l f t) :
    Calls Try.prog 25 #[.slice A n c, .int .i64 f, .int .i64 t] w (GivesArea l f t w) := by
  have HR := Lib.hid hr; clear hr
  have HE := Lib.hid (area_bad hbad)
  rcases chkE_cases l with ⟨hp, hc⟩ | ⟨hp, hc⟩
  case inr =>
    have HC := Lib.hid hc; clear hc hbad hp
    go_enter Try.func25, Try.ntmps25
    go_wp2_with (first | (go_at_call 16; refine (refCheck A n c l _ HR.out (by omega)).mono ?_; rintro e w1 ⟨rfl, hx1⟩; have Hx1 := Lib.hid hx1; clear hx1; rw [HC.out]))
    (try rw [Exit.noGoto_ret])
    go_ret2
    exact ⟨by rw [HE.out.1, HE.out.2]; rfl, Hx1.out⟩
  have HC := Lib.hid hc; clear hc
  by_cases cf : isT f = false
  · clear hbad hp
    go_enter Try.func25, Try.ntmps25
    go_wp2_with (first | (go_at_call 16; refine (refCheck A n c l _ HR.out (by omega)).mono ?_; rintro e w1 ⟨rfl, hx1⟩; have Hx1 := Lib.hid hx1; clear hx1; rw [HC.out]) | (go_at_call 34; refine (refIsV ‹_› _).mono ?_; rintro e w' ⟨rfl, rfl⟩))
    (try rw [Exit.noGoto_ret])
    go_ret2
    exact ⟨by rw [HE.out.1, HE.out.2]; rfl, Hx1.out⟩
  replace cf : isT f = true := by simpa using cf
  by_cases ct : isT t = false
  · clear hbad hp
    go_enter Try.func25, Try.ntmps25
    go_wp2_with (first | (go_at_call 16; refine (refCheck A n c l _ HR.out (by omega)).mono ?_; rintro e w1 ⟨rfl, hx1⟩; have Hx1 := Lib.hid hx1; clear hx1; rw [HC.out]) | (go_at_call 34; refine (refIsV ‹_› _).mono ?_; rintro e w' ⟨rfl, rfl⟩))
    (try rw [Exit.noGoto_ret])
    go_ret2
    exact ⟨by rw [HE.out.1, HE.out.2]; rfl, Hx1.out⟩
  replace ct : isT t = true := by simpa using ct
  by_cases hft : t < f
  · clear hbad hp
    go_enter Try.func25, Try.ntmps25
    go_wp2_with (first | (go_at_call 16; refine (refCheck A n c l _ HR.out (by omega)).mono ?_; rintro e w1 ⟨rfl, hx1⟩; have Hx1 := Lib.hid hx1; clear hx1; rw [HC.out]) | (go_at_call 34; refine (refIsV ‹_› _).mono ?_; rintro e w' ⟨rfl, rfl⟩))
    (try rw [Exit.noGoto_ret])
    go_ret2
    exact ⟨by rw [HE.out.1, HE.out.2]; rfl, Hx1.out⟩
  exact absurd ⟨hp, cf, ct, by omega⟩ hbad

set_option maxRecDepth 100000 in
set_option maxHeartbeats 4000000 in
theorem refArea_ok (A : Option Addr) (n c : Nat) (l : List Stp) (f t : Int) (w : World) (hr : RdP w A n l) (hn : n ≤ 19000) (hok : AreaArg l f t) :
    Calls Try.prog 25 #[.slice A n c, .int .i64 f, .int .i64 t] w (GivesArea l f t w) := by
  have HR := Lib.hid hr; clear hr
  have HE := Lib.hid (area_ok hok)
  obtain ⟨hp, cf, ct, hft⟩ := hok
  have HC := Lib.hid (chkE_t hp)
  have HP := Lib.hid hp
  obtain ⟨f0, f1⟩ := (isT_iff f).1 cf
  obtain ⟨t0, t1⟩ := (isT_iff t).1 ct
  clear hp
  go_enter Try.func25, Try.ntmps25
  go_wp2_with (first | (go_at_call 16; refine (refCheck A n c l _ HR.out (by omega)).mono ?_; rintro e w1 ⟨rfl, hx1⟩; have Hx1 := Lib.hid hx1; clear hx1; rw [HC.out]) | (go_at_call 34; refine (refIsV ‹_› _).mono ?_; rintro e w' ⟨rfl, rfl⟩))
  refine (refTimes9 A none n 0 c 0 l [] f t _ (HR.out.ext Hx1.out) (rdP_none _) (by omega) (by omega)).mono ?_
  rintro e w2 ⟨B, d, rfl, hr2, hx2⟩
  obtain ⟨ts, Hts⟩ : ∃ ts, Hid (timesR l [] f t = ts) := ⟨_, rfl⟩
  obtain ⟨N, HN0⟩ : ∃ N, Hid (ts.length = N) := ⟨_, rfl⟩
  rw [Hts.out, HN0.out] at hr2
  rw [Hts.out, HN0.out]
  have hNle : N ≤ 19002 := by
    have h1 := timesR_len l [] f t
    have h2 := RdL.len HR.out
    rw [Hts.out, HN0.out] at h1
    simp at h1; omega
  have hTB : Hid (∀ x ∈ ts, 0 ≤ x ∧ x ≤ 1099511627775) := fun x hx => by
    rw [← Hts.out] at hx
    refine ⟨times_nonneg HP.out f0 t0 x hx, ?_⟩
    rcases (timesR_mem _ _ _ _ _).1 hx with h | h | ⟨u, h⟩ | ⟨u, h⟩
    · omega
    · omega
    · exact (HP.out.bound _ h).1.2
    · simp at h
  have HT := Lib.hid hr2
  have HX2 := Lib.hid (Hx1.out.trans' hx2)
  clear hr2 hx2 Hx1 cf ct
  obtain ⟨w1, HW1⟩ : ∃ w1 : World, w1 = w2 := ⟨_, rfl⟩
  subst HW1
  replace HR := Lib.hid (HR.out.ext HX2.out)
  have hN1 : 0 < N := by
    rw [← HN0.out]
    have : t ∈ ts := by rw [← Hts.out]; exact (timesR_mem _ _ _ _ _).2 (.inr (.inl rfl))
    exact List.length_pos_of_mem this
  go_wp2
  go_loopw [9, 11] (fun v i wr => ∃ (q : Nat) (x : Int), q + 1 ≤ N ∧ i = .int .i64 q ∧ Hid (ts[q]? = some x) ∧ v = .int .i64 (areaF l f (clip f t x)) ∧ Ext w1 wr) (fun _ i _ => N - (intOf i).toNat)
  case atStart =>
    have h0 : ts[0]? = some (ts[0]'(by rw [HN0.out]; exact hN1)) := List.getElem?_eq_getElem _
    exact ⟨0, _, hN1, rfl, h0, by rw [clip_first HP.out f0 hft Hts.out.symm h0, areaF_self], Ext.rfl'⟩
  case round =>
    obtain ⟨q, x, hq, rfl, HXq, rfl, hext⟩ := hrel
    have Hext := Lib.hid hext
    clear hext
    have hxb := hTB.out x (List.mem_of_getElem? HXq.out)
    obtain ⟨x0, x1⟩ := hxb
    obtain ⟨V, HV⟩ : ∃ V, Hid (areaF l f (clip f t x) = V) := ⟨_, rfl⟩
    have hvb : 0 ≤ V ∧ V ≤ 10000 * 1099511627775 := by rw [← HV.out]; exact area_small HP.out f0 (by unfold clip; omega) (by unfold clip; omega)
    obtain ⟨v0, v1⟩ := hvb
    rw [HV.out]
    by_cases hlt : q + 1 < N
    · obtain ⟨bb, off, x', rfl, _, hx', hd0⟩ := RdI.cut HT.out (k := q) (by omega)
      obtain rfl : x' = x := by rw [HXq.out] at hx'; injection hx' with hx'; exact hx'.symm
      obtain ⟨_, _, y, hA, _, hy, he0⟩ := RdI.cut HT.out (k := q + 1) hlt
      injection hA with hA; injection hA with hA1 hA2 _; subst hA1; subst hA2
      replace hd0 := Hext.out.cell' hd0
      replace he0 := Hext.out.cell' he0
      have HY := Lib.hid hy
      have hyb := hTB.out y (List.mem_of_getElem? hy)
      obtain ⟨y0, y1⟩ := hyb
      obtain ⟨s1, s2, hxy⟩ := area_step hft Hts.out.symm HXq.out hy
      have hi0 : (0 : Int) ≤ (q : Int) := Int.natCast_nonneg _
      have hi1 : (q : Int) < (N : Int) := by omega
      have hi2 : (q : Int) + 1 < (N : Int) := by omega
      have hi3 : (0 : Int) ≤ (q : Int) + 1 := by omega
      have hi4 : ((q : Int) + 1).toNat = q + 1 := by omega
      clear hx' hy
      by_cases hc1 : f ≤ x'
      · by_cases hc2 : y ≤ t
        · obtain ⟨z, HZ⟩ : ∃ z, Hid (freeT l x' = z) := ⟨_, rfl⟩
          have hzb : 0 ≤ z ∧ z ≤ 10000 := by have := HP.out.free x'; rwa [HZ.out] at this
          obtain ⟨z0, z1⟩ := hzb
          have HN : Hid (areaF l f (clip f t y) = V + z * (y - x')) := by show _ = _; rw [s1 ⟨hc1, hc2⟩, HV.out, HZ.out]
          have hpr := prod_small z0 z1 (show 0 ≤ y - x' by omega) (by omega)
          have e1 : IntKind.i64.wrap (y - x') = y - x' := IntWalk.i64_in _ (by omega)
          have e2 : IntKind.i64.wrap (z * (y - x')) = z * (y - x') := IntWalk.i64_in _ (by omega)
          have e3 : IntKind.i64.wrap (V + z * (y - x')) = V + z * (y - x') := IntWalk.i64_in _ (by omega)
          have e4 : IntKind.i64.wrap ((q : Int) + 1) = (q : Int) + 1 := IntWalk.i64_in _ (by omega)
          have HRq := Lib.hid (HR.out.ext Hext.out)
          clear s1 s2 hpr
          go_wp2
          go_quiet ((go_at_call 36; exact quietL (refFreeV HZ.out _ _ _ _ (HRq.out.drewN' _) (by omega))))
          clear e1 e2 e3 e4
          go_wp2
          go_roundw
          case rel => exact ⟨q + 1, y, by omega, by go_num, HY, by rw [HN.out], below_drewN' Hext.out _⟩
          case measure => simp [intOf]; omega
        · have HN : Hid (areaF l f (clip f t y) = V) := by show _ = _; rw [s2 (fun h => hc2 h.2), HV.out]
          clear s1 s2
          go_wp2
          go_roundw
          case rel => exact ⟨q + 1, y, by omega, by go_num, HY, by rw [HN.out], Hext.out⟩
          case measure => simp [intOf]; omega
      · have HN : Hid (areaF l f (clip f t y) = V) := by show _ = _; rw [s2 (fun h => hc1 h.1), HV.out]
        clear s1 s2
        go_wp2
        go_roundw
        case rel => exact ⟨q + 1, y, by omega, by go_num, HY, by rw [HN.out], Hext.out⟩
        case measure => simp [intOf]; omega
    · have HF : Hid (V = areaV l f t) := by
        show _ = _
        rw [← HV.out, clip_last hft Hts.out.symm HXq.out (by rw [HN0.out]; omega), HE.out.1]
      have HQN : Hid (q + 1 = N) := by show _ = _; omega
      have hge : decide ((q : Int) + 1 < (N : Int)) = false := by simp; omega
      go_wp2
      (try rw [Exit.noGoto_ret])
      go_ret2
      exact ⟨by rw [← HF.out, HE.out.2]; rfl, HX2.out.trans' Hext.out⟩
theorem refArea (A : Option Addr) (n c : Nat) (l : List Stp) (f t : Int) (w : World) (hr : RdP w A n l) (hn : n ≤ 19000) :
    Calls Try.prog 25 #[.slice A n c, .int .i64 f, .int .i64 t] w (GivesArea l f t w) := by
  by_cases h : AreaArg l f t
  · exact refArea_ok A n c l f t w hr hn h
  · exact refArea_bad A n c l f t w hr hn h

set_option maxHeartbeats 1000000 in
theorem stepsArea_self (A : Option Addr) (n c : Nat) (l : List Stp) (f : Int) (w : World) (hr : RdP w A n l) (hn : n ≤ 19000) (hf : isT f = true) :
    Calls Try.prog 21 #[.slice A n c, .int .i64 f, .int .i64 f] w (GivesArea l f f w) := by
  have HR := Lib.hid hr; clear hr
  have HE : Hid (areaV l f f = 0 ∧ areaE l f f = chkE l) := by
    by_cases h : AreaArg l f f
    · exact ⟨(area_ok h).1.trans (areaF_self l f), (area_ok h).2.trans (chkE_t h.1).symm⟩
    · exact ⟨(area_bad h).1, (area_bad h).2.trans (chkE_f (fun hp => h ⟨hp, hf, hf, Int.le_refl _⟩)).symm⟩
  go_enter Try.func21, Try.ntmps21
  go_wp2_with (first | (go_at_call 30; refine (clkIsV ‹_› _).mono ?_; rintro e w' ⟨rfl, rfl⟩) | (go_at_call 15; refine (stepsCheck A n c l _ HR.out (by omega)).mono ?_; rintro e w1 ⟨rfl, hx1⟩; have Hx1 := Lib.hid hx1; clear hx1))
  (try rw [Exit.noGoto_ret])
  go_ret2
  exact ⟨by rw [HE.out.1, HE.out.2]; rfl, Hx1.out⟩

set_option maxHeartbeats 1000000 in
theorem stepsArea_bad (A : Option Addr) (n c : Nat) (l : List Stp) (f t : Int) (w : World) (hr : RdP w A n l) (hn : n ≤ 19000) (hbad : ¬ AreaArg l f t) (hs : ¬ (f = t ∧ isT f = true)) :
    Calls Try.prog 21 #[.slice A n c, .int .i64 f, .int .i64 t] w (GivesArea l f t w) := by
  have HR := Lib.hid hr; clear hr
  have HE := Lib.hid (area_bad hbad)
  have HWb : Hid (¬ While l f t) := fun h => hbad ⟨h.1, h.2.1, h.2.2.1, Int.le_of_lt h.2.2.2⟩
  clear hbad
  by_cases hft : f = t
  · have hf : isT f = false := by
      cases h : isT f with
      | false => rfl
      | true => exact absurd ⟨hft, h⟩ hs
    subst hft
    clear hs
    go_enter Try.func21, Try.ntmps21
    go_wp2_with (go_at_call 30; refine (clkIsV ‹_› _).mono ?_; rintro e w' ⟨rfl, rfl⟩)
    refine (span_bad A n c l f f _ HR.out (by omega) HWb.out).mono ?_
    rintro e w1 ⟨rfl, hx1⟩
    have Hx1 := Lib.hid hx1; clear hx1
    go_wp2
    refine wp_loop_rounds 1 ?_
    rw [rounds_succ]
    go_wp2
    (try rw [Exit.noGoto_ret])
    go_ret2
    exact ⟨by rw [HE.out.1, HE.out.2]; rfl, Hx1.out⟩
  · have dft : (f == t) = false := by simpa using hft
    clear hs hft
    go_enter Try.func21, Try.ntmps21
    go_wp2_with fail
    refine (span_bad A n c l f t _ HR.out (by omega) HWb.out).mono ?_
    rintro e w1 ⟨rfl, hx1⟩
    have Hx1 := Lib.hid hx1; clear hx1
    go_wp2
    refine wp_loop_rounds 1 ?_
    rw [rounds_succ]
    go_wp2
    (try rw [Exit.noGoto_ret])
    go_ret2
    exact ⟨by rw [HE.out.1, HE.out.2]; rfl, Hx1.out⟩

set_option maxRecDepth 100000 in
set_option maxHeartbeats 4000000 in
theorem stepsArea_ok (A : Option Addr) (n c : Nat) (l : List Stp) (f t : Int) (w : World) (hr : RdP w A n l) (hn : n ≤ 19000) (hok : AreaArg l f t) (hlt : f < t) :
    Calls Try.prog 21 #[.slice A n c, .int .i64 f, .int .i64 t] w (GivesArea l f t w) := by
  have HR := Lib.hid hr; clear hr
  have HE := Lib.hid (area_ok hok)
  have hW : While l f t := ⟨hok.1, hok.2.1, hok.2.2.1, hlt⟩
  have HW0 := Lib.hid hW
  obtain ⟨hp, cf, ct, hft⟩ := hok
  have HP := Lib.hid hp
  obtain ⟨f0, f1⟩ := (isT_iff f).1 cf
  obtain ⟨t0, t1⟩ := (isT_iff t).1 ct
  have dft : (f == t) = false := by simp; omega
  clear hp hW cf ct
  go_enter Try.func21, Try.ntmps21
  go_wp2_with fail
  refine (span_ok A n c l f t _ HR.out HW0.out).mono ?_
  rintro e w1 ⟨k0, j, B, m, d, hH, hC, rfl, hr2, hx1⟩
  have HH := Lib.hid hH
  have HC := Lib.hid hC
  obtain rfl : m = j := by rw [← RdL.len hr2]; exact cutTo_len hC.1
  have hj := cut_pos hH hC hlt
  have hjn : k0 + m ≤ n := by have := hC.1; have := RdL.len HR.out; omega
  obtain ⟨CC, HCC⟩ : ∃ CC, Hid (cutTo l f k0 m = CC) := ⟨_, rfl⟩
  rw [HCC.out] at hr2
  have HCL : Hid (CC.length = m) := RdL.len hr2
  have HT := Lib.hid hr2
  have HX1 := Lib.hid hx1
  have HCB : Hid (∀ s ∈ CC, 0 ≤ s.2 ∧ s.2 ≤ 10000) := fun s hs => by
    rw [← HCC.out] at hs
    obtain ⟨i, a, v, h1, _, _, rfl⟩ := mem_cutTo.1 hs
    exact (HP.out.bound _ (List.mem_of_getElem? h1)).2
  clear hr2 hx1 hH hC
  go_wp2
  go_loopw [10, 32] (fun v i wr => ∃ q : Nat, q ≤ m ∧ i = .int .i64 q ∧ v = .int .i64 (areaF l f (edge CC t q)) ∧ Ext w1 wr) (fun _ i _ => m - (intOf i).toNat)
  case atStart => exact ⟨0, by omega, rfl, by rw [← HCC.out, edge_zero HH.out HC.out hlt, areaF_self], Ext.rfl'⟩
  case round =>
    obtain ⟨q, hq, rfl, rfl, hext⟩ := hrel
    by_cases hlq : q < m
    · obtain ⟨bb, off, a, u, rfl, hbb, hx, hd0, hd1⟩ := RdP.cut HT.out (k := q) hlq
      replace hd0 := hext.cell' hd0
      replace hd1 := hext.cell' hd1
      have hub := HCB.out _ (List.mem_of_getElem? hx)
      simp only at hub
      obtain ⟨u0, u1⟩ := hub
      have hst := edge_step HP.out f0 HH.out HC.out hlt hlq (by rw [HCC.out]; exact hx)
      rw [HCC.out] at hst
      obtain ⟨s1, s2, s3, s4⟩ := hst
      rw [edge_some hx]
      obtain ⟨V, HV⟩ : ∃ V, Hid (areaF l f a = V) := ⟨_, rfl⟩
      have hvb : 0 ≤ V ∧ V ≤ 10000 * 1099511627775 := by rw [← HV.out]; exact area_small HP.out f0 s2 (by omega)
      obtain ⟨v0, v1⟩ := hvb
      rw [HV.out] at s1 ⊢
      have HXN : Hid (∀ o, Ext w1 (wr.alloc o)) := fun o => hext.alloc hext.size o
      have hbw : bb < wr.heap.size := by have := hext.size; omega
      have Hext := Lib.hid hext
      clear hext hx
      have hi0 : (0 : Int) ≤ (q : Int) := Int.natCast_nonneg _
      have hi1 : (q : Int) < (m : Int) := by omega
      by_cases hlq2 : q + 1 < m
      · obtain ⟨_, _, a', u', hA, _, hx', he0, _⟩ := RdP.cut HT.out (k := q + 1) hlq2
        injection hA with hA; injection hA with hA1 hA2 _; subst hA1; subst hA2
        replace he0 := Hext.out.cell' he0
        rw [edge_some hx'] at s1 s3 s4
        have HN : Hid (areaF l f (edge CC t (q + 1)) = V + u * (a' - a)) := by show _ = _; rw [edge_some hx']; exact s1
        have hpr := prod_small u0 u1 (show 0 ≤ a' - a by omega) (by omega)
        have e1 : IntKind.i64.wrap (a' - a) = a' - a := IntWalk.i64_in _ (by omega)
        have e2 : IntKind.i64.wrap (u * (a' - a)) = u * (a' - a) := IntWalk.i64_in _ (by omega)
        have e3 : IntKind.i64.wrap (V + u * (a' - a)) = V + u * (a' - a) := IntWalk.i64_in _ (by omega)
        have hi2 : (q : Int) + 1 < (m : Int) := by omega
        obtain ⟨p0, p1⟩ := hpr
        clear s1 hx'
        go_wp2
        clear e1 e2 e3
        go_roundw
        case rel => exact ⟨q + 1, by omega, by go_num, by rw [HN.out], HXN.out _⟩
        case measure => simp [intOf]; omega
      · have hen : CC[q + 1]? = none := List.getElem?_eq_none (by rw [HCL.out]; omega)
        rw [edge_none hen] at s1 s3 s4
        have HN : Hid (areaF l f (edge CC t (q + 1)) = V + u * (t - a)) := by show _ = _; rw [edge_none hen]; exact s1
        have hpr := prod_small u0 u1 (show 0 ≤ t - a by omega) (by omega)
        have e1 : IntKind.i64.wrap (t - a) = t - a := IntWalk.i64_in _ (by omega)
        have e2 : IntKind.i64.wrap (u * (t - a)) = u * (t - a) := IntWalk.i64_in _ (by omega)
        have e3 : IntKind.i64.wrap (V + u * (t - a)) = V + u * (t - a) := IntWalk.i64_in _ (by omega)
        obtain ⟨p0, p1⟩ := hpr
        clear s1 hen
        go_wp2
        clear e1 e2 e3
        go_roundw
        case rel => exact ⟨q + 1, by omega, by go_num, by rw [HN.out], HXN.out _⟩
        case measure => simp [intOf]; omega
    · obtain rfl : q = m := by omega
      have HF : Hid (areaF l f (edge CC t q) = areaV l f t) := by
        show _ = _
        rw [edge_none (List.getElem?_eq_none (by rw [HCL.out]; exact Nat.le_refl _)), HE.out.1]
      rw [HF.out]
      have Hext := Lib.hid hext
      clear hext
      go_wp2
      (try rw [Exit.noGoto_ret])
      go_ret2
      exact ⟨by rw [HE.out.2]; rfl, HX1.out.trans' Hext.out⟩
theorem stepsArea (A : Option Addr) (n c : Nat) (l : List Stp) (f t : Int) (w : World) (hr : RdP w A n l) (hn : n ≤ 19000) :
    Calls Try.prog 21 #[.slice A n c, .int .i64 f, .int .i64 t] w (GivesArea l f t w) := by
  by_cases hs : f = t ∧ isT f = true
  · obtain ⟨rfl, hf⟩ := hs
    exact stepsArea_self A n c l f w hr hn hf
  · by_cases h : AreaArg l f t
    · refine stepsArea_ok A n c l f t w hr hn h ?_
      rcases Int.lt_or_le f t with h1 | h1
      · exact h1
      · exact absurd ⟨Int.le_antisymm h.2.2.2 h1, h.2.1⟩ hs
    · exact stepsArea_bad A n c l f t w hr hn h hs
end Go.Proofs.Ytggfepphjaohiaa
