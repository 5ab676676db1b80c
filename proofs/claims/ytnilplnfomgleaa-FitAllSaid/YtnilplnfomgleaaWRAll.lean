/-
  Walk: the document's way to all times at which a request fits. Conditions: none.
-/
import Derived.Test.YtnilplnfomgleaaPAll
namespace Go.Proofs.Ytnilplnfomgleaa
open Go.RowKit

set_option maxRecDepth 100000 in
set_option maxHeartbeats 8000000 in
theorem refAll (A : Option Addr) (m c : Nat) (l : List Stp) (f b n g : Int) (w : World) (hr : RdP w A m l) (hok : Req l f b n g) :
    Calls Try.prog 18 #[.slice A m c, .agg #[.int .i64 f, .int .i64 b], .int .i64 n, .int .i64 g] w (GivesP (allF l f b n g) w) := by
  have HR := Lib.hid hr
  have hm : m ≤ 20000 := by have := hok.1.2.1; have := RdL.len hr; omega
  clear hr
  obtain ⟨i0, hi0, hz0, hz1, hz2⟩ := info_parts Try.infoWin
  have HQ := Lib.hid hok
  have hbd := hok.bd
  clear hok
  obtain ⟨f0, f1, b0, b1, g0, g1⟩ := hbd
  have HB := Lib.hid (fun k t => timesL_bd (l := l) ⟨f0, f1⟩ ⟨b0, b1⟩ ⟨g0, g1⟩ HQ.out.1.times (k := k) (t := t))
  obtain ⟨TS, HTS⟩ : ∃ TS, Hid (timesL l f b g = TS) := ⟨_, rfl⟩
  rw [HTS.out] at HB
  go_enter Try.func18, Try.ntmps18
  have HR0 := Lib.hid (HR.out.alloc' (.cells #[.int .i64 f, .int .i64 b] 24))
  go_wp2
  obtain ⟨w1, hw1⟩ : ∃ w1 : World, w1 = w.alloc (.cells #[.int .i64 f, .int .i64 b] 24) := ⟨_, rfl⟩
  have c0 : w1.cell? ⟨w.heap.size, 0, none⟩ = some (.int .i64 f) := by rw [hw1]; simp [go_sem]
  have c1 : w1.cell? ⟨w.heap.size, 1, none⟩ = some (.int .i64 b) := by rw [hw1]; simp [go_sem]
  have HX1 : Hid (Ext w w1) := by show Ext _ _; rw [hw1]; exact (Below.refl _ _).alloc (Nat.le_refl _) _
  rw [← hw1] at HR0 ⊢
  clear hw1 HR
  obtain ⟨R, HRb⟩ : ∃ R, Hid (R = w.heap.size) := ⟨_, rfl⟩
  rw [← HRb.out] at c0 c1 ⊢
  go_loopw [9, 10] (fun v x wr => ∃ (k : Nat) (F : Int), x = .int .i64 F ∧ f ≤ F ∧ F ≤ b + 1 + f ∧ Hid ((F ≤ b → Req l F b n g ∧ allF l F b n g = (allF l f b n g).drop k) ∧ (b < F → (allF l f b n g).drop k = [])) ∧ k ≤ (allF l f b n g).length ∧ wr.ownsRow w1.heap.size 24 2 v k (flat encP ((allF l f b n g).take k)) ∧ Ext w1 wr) (fun _ x _ => (b + 1 + f - intOf x).toNat)
  case atStart => exact ⟨0, f, rfl, by omega, by omega, ⟨fun _ => ⟨HQ.out, rfl⟩, fun h => by
      show allF l f b n g = []
      rcases ha : allF l f b n g with _ | ⟨p, r⟩
      · rfl
      · have hp : p ∈ allF l f b n g := by rw [ha]; simp
        have := all_from p hp
        have := all_le p hp
        omega⟩, by omega, by simpa [flat] using World.ownsRow_nil _ _ _ _, Ext.rfl'⟩
  case round =>
    obtain ⟨k, F, rfl, hF, hFb, HI, hkl, hown, hext⟩ := hrel
    have d0 := hext.cell' c0
    have d1 := hext.cell' c1
    have HR' := Lib.hid (HR0.out.ext hext)
    have hlen : (allF l f b n g).length ≤ 100000 := by
      have h2 := holTo_len n l
      have h4 := cutL_len f b g (holes n l)
      have h5 := HQ.out.1.2.1
      unfold allF
      unfold holes at h4
      split
      · split <;> simp
      · unfold holes; omega
    by_cases hFle : F ≤ b
    case neg =>
      have HE := Lib.hid (HI.out.2 (by omega))
      have HT : Hid ((allF l f b n g).take k = allF l f b n g) := by
        show _ = _
        have := List.take_append_drop k (allF l f b n g)
        rw [HE.out, List.append_nil] at this
        exact this
      have hkk : k = (allF l f b n g).length := by
        have := congrArg List.length HT.out
        rw [List.length_take] at this
        omega
      rw [HT.out] at hown
      obtain ⟨A', c', rfl, hc', hr'⟩ := RdL.of_own encP_len hown hkk.symm
      have Hr := Lib.hid hr'
      have Hext := Lib.hid hext
      clear hown hr' hkk hext
      go_wp2
      go_ret
      exact ⟨A', _, c', rfl, Hr.out, HX1.out.trans' Hext.out⟩
    obtain ⟨hq, hdrop⟩ := HI.out.1 hFle
    have Hq := Lib.hid hq
    have hbq := hq.bd
    rcases ha : allF l F b n g with _ | ⟨p, r⟩
    · have HF := Lib.hid (firstF_none hq ha).1
      have HE : Hid ((allF l f b n g).drop k = []) := by show _ = _; rw [← hdrop, ha]
      have HT : Hid ((allF l f b n g).take k = allF l f b n g) := by
        show _ = _
        have := List.take_append_drop k (allF l f b n g)
        rw [HE.out, List.append_nil] at this
        exact this
      have hkk : k = (allF l f b n g).length := by
        have := congrArg List.length HT.out
        rw [List.length_take] at this
        omega
      rw [HT.out] at hown
      obtain ⟨A', c', rfl, hc', hr'⟩ := RdL.of_own encP_len hown hkk.symm
      have Hr := Lib.hid hr'
      have Hext := Lib.hid hext
      clear hown hr' hkk hext ha hdrop hq
      go_wp2_with fail
      refine (refFirst A m c l F b n g _ HR'.out (by omega) HQ.out.1 ⟨by omega, by omega⟩ ⟨b0, b1⟩ ⟨g0, g1⟩).mono ?_
      rintro e w2 ⟨rfl, hx2⟩
      have Hx2 := Lib.hid hx2; clear hx2
      rw [HF.out]
      go_wp2
      go_ret
      exact ⟨A', _, c', rfl, (Hr.out.ext Hx2.out), (HX1.out.trans' Hext.out).trans' Hx2.out⟩
    have HF := Lib.hid (firstF_some hq ha)
    have HN := Lib.hid (all_next hq ha)
    have hpm : p ∈ allF l f b n g := by
      have h1 : p ∈ (allF l f b n g).drop k := by rw [← hdrop, ha]; simp
      exact List.mem_of_mem_drop h1
    have hpk : (allF l f b n g)[k]? = some p := by
      have h1 : ((allF l f b n g).drop k)[0]? = some p := by rw [← hdrop, ha]; rfl
      rw [List.getElem?_drop] at h1
      exact h1
    have hdr : (allF l f b n g).drop (k + 1) = r := by
      have h1 := congrArg (List.drop 1) hdrop
      rw [ha, List.drop_drop] at h1
      exact h1.symm
    have hpf := all_from p hpm
    have hple := all_le p hpm
    have hpF := all_from p (by rw [ha]; simp : p ∈ allF l F b n g)
    have HM := Lib.hid (mid_is HQ.out p hpm)
    rw [HTS.out] at HM
    have HPK := Lib.hid hpk
    have HDR := Lib.hid hdr
    have hkl2 : k + 1 ≤ (allF l f b n g).length := by have := (List.getElem?_eq_some_iff.1 hpk).1; omega
    have hk100 : k ≤ 100000 := by omega
    have Hext := Lib.hid hext
    clear ha hdrop hq hpk hdr hext HI hpm hkl
    obtain ⟨a, z⟩ := p
    simp only at HF hpf hple hpF HM
    go_wp2_with fail
    refine (refFirst A m c l F b n g _ HR'.out (by omega) HQ.out.1 ⟨by omega, by omega⟩ ⟨b0, b1⟩ ⟨g0, g1⟩).mono ?_
    rintro e w2 ⟨rfl, hx2⟩
    rw [HF.out]
    replace d0 := hx2.cell' d0
    replace d1 := hx2.cell' d1
    replace HR' := Lib.hid (HR'.out.ext hx2)
    have hown2 := hown.kept (w' := w2) (row := none) ⟨hx2.os, hx2.tape, hx2.output, hx2.size, fun i hi _ => hx2.block i hi⟩ (by cases hv : u9.ownBlock <;> simp)
    have Hx2 := Lib.hid (Hext.out.trans' hx2)
    clear hx2 hown
    go_wp2_with fail
    refine (refTimes A m c l f b g _ HR'.out (by omega) ⟨f0, f1⟩ ⟨b0, b1⟩ ⟨g0, g1⟩ HQ.out.1.times).mono ?_
    rintro e w3 ⟨A1, m1, cc1, rfl, hr1, hx3⟩
    rw [HTS.out] at hr1
    have HR1 := Lib.hid hr1
    replace d0 := hx3.cell' d0
    replace d1 := hx3.cell' d1
    replace HR' := Lib.hid (HR'.out.ext hx3)
    have hown3 := hown2.kept (w' := w3) (row := none) ⟨hx3.os, hx3.tape, hx3.output, hx3.size, fun i hi _ => hx3.block i hi⟩ (by cases hv : u9.ownBlock <;> simp)
    have Hx3 := Lib.hid (Hx2.out.trans' hx3)
    have hm1 : m1 ≤ 100000 := by rw [← RdL.len hr1, ← HTS.out, timesL_len, RdL.len HR0.out]; omega
    clear hr1 hx3 hown2
    go_wp2
    go_hide hQo
    go_loopw [12, 14] (fun x i wq => ∃ (j : Nat) (B : Int), j ≤ m1 ∧ i = .int .i64 j ∧ x = .int .i64 B ∧ Hid (B = midTo l f b n g a TS (TS.take j)) ∧ Ext w3 wq) (fun _ i _ => m1 - (intOf i).toNat)
    case atStart => exact ⟨0, a, by omega, rfl, rfl, rfl, Ext.rfl'⟩
    case round =>
      obtain ⟨j, B, hj, rfl, rfl, HBm, hxq⟩ := hrel
      by_cases hjm : j < m1
      · obtain ⟨bb, off, t, rfl, hbb, hx, e0⟩ := RdI.cut HR1.out hjm
        have HT := Lib.hid (HB.out _ _ hx)
        have HS : Hid (midTo l f b n g a TS (TS.take (j + 1)) = if B < t ∧ fitsB l f b n g t = true ∧ gapB l f b n g a t TS = false then t else B) := by
          show _ = _
          rw [take_snoc' hx, midTo_snoc, ← HBm.out]
        replace e0 := hxq.cell' e0
        have dd0 := hxq.cell' d0
        have dd1 := hxq.cell' d1
        have q1 := ExtW.cell e0
        have q2 := ExtW.cell dd0
        have q3 := ExtW.cell dd1
        have HRq := Lib.hid (HR'.out.ext hxq)
        have HQt : Hid (∀ (v : Bool), fitsB l f b n g t = v → ∀ x : ExtW wr, Calls Try.prog 19 #[.slice A m c, .agg #[.int .i64 f, .int .i64 b], .int .i64 n, .int .i64 g, .int .i64 t] x.val fun e w' => e = .returned (.bool v) ∧ Ext x.val w') := fun v hv x => by
          subst hv
          exact refFits A m c l f b n g t x.val (HRq.out.ext x.ext) (by omega) HQ.out.1 f0 b1 ⟨g0, g1⟩ HT.out
        have hi0' : (0 : Int) ≤ (j : Int) := Int.natCast_nonneg _
        have hi1 : (j : Int) < (m1 : Int) := by omega
        have Hxq := Lib.hid hxq
        clear hx hxq
        by_cases hBt : t ≤ B
        · have dB : decide (B < t) = false := by simp; omega
          go_wp2
          refine wp_region_ext (by kernel_rfl) (by kernel_rfl) ?_
          repeat (go_big_quiet_step ((go_at_call 19; exact extq (HQt.out _))))
          refine wpQuiet_nil ?_
          rintro w4 ⟨⟨_, hx4⟩, rfl⟩
          go_wp2
          go_roundw
          case rel => exact ⟨j + 1, B, by omega, by go_num, rfl, by show _ = _; rw [HS.out, if_neg (fun h => by omega)], Hxq.out.trans' hx4⟩
          case measure => simp [intOf]; omega
        replace hBt : B < t := by omega
        by_cases hv : fitsB l f b n g t = false
        · replace HQt := Lib.hid (HQt.out _ hv)
          have HV := Lib.hid hv; clear hv
          go_wp2
          refine wp_region_ext (by kernel_rfl) (by kernel_rfl) ?_
          repeat (go_big_quiet_step ((go_at_call 19; exact extq (HQt.out _))))
          refine wpQuiet_nil ?_
          rintro w4 ⟨⟨_, hx4⟩, rfl⟩
          go_wp2
          go_roundw
          case rel => exact ⟨j + 1, B, by omega, by go_num, rfl, by show _ = _; rw [HS.out, if_neg (fun h => by rw [HV.out] at h; exact absurd h.2.1 (by decide))], Hxq.out.trans' hx4⟩
          case measure => simp [intOf]; omega
        replace hv : fitsB l f b n g t = true := by simpa using hv
        replace HQt := Lib.hid (HQt.out _ hv)
        have HV := Lib.hid hv; clear hv
        go_wp2
        refine wp_region_ext (by kernel_rfl) (by kernel_rfl) ?_
        repeat (go_big_quiet_step ((go_at_call 19; exact extq (HQt.out _))))
        refine wpQuiet_nil ?_
        rintro w4 ⟨⟨_, hx4⟩, rfl⟩
        replace e0 := hx4.cell' e0
        replace dd0 := hx4.cell' dd0
        replace dd1 := hx4.cell' dd1
        replace HRq := Lib.hid (HRq.out.ext hx4)
        have HX4 := Lib.hid (Hxq.out.trans' hx4)
        clear hx4 q1 q2 q3 HQt Hxq
        go_wp2
        go_hide hQm
        go_loopw [15, 16] (fun x i wq => ∃ q : Nat, q ≤ m1 ∧ i = .int .i64 q ∧ x = .bool (gapB l f b n g a t (TS.take q)) ∧ Ext w4 wq) (fun _ i _ => m1 - (intOf i).toNat)
        case atStart => exact ⟨0, by omega, rfl, rfl, Ext.rfl'⟩
        case round =>
          obtain ⟨q, hqm, rfl, rfl, hxp⟩ := hrel
          by_cases hqlt : q < m1
          · obtain ⟨bb', off', s, hA', _, hx', e1⟩ := RdI.cut HR1.out hqlt
            injection hA' with hA'; injection hA' with hA1 hA2 _; subst hA1; subst hA2
            have HT2 := Lib.hid (HB.out _ _ hx')
            have HS2 : Hid (gapB l f b n g a t (TS.take (q + 1)) = (gapB l f b n g a t (TS.take q) || (decide (a < s) && decide (s < t) && !fitsB l f b n g s))) := by
              show _ = _
              rw [take_snoc' hx', gapB_snoc]
            replace e1 := (HX4.out.trans' hxp).cell' e1
            have e2 := hxp.cell' e0
            have d20 := hxp.cell' dd0
            have d21 := hxp.cell' dd1
            have q1 := ExtW.cell e1
            have q2 := ExtW.cell d20
            have q3 := ExtW.cell d21
            have q4 := ExtW.cell e2
            have HRp := Lib.hid (HRq.out.ext hxp)
            have HQs : Hid (∀ (v : Bool), fitsB l f b n g s = v → ∀ x : ExtW wr, Calls Try.prog 19 #[.slice A m c, .agg #[.int .i64 f, .int .i64 b], .int .i64 n, .int .i64 g, .int .i64 s] x.val fun e w' => e = .returned (.bool v) ∧ Ext x.val w') := fun v hv x => by
              subst hv
              exact refFits A m c l f b n g s x.val (HRp.out.ext x.ext) (by omega) HQ.out.1 f0 b1 ⟨g0, g1⟩ HT2.out
            have hj0 : (0 : Int) ≤ (q : Int) := Int.natCast_nonneg _
            have hj1 : (q : Int) < (m1 : Int) := by omega
            have Hxp := Lib.hid hxp
            clear hx' hxp e1 e2 d20 d21
            obtain ⟨G, HG⟩ : ∃ G, Hid (gapB l f b n g a t (TS.take q) = G) := ⟨_, rfl⟩
            rw [HG.out]
            by_cases hs1 : s ≤ a
            · have ds : decide (a < s) = false := by simp; omega
              go_wp2
              refine wp_region_ext (by kernel_rfl) (by kernel_rfl) ?_
              repeat (go_big_quiet_step ((go_at_call 19; exact extq (HQs.out _))))
              refine wpQuiet_nil ?_
              rintro w5 ⟨⟨_, hx5⟩, rfl⟩
              go_wp2
              go_roundw
              case rel => exact ⟨q + 1, by omega, by go_num, by rw [HS2.out, HG.out, show decide (a < s) = false by simp; omega]; simp, Hxp.out.trans' hx5⟩
              case measure => simp [intOf]; omega
            replace hs1 : a < s := by omega
            by_cases hs2 : t ≤ s
            · have ds : decide (s < t) = false := by simp; omega
              go_wp2
              refine wp_region_ext (by kernel_rfl) (by kernel_rfl) ?_
              repeat (go_big_quiet_step ((go_at_call 19; exact extq (HQs.out _))))
              refine wpQuiet_nil ?_
              rintro w5 ⟨⟨_, hx5⟩, rfl⟩
              go_wp2
              go_roundw
              case rel => exact ⟨q + 1, by omega, by go_num, by rw [HS2.out, HG.out, show decide (s < t) = false by simp; omega]; simp, Hxp.out.trans' hx5⟩
              case measure => simp [intOf]; omega
            replace hs2 : s < t := by omega
            by_cases hv : fitsB l f b n g s = false
            · replace HQs := Lib.hid (HQs.out _ hv)
              have HV2 := Lib.hid hv; clear hv
              go_wp2
              refine wp_region_ext (by kernel_rfl) (by kernel_rfl) ?_
              repeat (go_big_quiet_step ((go_at_call 19; exact extq (HQs.out _))))
              refine wpQuiet_nil ?_
              rintro w5 ⟨⟨_, hx5⟩, rfl⟩
              go_wp2
              go_roundw
              case rel => exact ⟨q + 1, by omega, by go_num, by rw [HS2.out, HG.out, HV2.out, show decide (s < t) = true by simp; omega, show decide (a < s) = true by simp; omega]; simp, Hxp.out.trans' hx5⟩
              case measure => simp [intOf]; omega
            · replace hv : fitsB l f b n g s = true := by simpa using hv
              replace HQs := Lib.hid (HQs.out _ hv)
              have HV2 := Lib.hid hv; clear hv
              go_wp2
              refine wp_region_ext (by kernel_rfl) (by kernel_rfl) ?_
              repeat (go_big_quiet_step ((go_at_call 19; exact extq (HQs.out _))))
              refine wpQuiet_nil ?_
              rintro w5 ⟨⟨_, hx5⟩, rfl⟩
              go_wp2
              go_roundw
              case rel => exact ⟨q + 1, by omega, by go_num, by rw [HS2.out, HG.out, HV2.out]; simp, Hxp.out.trans' hx5⟩
              case measure => simp [intOf]; omega
          · have HE : Hid (TS.take q = TS) := take_all' (RdL.len HR1.out) (by omega)
            obtain ⟨G, HG⟩ : ∃ G, Hid (gapB l f b n g a t (TS.take q) = G) := ⟨_, rfl⟩
            rw [HG.out]
            have e2 := hxp.cell' e0
            have Hxp := Lib.hid hxp
            clear hxp
            cases G
            · go_wp2
              subst hQm
              go_wp2
              go_roundw
              case rel => exact ⟨j + 1, t, by omega, by go_num, rfl, by show _ = _; rw [HS.out, if_pos ⟨hBt, HV.out, by rw [← HE.out, HG.out]⟩], HX4.out.trans' Hxp.out⟩
              case measure => simp [intOf]; omega
            · go_wp2
              subst hQm
              go_wp2
              go_roundw
              case rel => exact ⟨j + 1, B, by omega, by go_num, rfl, by show _ = _; rw [HS.out, if_neg (fun h => by have := h.2.2; rw [← HE.out, HG.out] at this; cases this)], HX4.out.trans' Hxp.out⟩
              case measure => simp [intOf]; omega
      · have HBz : Hid (B = z) := by
          show _ = _
          rw [HBm.out, take_all' (RdL.len HR1.out) (by omega), HM.out]
        have hown4 := hown3.kept (w' := wr) (row := none) ⟨hxq.os, hxq.tape, hxq.output, hxq.size, fun i hi _ => hxq.block i hi⟩ (by cases hv : u9.ownBlock <;> simp)
        have Hx4 := Lib.hid (Hx3.out.trans' hxq)
        have hBz := HBz.out
        clear hxq HBm
        subst hBz
        clear HBz
        have hlen1 : ((allF l f b n g).take k).length = k := by rw [List.length_take]; omega
        have HSN : Hid ((allF l f b n g).take (k + 1) = (allF l f b n g).take k ++ [(a, B)]) := take_snoc' HPK.out
        obtain ⟨FL, HFL⟩ : ∃ FL, Hid (FL = flat encP ((allF l f b n g).take k)) := ⟨_, rfl⟩
        rw [← HFL.out] at hown4
        have hB : B + 1 ≤ b + 1 + f := by omega
        clear hlen1 hown3
        go_wp2
        subst hQo
        go_wp2_with (at_builtin; refine wpList_append_lies _ rfl _ _ _ rfl w1.heap.size 24 i0 _ 2 16 Try.underlying31 hi0 hz0 hz1 hz2 rfl (by omega) u9 k FL rfl (hown4.alloc _) ⟨wr.heap.size, 0, none⟩ 1 1 [.int .i64 a, .int .i64 B] rfl rfl (World.news_of_block (cs := #[.int .i64 a, .int .i64 B]) (t := 24) (fr := (0, 0)) (heap_alloc_new wr _)) (by simp [Value.oneCell']) (by omega) (by simp only [maxLen]; omega) (by omega) (by have := Hx4.out.size; simp; omega) (wr.heap.size + 1) (by simp) ?_; intro gg cap w6 hown6 hgrow hat hlt6; have Hown6 := Lib.hid hown6; have Hgrow := Lib.hid hgrow; clear hown6 hgrow hat)
        go_roundw
        case rel =>
          refine ⟨k + 1, B + 1, rfl, by omega, by omega, ⟨fun h => ?_, fun h => ?_⟩, hkl2, ?_, ?_⟩
          · rw [HDR.out]; exact HN.out.1 h
          · rw [HDR.out]; exact HN.out.2 h
          · rw [HSN.out, flat_append, flat_one, ← HFL.out]
            exact Hown6.out
          · exact (Hx4.out.alloc Hx4.out.size _).grown Hgrow.out (by have := Hx4.out.size; simp; omega) (fun zz hz => (hown4.lt zz hz).1)
        case measure => simp [intOf]; omega
end Go.Proofs.Ytnilplnfomgleaa
