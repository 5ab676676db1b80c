/-
  Walk: the statement FillFits. Conditions: none.
-/
import Derived.Test.YtbcpjdjlgmhohaaPFits
namespace Go.Proofs.Ytbcpjdjlgmhohaa
open Go.RowKit
set_option linter.unusedVariables false
set_option linter.unusedSimpArgs false

set_option maxRecDepth 100000 in
set_option maxHeartbeats 1000000 in
theorem walk_ffits (A B : Option Addr) (n m c d : Nat) (l : List Stp) (now : Int) (jobs : List Jb) (W : World) (hr : RdP W A n l) (hs : RdQ W B m jobs) (hn : n ≤ 9223372036854775807) (hm : m ≤ 9223372036854775807) (hnc : n ≤ c) (hwf : IdsWf jobs) :
    Calls Try.prog 8 #[.slice A n c, .int .i64 now, .slice B m d] W fun e w' => e = .returned (.bool true) ∧ Ext W w' := by
  have HR := Lib.hid hr; clear hr
  have HS := Lib.hid hs; clear hs
  by_cases hlong : 30 < n
  · skip
    go_enter Try.func8, Try.ntmps8
    have HX : Hid (Ext W W) := Ext.rfl'
    go_wp2_with fail
    refine (known15 _).mono ?_
    rintro e w1 ⟨rfl, hx1⟩
    replace HX := Lib.hid (HX.out.trans' hx1)
    clear hx1
    go_wp2
    (try rw [Exit.noGoto_ret])
    go_ret
    exact ⟨rfl, HX.out⟩
  replace hlong : n ≤ 30 := by omega
  by_cases hlong2 : 20 < m
  · skip
    go_enter Try.func8, Try.ntmps8
    have HX : Hid (Ext W W) := Ext.rfl'
    go_wp2_with fail
    refine (known15 _).mono ?_
    rintro e w1 ⟨rfl, hx1⟩
    replace HX := Lib.hid (HX.out.trans' hx1)
    clear hx1
    go_wp2
    (try rw [Exit.noGoto_ret])
    go_ret
    exact ⟨rfl, HX.out⟩
  replace hlong2 : m ≤ 20 := by omega
  go_enter Try.func8, Try.ntmps8
  have HX : Hid (Ext W W) := Ext.rfl'
  go_wp2_with fail
  refine (fillPlaces A B n m c d l now m jobs _ HR.out HS.out (by omega) (by omega) hnc hwf (by omega)).mono ?_
  rintro e w1 ⟨A2, m2, c2, rfl, hr2, hc2, hx1⟩
  replace HX := Lib.hid (HX.out.trans' hx1)
  replace HR := Lib.hid (HR.out.ext hx1)
  replace HS := Lib.hid (HS.out.ext hx1)
  clear hx1
  have HP2 := Lib.hid hr2
  have hm2 : m2 ≤ 20 := by have := plcR_len l now m jobs; have := RdL.len HP2.out; have := RdL.len HS.out; omega
  clear hr2 hc2
  rcases plcN_cases l now m jobs with ⟨hC, _, hE⟩ | ⟨hE, hR⟩
  case inr =>
    obtain ⟨E, HE⟩ : ∃ E, plcE l now m jobs = E := ⟨_, rfl⟩
    rw [HE] at hE ⊢
    have dE : (E == 0) = false := by simpa using hE
    have dE1 : (E != 0) = true := by simpa using hE
    have h1 := HP2.out
    rw [hR] at h1
    obtain rfl : m2 = 0 := (RdL.len h1).symm
    clear h1 HE hR HP2
    go_wp2_with fail
    refine (known15 _).mono ?_
    rintro e w2 ⟨rfl, hx2⟩
    replace HX := Lib.hid (HX.out.trans' hx2)
    clear hx2
    go_wp2
    (try rw [Exit.noGoto_ret])
    go_ret
    exact ⟨rfl, HX.out⟩
  rw [hE]
  have HC := Lib.hid hC
  have HLE : Hid (l.length + 2 * jobs.length ≤ 19000) := by show _ ≤ _; have := RdL.len HR.out; have := RdL.len HS.out; omega
  have HL := Lib.hid (now_left hC HLE.out m (by omega)).1
  have HPF := Lib.hid (now_left hC HLE.out m (by omega)).2
  clear hC hE
  go_wp2_with fail
  refine (fillLeft A A2 n m2 c c2 l _ _ HR.out HP2.out (by omega) (by omega) hnc).mono ?_
  rintro e w2 ⟨A3, m3, c3, rfl, hr3, hc3, hx2⟩
  replace HX := Lib.hid (HX.out.trans' hx2)
  replace HR := Lib.hid (HR.out.ext hx2)
  replace HS := Lib.hid (HS.out.ext hx2)
  replace HP2 := Lib.hid (HP2.out.ext hx2)
  clear hx2
  rw [HL.out] at hr3
  rw [HL.out]
  have HP3 : Hid (RdP w2 A3 m3 (finalP now l m (orderJ jobs))) := hr3
  have hm3 : m3 ≤ 100000 := by have h := HPF.out.2.1; rw [← RdL.len HP3.out]; omega
  clear hr3 hc3
  obtain ⟨fl, HFL⟩ : ∃ fl, Hid (finalP now l m (orderJ jobs) = fl) := ⟨_, rfl⟩
  rw [HFL.out] at HP3 HPF
  clear HL
  have cn : isT now = true := (chkJ_zero HC.out).1.2.1
  have now0 := ((isT_iff now).1 cn).1
  have HMJ : Hid ((jobs.length : Int) ≤ (m : Int)) := by show _ ≤ _; have := RdL.len HS.out; omega
  have HND := Lib.hid (fit_nodup HC.out (deep := m) (by omega))
  have HFS : Hid (∀ j ∈ jobs, ∀ s ∈ plcR l now m jobs, s.1 = j.1 → ∃ t, s = slotOf j t ∧ now ≤ t ∧ t + j.2.2.2 ≤ 1099511627775) := fun j hj s hs he => fit_slot HC.out HLE.out (by omega) hj hs he
  have HFN : Hid (∀ j ∈ jobs, ((plcR l now m jobs).filter fun s => s.1 == j.1).length = 0 → firstR fl now 1099511627775 j.2.2.1 j.2.2.2 = (0, 70)) := fun j hj h0 => by rw [← HFL.out]; exact fit_none HC.out HLE.out HMJ.out hj h0
  obtain ⟨a, HA⟩ : ∃ a, Hid (plcR l now m jobs = a) := ⟨_, rfl⟩
  rw [HA.out] at HP2 HND HFS HFN
  go_wp2
  go_loopw [11] (fun i wr => ∃ k : Nat, k ≤ m ∧ i = .int .i64 k ∧ Ext w2 wr) (fun i _ => m - (intOf i).toNat)
  case atStart => exact ⟨0, by omega, rfl, Ext.rfl'⟩
  case round =>
    obtain ⟨k, hk, rfl, hext⟩ := hrel
    obtain ⟨w6, HW6⟩ : ∃ w6 : World, w6 = wr := ⟨_, rfl⟩
    subst HW6
    have HX6 := Lib.hid hext
    clear hext
    by_cases hlt : k < m
    · obtain ⟨b, off, x1, x2, x3, x4, rfl, hb, hx, hd0, _, hd2, hd3⟩ := RdQ.cut HS.out hlt
      have HM : Hid ((x1, x2, x3, x4) ∈ jobs) := List.mem_of_getElem? hx
      have HJ := Lib.hid ((chkJ_zero HC.out).1.2.2 _ HM.out)
      replace hd0 := HX6.out.cell' hd0
      replace hd2 := HX6.out.cell' hd2
      replace hd3 := HX6.out.cell' hd3
      have hpp0 : (0 : Int) ≤ (k : Int) := Int.natCast_nonneg _
      have hpp1 : (k : Int) < (m : Int) := by omega
      clear hx
      go_wp2
      go_loopw [12, 13] (fun nv i wr => ∃ (q z : Nat), q ≤ m2 ∧ z ≤ q ∧ nv = .int .i64 z ∧ i = .int .i64 q ∧ Hid (((a.take q).filter fun s => s.1 == x1).length = z) ∧ Ext w6 wr) (fun _ i _ => m2 - (intOf i).toNat)
      case atStart => exact ⟨0, 0, by omega, by omega, rfl, rfl, (by show _ = _; simp), Ext.rfl'⟩
      case round =>
        obtain ⟨q, z, hq, hz, rfl, rfl, HZ, hext⟩ := hrel
        by_cases hqp : q < m2
        · obtain ⟨b2, off2, y1, y2, y3, y4, rfl, _, hy, he0, he1, he2, he3⟩ := RdQ.cut HP2.out hqp
          have HYM : Hid ((y1, y2, y3, y4) ∈ a) := List.mem_of_getElem? hy
          have HCN := Lib.hid (cnt_next2 (x := x1) hy)
          replace he0 := hext.cell' (HX6.out.cell' he0)
          replace he1 := hext.cell' (HX6.out.cell' he1)
          replace he2 := hext.cell' (HX6.out.cell' he2)
          replace he3 := hext.cell' (HX6.out.cell' he3)
          have f0 := hext.cell' hd0
          have f2 := hext.cell' hd2
          have f3 := hext.cell' hd3
          have HXQ : Hid (∀ z, Ext w6 (wr.drewN z)) := fun z => below_drewN' hext z
          have hqq0 : (0 : Int) ≤ (q : Int) := Int.natCast_nonneg _
          have hqq1 : (q : Int) < (m2 : Int) := by omega
          clear hy hext
          by_cases he : y1 = x1
          · obtain ⟨t, e1, e2, e3⟩ := HFS.out _ HM.out _ HYM.out he
            simp only [slotOf, Prod.mk.injEq] at e1
            obtain ⟨_, rfl, rfl, rfl⟩ := e1
            have d0 : (y1 == x1) = true := by simpa using he
            have HCZ : Hid (((a.take (q + 1)).filter fun s => s.1 == x1).length = z + 1) := by show _ = _; rw [HCN.out, HZ.out, if_pos he]
            have hx4 := HJ.out.2.2.2.2.2.1
            simp only at hx4 e3
            have d1 : decide (y2 < now) = false := decide_eq_false (by omega)
            have e4 : IntKind.i64.wrap (y2 + x4 - y2) = x4 := by rw [IntWalk.i64_in _ (by omega)]; omega
            have d2 : (x4 != x4) = false := by simp
            have d3 : (y4 != y4) = false := by simp
            clear he HCN
            go_wp2
            go_quiet (fail)
            go_wp2
            go_quiet (fail)
            go_wp2
            go_roundw
            case rel => exact ⟨q + 1, z + 1, by omega, by omega, by go_num, by go_num, HCZ, HXQ.out _⟩
            case measure => simp [intOf]; omega
          · have d0 : (y1 == x1) = false := by simpa using he
            have HCZ : Hid (((a.take (q + 1)).filter fun s => s.1 == x1).length = z) := by show _ = _; rw [HCN.out, HZ.out, if_neg he]; rfl
            clear he HCN
            go_wp2
            go_quiet (fail)
            go_wp2
            go_roundw
            case rel => exact ⟨q + 1, z, by omega, by omega, rfl, by go_num, HCZ, HXQ.out _⟩
            case measure => simp [intOf]; omega
        · obtain rfl : q = m2 := by omega
          have f2 := hext.cell' hd2
          have f3 := hext.cell' hd3
          have HX7 := Lib.hid (HX6.out.trans' hext)
          clear hext hd0 hd2 hd3 HX6
          obtain ⟨G0, G1, HG⟩ : ∃ G0 G1, Hid (firstR fl now 1099511627775 x3 x4 = (G0, G1)) := ⟨_, _, rfl⟩
          have Q1 : Hid (∀ x : ExtW wr, Calls Try.prog 25 #[.slice A3 m3 c3, .agg #[.int .i64 now, .int .i64 1099511627775], .int .i64 x3, .int .i64 x4] x.val fun e w' => e = .returned (.tuple #[.int .i64 G0, .int .i64 G1]) ∧ Ext x.val w') := fun x => by
            have h := fitFirst A3 m3 c3 fl now 1099511627775 x3 x4 x.val (HP3.out.ext (HX7.out.trans' x.ext)) (by omega)
            rw [HG.out] at h
            exact h
          have g2 := ExtW.cell f2
          have g3 := ExtW.cell f3
          have hz01 : z = 0 ∨ z = 1 := by have h1 := HZ.out; have := cnt_one (x := x1) HND.out; rw [take_all' (RdL.len HP2.out) (Nat.le_refl _)] at h1; omega
          have HG1 : Hid (z = 0 → G1 = 70) := fun hz => by
            have h1 := HZ.out
            rw [take_all' (RdL.len HP2.out) (Nat.le_refl _), hz] at h1
            have h2 := HFN.out _ HM.out h1
            have h3 := HG.out
            rw [h3] at h2
            exact (Prod.mk.inj h2).2
          go_wp2
          refine wp_region_ext (by kernel_rfl) (by kernel_rfl) ?_
          repeat (go_big_quiet_step ((go_at_call 25; exact extq (Q1.out _))))
          refine wpQuiet_nil ?_
          rintro w9 ⟨⟨w9', hxq⟩, hww⟩
          obtain rfl : w9 = w9' := hww
          have HX8 := Lib.hid (HX7.out.trans' hxq)
          clear hxq g2 g3 Q1 f2 f3
          rcases hz01 with rfl | rfl
          · obtain rfl := HG1.out rfl
            go_wp2
            go_roundw
            case rel => exact ⟨k + 1, by omega, by go_num, HX8.out⟩
            case measure => simp [intOf]; omega
          · go_wp2
            go_roundw
            case rel => exact ⟨k + 1, by omega, by go_num, HX8.out⟩
            case measure => simp [intOf]; omega
    · replace HX := Lib.hid (HX.out.trans' HX6.out)
      go_wp2_with fail
      refine (known15 _).mono ?_
      rintro e w7 ⟨rfl, hx7⟩
      replace HX := Lib.hid (HX.out.trans' hx7)
      clear hx7
      go_wp2
      (try rw [Exit.noGoto_ret])
      go_ret
      exact ⟨rfl, HX.out⟩
end Go.Proofs.Ytbcpjdjlgmhohaa
