/-
  Walk: the statement FillNow. Conditions: none.
-/
import Derived.Test.YtbcpjdjlgmhohaaWKnown15
import Derived.Test.YtbcpjdjlgmhohaaWLeft
import Derived.Test.YtbcpjdjlgmhohaaPEnd
import Derived.Test.YtbcpjdjlgmhohaaOpen
namespace Go.Proofs.Ytbcpjdjlgmhohaa
open Go.RowKit
set_option linter.unusedVariables false
set_option linter.unusedSimpArgs false

theorem idsN_wf {l : List Jb} (h : ∀ s ∈ l, (Lit.int .i64 s.1).wf = true ∧ (Lit.int .i64 s.2.1).wf = true ∧ (Lit.int .i64 s.2.2.1).wf = true ∧ (Lit.int .i64 s.2.2.2).wf = true) : IdsWf l := fun j hj => wf64 (h j hj).1
theorem plcN_cases (l : List Stp) (now deep : Int) (jobs : List Jb) : (chkJ l now jobs = 0 ∧ ¬ deep < 0 ∧ plcE l now deep jobs = 0) ∨ (plcE l now deep jobs ≠ 0 ∧ plcR l now deep jobs = []) := by
  by_cases h : chkJ l now jobs = 0
  · by_cases hd : deep < 0
    · right
      have := plc_deep h hd
      exact ⟨by rw [this.1]; decide, this.2⟩
    · exact .inl ⟨h, hd, (plc_ok h hd).1⟩
  · right
    have := plc_bad (deep := deep) h
    exact ⟨by rw [this.1]; exact h, this.2⟩
theorem id_inj : ∀ {l : List Jb}, (ids l).Nodup → ∀ {x y : Jb}, x ∈ l → y ∈ l → x.1 = y.1 → x = y
  | [], _, x, _, hx, _, _ => by simp at hx
  | a :: l, h, x, y, hx, hy, e => by
    have hc := List.nodup_cons.1 (show (a.1 :: ids l).Nodup from h)
    rcases List.mem_cons.1 hx with rfl | hx2
    · rcases List.mem_cons.1 hy with rfl | hy2
      · rfl
      · exact absurd (show x.1 ∈ ids l from List.mem_map.2 ⟨y, hy2, e.symm⟩) hc.1
    · rcases List.mem_cons.1 hy with rfl | hy2
      · exact absurd (show y.1 ∈ ids l from List.mem_map.2 ⟨x, hx2, e⟩) hc.1
      · replace hy := hy2
        exact id_inj hc.2 hx2 hy2 e
section
variable {l : List Stp} {now : Int} {jobs : List Jb}
theorem now_left (hc : chkJ l now jobs = 0) (hlen : l.length + 2 * jobs.length ≤ 19000) (deep : Int) (hd : ¬ deep < 0) : leftA l (plcR l now deep jobs) = (finalP now l deep (orderJ jobs), 0) ∧ Prof (finalP now l deep (orderJ jobs)) := by
  obtain ⟨h1, h2⟩ := chkJ_zero hc
  have h := final_left h1.2.1 (orderJ jobs) l deep h1.1 (fun j hj => h1.2.2 j (isort_mem.1 hj)) (by rw [orderJ_len]; exact hlen)
  rw [left_prof h1.1, (plc_ok hc hd).2]
  exact ⟨h.1, h.2.1⟩
theorem now_alone (hc : chkJ l now jobs = 0) (hlen : l.length + 2 * jobs.length ≤ 19000) {j : Jb} (hj : j ∈ jobs) (hb : j.1 ∈ (plcR l now 0 jobs).map (·.1)) : fitsN l now j now = true := by
  obtain ⟨h1, h2⟩ := chkJ_zero hc
  rw [(plc_ok hc (by decide)).2] at hb
  obtain ⟨s, hs, he⟩ := List.mem_map.1 hb
  obtain ⟨k, hk, t, rfl, hf, ht⟩ := slot_mem h1.2.1 (orderJ jobs) l 0 h1.1 (fun j hj => h1.2.2 j (isort_mem.1 hj)) (by rw [orderJ_len]; exact hlen) s hs
  obtain rfl : k = j := id_inj h2 (isort_mem.1 hk) hj he
  obtain rfl := ht rfl
  exact (fitsB_iff _ _ _ _ _ _).2 hf
theorem now_still (hc : chkJ l now jobs = 0) (hlen : l.length + 2 * jobs.length ≤ 19000) {j : Jb} (hj : j ∈ jobs) (hb : j.1 ∉ (plcR l now 0 jobs).map (·.1)) : fitsN (finalP now l 0 (orderJ jobs)) now j now = false := by
  obtain ⟨h1, h2⟩ := chkJ_zero hc
  rw [(plc_ok hc (by decide)).2] at hb
  rcases slot_none h1.2.1 (orderJ jobs) l 0 h1.1 (fun j hj => h1.2.2 j (isort_mem.1 hj)) (by rw [orderJ_len]; exact hlen) j (isort_mem.2 hj) with ⟨t, h⟩ | h
  · exact absurd (List.mem_map.2 ⟨_, h, rfl⟩) hb
  · exact (fitsB_f _ _ _ _ _ _).2 h.1
end
theorem mem_take_next {N : List Int} {q : Nat} {x y : Int} (h : N[q]? = some y) : decide (x ∈ N.take (q + 1)) = (decide (x ∈ N.take q) || decide (y = x)) := by
  rw [take_snoc' h, Bool.eq_iff_iff]
  simp only [List.mem_append, List.mem_singleton, decide_eq_true_eq, Bool.or_eq_true]
  exact ⟨fun h => h.imp id Eq.symm, fun h => h.imp id Eq.symm⟩

set_option maxRecDepth 100000 in
set_option maxHeartbeats 1000000 in
theorem walk_fnow (A B : Option Addr) (n m c d : Nat) (l : List Stp) (now : Int) (jobs : List Jb) (W : World) (hr : RdP W A n l) (hs : RdQ W B m jobs) (hn : n ≤ 9223372036854775807) (hm : m ≤ 9223372036854775807) (hnc : n ≤ c) (hwf : IdsWf jobs) :
    Calls Try.prog 9 #[.slice A n c, .int .i64 now, .slice B m d] W fun e w' => e = .returned (.bool true) ∧ Ext W w' := by
  have HR := Lib.hid hr; clear hr
  have HS := Lib.hid hs; clear hs
  by_cases hlong : 30 < n
  · skip
    go_enter Try.func9, Try.ntmps9
    have HX : Hid (Ext W W) := Ext.rfl'
    go_wp2_with fail
    refine (known15 _).mono ?_
    rintro e w1 ⟨rfl, hx1⟩
    replace HX := Lib.hid (HX.out.trans' hx1)
    clear hx1
    go_wp2
    (try rw [Exit.noGoto_ret])
    go_ret
    exact ⟨rfl, HX.out⟩
  replace hlong : n ≤ 30 := by omega
  by_cases hlong2 : 20 < m
  · skip
    go_enter Try.func9, Try.ntmps9
    have HX : Hid (Ext W W) := Ext.rfl'
    go_wp2_with fail
    refine (known15 _).mono ?_
    rintro e w1 ⟨rfl, hx1⟩
    replace HX := Lib.hid (HX.out.trans' hx1)
    clear hx1
    go_wp2
    (try rw [Exit.noGoto_ret])
    go_ret
    exact ⟨rfl, HX.out⟩
  replace hlong2 : m ≤ 20 := by omega
  go_enter Try.func9, Try.ntmps9
  have HX : Hid (Ext W W) := Ext.rfl'
  go_wp2_with fail
  refine (fillNow A B n m c d l now jobs _ HR.out HS.out (by omega) (by omega) hnc hwf).mono ?_
  rintro e w1 ⟨A1, m1, c1, rfl, hr1, hx1⟩
  replace HX := Lib.hid (HX.out.trans' hx1)
  replace HR := Lib.hid (HR.out.ext hx1)
  replace HS := Lib.hid (HS.out.ext hx1)
  clear hx1
  have HP1 := Lib.hid hr1
  clear hr1
  go_wp2_with fail
  refine (fillPlaces A B n m c d l now 0 jobs _ HR.out HS.out (by omega) (by omega) hnc hwf (by omega)).mono ?_
  rintro e w2 ⟨A2, m2, c2, rfl, hr2, hc2, hx2⟩
  replace HX := Lib.hid (HX.out.trans' hx2)
  replace HR := Lib.hid (HR.out.ext hx2)
  replace HS := Lib.hid (HS.out.ext hx2)
  replace HP1 := Lib.hid (HP1.out.ext hx2)
  clear hx2
  have HP2 := Lib.hid hr2
  have hm2 : m2 ≤ 20 := by have := plcR_len l now 0 jobs; have := RdL.len HP2.out; have := RdL.len HS.out; omega
  clear hr2 hc2
  obtain rfl : m2 = m1 := by rw [← RdL.len HP1.out, ← RdL.len HP2.out, List.length_map]
  rcases plcN_cases l now 0 jobs with ⟨hC, _, hE⟩ | ⟨hE, hR⟩
  case inr =>
    obtain ⟨E, HE⟩ : ∃ E, plcE l now 0 jobs = E := ⟨_, rfl⟩
    rw [HE] at hE ⊢
    have dE : (E == 0) = false := by simpa using hE
    have dE1 : (E != 0) = true := by simpa using hE
    have dE2 : (E == E) = true := by simp
    have dE3 : (E != E) = false := by simp
    have h1 := HP2.out
    rw [hR] at h1
    obtain rfl : m2 = 0 := (RdL.len h1).symm
    clear h1 HE hR HP1 HP2
    go_wp2_with fail
    refine (known15 _).mono ?_
    rintro e w3 ⟨rfl, hx3⟩
    replace HX := Lib.hid (HX.out.trans' hx3)
    clear hx3
    go_wp2
    (try rw [Exit.noGoto_ret])
    go_ret
    exact ⟨rfl, HX.out⟩
  rw [hE]
  have HC := Lib.hid hC
  have HLE : Hid (l.length + 2 * jobs.length ≤ 19000) := by show _ ≤ _; have := RdL.len HR.out; have := RdL.len HS.out; omega
  have HL := Lib.hid (now_left hC HLE.out 0 (by decide)).1
  have HPF := Lib.hid (now_left hC HLE.out 0 (by decide)).2
  clear hC hE
  go_wp2_with fail
  refine (fillLeft A A2 n m2 c c2 l _ _ HR.out HP2.out (by omega) (by omega) hnc).mono ?_
  rintro e w3 ⟨A3, m3, c3, rfl, hr3, hc3, hx3⟩
  replace HX := Lib.hid (HX.out.trans' hx3)
  replace HR := Lib.hid (HR.out.ext hx3)
  replace HS := Lib.hid (HS.out.ext hx3)
  replace HP1 := Lib.hid (HP1.out.ext hx3)
  replace HP2 := Lib.hid (HP2.out.ext hx3)
  clear hx3
  rw [HL.out] at hr3
  rw [HL.out]
  have HP3 : Hid (RdP w3 A3 m3 (finalP now l 0 (orderJ jobs))) := hr3
  have hm3 : m3 ≤ 100000 := by have h := HPF.out.2.1; rw [← RdL.len HP3.out]; omega
  clear hr3 hc3
  go_wp2_with fail
  refine (refIDs A2 m2 c2 _ _ HP2.out (by omega)).mono ?_
  rintro e w4 ⟨A4, c4, rfl, hr4, hx4⟩
  replace HX := Lib.hid (HX.out.trans' hx4)
  replace HR := Lib.hid (HR.out.ext hx4)
  replace HS := Lib.hid (HS.out.ext hx4)
  replace HP1 := Lib.hid (HP1.out.ext hx4)
  replace HP2 := Lib.hid (HP2.out.ext hx4)
  replace HP3 := Lib.hid (HP3.out.ext hx4)
  clear hx4
  have HP4 := Lib.hid hr4
  clear hr4
  go_wp2_with fail
  refine (refSameIT A1 A4 m2 c1 m2 c4 _ _ HP1.out HP4.out (by omega) (by omega)).mono ?_
  rintro e w5 ⟨rfl, hx5⟩
  replace HX := Lib.hid (HX.out.trans' hx5)
  replace HR := Lib.hid (HR.out.ext hx5)
  replace HS := Lib.hid (HS.out.ext hx5)
  replace HP1 := Lib.hid (HP1.out.ext hx5)
  replace HP2 := Lib.hid (HP2.out.ext hx5)
  replace HP3 := Lib.hid (HP3.out.ext hx5)
  replace HP4 := Lib.hid (HP4.out.ext hx5)
  clear hx5
  obtain ⟨N, HN⟩ : ∃ N, Hid ((plcR l now 0 jobs).map (·.1) = N) := ⟨_, rfl⟩
  rw [HN.out] at HP1
  obtain ⟨fl, HFL⟩ : ∃ fl, Hid (finalP now l 0 (orderJ jobs) = fl) := ⟨_, rfl⟩
  rw [HFL.out] at HP3 HPF
  clear HP2 HP4 HL
  have cn : isT now = true := (chkJ_zero HC.out).1.2.1
  have HPL : Hid (Prof l) := (chkJ_zero HC.out).1.1
  go_wp2
  go_loopw [13] (fun i wr => ∃ k : Nat, k ≤ m ∧ i = .int .i64 k ∧ Ext w5 wr) (fun i _ => m - (intOf i).toNat)
  case atStart => exact ⟨0, by omega, rfl, Ext.rfl'⟩
  case round =>
    obtain ⟨k, hk, rfl, hext⟩ := hrel
    obtain ⟨w6, HW6⟩ : ∃ w6 : World, w6 = wr := ⟨_, rfl⟩
    subst HW6
    have HX6 := Lib.hid hext
    clear hext
    by_cases hlt : k < m
    · obtain ⟨b, off, x1, x2, x3, x4, rfl, hb, hx, hd0, _, hd2, hd3⟩ := RdQ.cut HS.out hlt
      have HM : Hid ((x1, x2, x3, x4) ∈ jobs) := List.mem_of_getElem? hx
      have HJ := Lib.hid ((chkJ_zero HC.out).1.2.2 _ HM.out)
      have HQ : Hid (Req l now 1099511627775 x3 x4) := job_req HPL.out cn HJ.out
      have HQ2 : Hid (Req fl now 1099511627775 x3 x4) := job_req HPF.out cn HJ.out
      replace hd0 := HX6.out.cell' hd0
      replace hd2 := HX6.out.cell' hd2
      replace hd3 := HX6.out.cell' hd3
      have hpp0 : (0 : Int) ≤ (k : Int) := Int.natCast_nonneg _
      have hpp1 : (k : Int) < (m : Int) := by omega
      clear hx
      go_wp2
      go_loopw [14, 15] (fun bv i wr => ∃ (q : Nat) (bb : Bool), q ≤ m2 ∧ bv = .bool bb ∧ i = .int .i64 q ∧ Hid (bb = decide (x1 ∈ N.take q)) ∧ Ext w6 wr) (fun _ i _ => m2 - (intOf i).toNat)
      case atStart => exact ⟨0, false, by omega, rfl, rfl, (by show _ = _; simp), Ext.rfl'⟩
      case round =>
        obtain ⟨q, bb, hq, rfl, rfl, HB, hext⟩ := hrel
        by_cases hqp : q < m2
        · obtain ⟨_, _, y, rfl, _, hy, he0⟩ := RdI.cut HP1.out hqp
          have HBN : Hid ((bb || decide (y = x1)) = decide (x1 ∈ N.take (q + 1))) := by show _ = _; rw [mem_take_next hy, HB.out]
          have hc0 := hext.cell' hd0
          have hc1 := hext.cell' (HX6.out.cell' he0)
          have HXQ : Hid (∀ z, Ext w6 (wr.drewN z)) := fun z => below_drewN' hext z
          have hqq0 : (0 : Int) ≤ (q : Int) := Int.natCast_nonneg _
          have hqq1 : (q : Int) < (m2 : Int) := by omega
          clear hy hext he0
          cases bb with
          | true =>
            go_wp2
            go_quiet (fail)
            go_wp2
            go_roundw
            case rel => exact ⟨q + 1, true, by omega, rfl, by go_num, (by have h : _ = _ := HBN.out; show _ = _; rw [← h]; rfl), HXQ.out _⟩
            case measure => simp [intOf]; omega
          | false =>
            by_cases he : y = x1
            · have d0 : (y == x1) = true := by simpa using he
              have HB2 : Hid (true = decide (x1 ∈ N.take (q + 1))) := by show _ = _; rw [← HBN.out]; simp [he]
              clear he
              go_wp2
              go_quiet (fail)
              go_wp2
              go_roundw
              case rel => exact ⟨q + 1, true, by omega, by simp [d0], by go_num, HB2, HXQ.out _⟩
              case measure => simp [intOf]; omega
            · have d0 : (y == x1) = false := by simpa using he
              have HB2 : Hid (false = decide (x1 ∈ N.take (q + 1))) := by show _ = _; rw [← HBN.out]; simp [he]
              clear he
              go_wp2
              go_quiet (fail)
              go_wp2
              go_roundw
              case rel => exact ⟨q + 1, false, by omega, by simp [d0], by go_num, HB2, HXQ.out _⟩
              case measure => simp [intOf]; omega
        · obtain rfl : q = m2 := by omega
          rw [take_all' (by have := RdL.len HP1.out; exact this) (Nat.le_refl _)] at HB
          have HX7 := Lib.hid (HX6.out.trans' hext)
          replace hd2 := hext.cell' hd2
          replace hd3 := hext.cell' hd3
          clear hext hd0 HX6
          cases bb with
          | true =>
            have HFA : Hid (fitsB l now 1099511627775 x3 x4 now = true) := now_alone HC.out HLE.out HM.out (by rw [HN.out]; exact of_decide_eq_true HB.out.symm)
            go_upto_region 19 with fail
            obtain ⟨w8, hw8⟩ : ∃ w8 : World, wr.alloc (.cells #[.int .i64 now, .int .i64 1099511627775] 61) = w8 := ⟨_, rfl⟩
            rw [hw8]
            obtain ⟨wb, hwb⟩ : ∃ wb : Nat, wr.heap.size = wb := ⟨_, rfl⟩
            have v0 : w8.cell? ⟨wb, 0, none⟩ = some (.int .i64 now) := by rw [← hw8, ← hwb]; simp
            have v1 : w8.cell? ⟨wb, 1, none⟩ = some (.int .i64 1099511627775) := by rw [← hw8, ← hwb]; simp
            have hx8 : Ext wr w8 := by rw [← hw8]; exact (Below.refl _ _).alloc (Nat.le_refl _) _
            have HX8 := Lib.hid (HX7.out.trans' hx8)
            replace hd2 := hx8.cell' hd2
            replace hd3 := hx8.cell' hd3
            rw [hwb]
            clear hw8 hx8 hwb
            obtain ⟨S, hS⟩ : ∃ S, fitsB fl now 1099511627775 x3 x4 now = S := ⟨_, rfl⟩
            have Q1 : Hid (∀ x : ExtW w8, Calls Try.prog 26 #[.slice A n c, .agg #[.int .i64 now, .int .i64 1099511627775], .int .i64 x3, .int .i64 x4, .int .i64 now] x.val fun e w' => e = .returned (.tuple #[.bool true, .int .i64 0]) ∧ Ext x.val w') := fun x => by
              have h := fitFits A n c l now 1099511627775 x3 x4 now x.val (HR.out.ext (HX8.out.trans' x.ext)) (by omega) HQ.out cn
              rw [HFA.out] at h
              exact h
            have c0 := ExtW.cell v0
            have c1' := ExtW.cell v1
            have c2' := ExtW.cell hd2
            have c3' := ExtW.cell hd3
            refine wp_region_ext (by kernel_rfl) (by kernel_rfl) ?_
            repeat (go_big_quiet_step ((go_at_call 26; exact extq (Q1.out _))))
            refine wpQuiet_nil ?_
            rintro w9 ⟨⟨w9', hxq⟩, hww⟩
            obtain rfl : w9 = w9' := hww
            replace v0 := hxq.cell' v0
            replace v1 := hxq.cell' v1
            replace hd2 := hxq.cell' hd2
            replace hd3 := hxq.cell' hd3
            replace HX8 := Lib.hid (HX8.out.trans' hxq)
            clear hxq c0 c1' c2' c3' Q1
            go_wp2
            have Q2 : Hid (∀ x : ExtW w9, Calls Try.prog 26 #[.slice A3 m3 c3, .agg #[.int .i64 now, .int .i64 1099511627775], .int .i64 x3, .int .i64 x4, .int .i64 now] x.val fun e w' => e = .returned (.tuple #[.bool S, .int .i64 0]) ∧ Ext x.val w') := fun x => by
              have h := fitFits A3 m3 c3 fl now 1099511627775 x3 x4 now x.val (HP3.out.ext (HX8.out.trans' x.ext)) (by omega) HQ2.out cn
              rw [hS] at h
              exact h
            clear hS
            have c0 := ExtW.cell v0
            have c1' := ExtW.cell v1
            have c2' := ExtW.cell hd2
            have c3' := ExtW.cell hd3
            refine wp_region_ext (by kernel_rfl) (by kernel_rfl) ?_
            repeat (go_big_quiet_step ((go_at_call 26; exact extq (Q2.out _))))
            refine wpQuiet_nil ?_
            rintro w10 ⟨⟨w10', hxq⟩, hww⟩
            obtain rfl : w10 = w10' := hww
            replace v0 := hxq.cell' v0
            replace v1 := hxq.cell' v1
            replace hd2 := hxq.cell' hd2
            replace hd3 := hxq.cell' hd3
            replace HX8 := Lib.hid (HX8.out.trans' hxq)
            clear hxq c0 c1' c2' c3' Q2
            clear v0 v1 hd2 hd3
            go_wp2
            go_roundw
            case rel => exact ⟨k + 1, by omega, by go_num, HX8.out⟩
            case measure => simp [intOf]; omega
          | false =>
            have HFS : Hid (fitsB fl now 1099511627775 x3 x4 now = false) := by
              show _ = _
              rw [← HFL.out]
              exact now_still HC.out HLE.out HM.out (by rw [HN.out]; exact of_decide_eq_false HB.out.symm)
            go_upto_region 19 with fail
            obtain ⟨w8, hw8⟩ : ∃ w8 : World, wr.alloc (.cells #[.int .i64 now, .int .i64 1099511627775] 61) = w8 := ⟨_, rfl⟩
            rw [hw8]
            obtain ⟨wb, hwb⟩ : ∃ wb : Nat, wr.heap.size = wb := ⟨_, rfl⟩
            have v0 : w8.cell? ⟨wb, 0, none⟩ = some (.int .i64 now) := by rw [← hw8, ← hwb]; simp
            have v1 : w8.cell? ⟨wb, 1, none⟩ = some (.int .i64 1099511627775) := by rw [← hw8, ← hwb]; simp
            have hx8 : Ext wr w8 := by rw [← hw8]; exact (Below.refl _ _).alloc (Nat.le_refl _) _
            have HX8 := Lib.hid (HX7.out.trans' hx8)
            replace hd2 := hx8.cell' hd2
            replace hd3 := hx8.cell' hd3
            rw [hwb]
            clear hw8 hx8 hwb
            obtain ⟨S, hS⟩ : ∃ S, fitsB l now 1099511627775 x3 x4 now = S := ⟨_, rfl⟩
            have Q1 : Hid (∀ x : ExtW w8, Calls Try.prog 26 #[.slice A n c, .agg #[.int .i64 now, .int .i64 1099511627775], .int .i64 x3, .int .i64 x4, .int .i64 now] x.val fun e w' => e = .returned (.tuple #[.bool S, .int .i64 0]) ∧ Ext x.val w') := fun x => by
              have h := fitFits A n c l now 1099511627775 x3 x4 now x.val (HR.out.ext (HX8.out.trans' x.ext)) (by omega) HQ.out cn
              rw [hS] at h
              exact h
            have c0 := ExtW.cell v0
            have c1' := ExtW.cell v1
            have c2' := ExtW.cell hd2
            have c3' := ExtW.cell hd3
            refine wp_region_ext (by kernel_rfl) (by kernel_rfl) ?_
            repeat (go_big_quiet_step ((go_at_call 26; exact extq (Q1.out _))))
            refine wpQuiet_nil ?_
            rintro w9 ⟨⟨w9', hxq⟩, hww⟩
            obtain rfl : w9 = w9' := hww
            replace v0 := hxq.cell' v0
            replace v1 := hxq.cell' v1
            replace hd2 := hxq.cell' hd2
            replace hd3 := hxq.cell' hd3
            replace HX8 := Lib.hid (HX8.out.trans' hxq)
            clear hxq c0 c1' c2' c3' Q1
            go_wp2
            have Q2 : Hid (∀ x : ExtW w9, Calls Try.prog 26 #[.slice A3 m3 c3, .agg #[.int .i64 now, .int .i64 1099511627775], .int .i64 x3, .int .i64 x4, .int .i64 now] x.val fun e w' => e = .returned (.tuple #[.bool false, .int .i64 0]) ∧ Ext x.val w') := fun x => by
              have h := fitFits A3 m3 c3 fl now 1099511627775 x3 x4 now x.val (HP3.out.ext (HX8.out.trans' x.ext)) (by omega) HQ2.out cn
              rw [HFS.out] at h
              exact h
            clear hS
            have c0 := ExtW.cell v0
            have c1' := ExtW.cell v1
            have c2' := ExtW.cell hd2
            have c3' := ExtW.cell hd3
            refine wp_region_ext (by kernel_rfl) (by kernel_rfl) ?_
            repeat (go_big_quiet_step ((go_at_call 26; exact extq (Q2.out _))))
            refine wpQuiet_nil ?_
            rintro w10 ⟨⟨w10', hxq⟩, hww⟩
            obtain rfl : w10 = w10' := hww
            replace v0 := hxq.cell' v0
            replace v1 := hxq.cell' v1
            replace hd2 := hxq.cell' hd2
            replace hd3 := hxq.cell' hd3
            replace HX8 := Lib.hid (HX8.out.trans' hxq)
            clear hxq c0 c1' c2' c3' Q2
            clear v0 v1 hd2 hd3
            go_wp2
            go_roundw
            case rel => exact ⟨k + 1, by omega, by go_num, HX8.out⟩
            case measure => simp [intOf]; omega
    · replace HX := Lib.hid (HX.out.trans' HX6.out)
      go_wp2_with fail
      refine (known15 _).mono ?_
      rintro e w7 ⟨rfl, hx7⟩
      replace HX := Lib.hid (HX.out.trans' hx7)
      clear hx7
      go_wp2
      (try rw [Exit.noGoto_ret])
      go_ret
      exact ⟨rfl, HX.out⟩
end Go.Proofs.Ytbcpjdjlgmhohaa
