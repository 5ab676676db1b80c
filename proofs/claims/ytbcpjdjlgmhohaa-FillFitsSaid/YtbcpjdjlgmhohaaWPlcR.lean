/-
  Walk: who begins now, and who has a place kept, by the document. Conditions: none.
-/
import Derived.Test.YtbcpjdjlgmhohaaWPlc
import Derived.Test.YtbcpjdjlgmhohaaWChkJR
import Derived.Test.YtbcpjdjlgmhohaaWOrdR
import Derived.Test.YtbcpjdjlgmhohaaWRAdd
import Derived.Test.YtbcpjdjlgmhohaaWFits
namespace Go.Proofs.Ytbcpjdjlgmhohaa
open Go.RowKit
set_option linter.unusedVariables false
set_option linter.unusedSimpArgs false

set_option maxRecDepth 100000 in
set_option maxHeartbeats 2000000 in
theorem refPlaces_bad (A B : Option Addr) (n m c d : Nat) (l : List Stp) (now deep : Int) (jobs : List Jb) (w : World) (hr : RdP w A n l) (hs : RdQ w B m jobs) (hn : n ≤ 9000) (hm : m ≤ 5000) (hbad : ¬ (chkJ l now jobs = 0 ∧ ¬ deep < 0)) :
    Calls Try.prog 12 #[.slice A n c, .int .i64 now, .int .i64 deep, .slice B m d] w (GivesPl l now deep jobs w) := by
  have HR := Lib.hid hr; clear hr
  have HS := Lib.hid hs; clear hs
  by_cases hc : chkJ l now jobs = 0
  · have HC := Lib.hid hc
    have hd : deep < 0 := by
      rcases Int.lt_or_le deep 0 with h | h
      · exact h
      · exact absurd ⟨hc, by omega⟩ hbad
    have HE := Lib.hid (plc_deep hc hd)
    have d0 : decide (deep < 0) = true := decide_eq_true hd
    clear hc hd hbad
    go_enter Try.func12, Try.ntmps12
    go_wp2_with fail
    refine (refChkJ A B n m c d l now jobs _ HR.out HS.out (by omega) (by omega)).mono ?_
    rintro e w1 ⟨rfl, hx1⟩
    have HX := Lib.hid hx1; clear hx1
    rw [HC.out]
    go_wp2
    (try rw [Exit.noGoto_ret])
    go_ret2
    exact ⟨none, 0, 0, by rw [HE.out.1]; rfl, by rw [HE.out.2]; exact rdQ_none _, Nat.le_refl _, HX.out⟩
  · have HE := Lib.hid (plc_bad (deep := deep) hc)
    obtain ⟨z, HZ⟩ : ∃ z, Hid (chkJ l now jobs = z) := ⟨_, rfl⟩
    have dz : (z != 0) = true := by rw [bne_iff_ne]; intro h; exact hc (HZ.out.trans h)
    rw [HZ.out] at HE
    clear hc hbad
    go_enter Try.func12, Try.ntmps12
    go_wp2_with fail
    refine (refChkJ A B n m c d l now jobs _ HR.out HS.out (by omega) (by omega)).mono ?_
    rintro e w1 ⟨rfl, hx1⟩
    have HX := Lib.hid hx1; clear hx1
    rw [HZ.out]
    go_wp2
    (try rw [Exit.noGoto_ret])
    go_ret2
    exact ⟨none, 0, 0, by rw [HE.out.1]; rfl, by rw [HE.out.2]; exact rdQ_none _, Nat.le_refl _, HX.out⟩

set_option maxRecDepth 100000 in
set_option maxHeartbeats 16000000 in
theorem refPlaces_ok (A B : Option Addr) (n m c d : Nat) (l : List Stp) (now deep : Int) (jobs : List Jb) (w : World) (hr : RdP w A n l) (hs : RdQ w B m jobs) (hn : n ≤ 9000) (hm : m ≤ 4000) (hnc : n ≤ c) (hc : chkJ l now jobs = 0) (hd : ¬ deep < 0) (hdw : deep ≤ 9223372036854775807) :
    Calls Try.prog 12 #[.slice A n c, .int .i64 now, .int .i64 deep, .slice B m d] w (GivesPl l now deep jobs w) := by
  have HR := Lib.hid hr; clear hr
  have HS := Lib.hid hs; clear hs
  have HC := Lib.hid hc
  have HE := Lib.hid (plc_ok hc hd)
  obtain ⟨⟨hp, cn, hjo⟩, _⟩ := chkJ_zero hc
  have HP := Lib.hid hp
  have HJO : Hid (∀ j ∈ orderJ jobs, JobOk j) := fun j hj => hjo j (isort_mem.1 hj)
  obtain ⟨now0, now1⟩ := (isT_iff now).1 cn
  have d0 : decide (deep < 0) = false := decide_eq_false hd
  obtain ⟨i0, hi0, hz0, hz1, hz2⟩ := info_parts Try.infoSlot
  have hn1 : 0 < n := by have := hp.1; have := RdL.len HR.out; omega
  clear hc hp hjo
  go_enter Try.func12, Try.ntmps12
  go_wp2_with fail
  refine (refChkJ A B n m c d l now jobs _ HR.out HS.out (by omega) (by omega)).mono ?_
  rintro e w1 ⟨rfl, hx1⟩
  have HX1 := Lib.hid hx1; clear hx1
  rw [HC.out]
  replace HS := Lib.hid (HS.out.ext HX1.out)
  go_wp2_with fail
  obtain ⟨w2, hw2⟩ : ∃ w2 : World, w1.alloc (.cells #[.int .i64 now, .int .i64 1099511627775] 61) = w2 := ⟨_, rfl⟩
  rw [hw2]
  obtain ⟨wb, hwb⟩ : ∃ wb : Nat, w1.heap.size = wb := ⟨_, rfl⟩
  have v0 : w2.cell? ⟨wb, 0, none⟩ = some (.int .i64 now) := by rw [← hw2, ← hwb]; simp
  have v1 : w2.cell? ⟨wb, 1, none⟩ = some (.int .i64 1099511627775) := by rw [← hw2, ← hwb]; simp
  have hx2 : Ext w1 w2 := by rw [← hw2]; exact (Below.refl _ _).alloc (Nat.le_refl _) _
  replace HS := Lib.hid (HS.out.ext hx2)
  have HX2 := Lib.hid (HX1.out.trans' hx2)
  rw [hwb]
  clear hw2 hx2 hwb
  refine (refOrder B m d jobs _ HS.out (by omega)).mono ?_
  rintro e wB ⟨Bo, co, rfl, hro, hco, hx3⟩
  rw [RdL.len HS.out] at hro ⊢
  obtain ⟨o, Ho⟩ : ∃ o, Hid (orderJ jobs = o) := ⟨_, rfl⟩
  rw [Ho.out] at hro HJO HE
  have HRO : Hid (RdQ wB Bo m o) := hro
  have HXB := Lib.hid (HX2.out.trans' hx3)
  replace v0 := hx3.cell' v0
  replace v1 := hx3.cell' v1
  have HRS0 : Hid (RdS wB.heap.size wB A n c l) := ⟨HR.out.ext HXB.out, hnc, .inl fun b off h => by
    obtain ⟨b', off', _, _, hA, hb, _⟩ := RdP.cut HR.out (k := 0) hn1
    rw [hA] at h
    injection h with h
    injection h with h1 _ _
    have := HXB.out.size
    omega⟩
  clear hco hro hx3 HX1 HX2
  go_wp2
  go_loopw [0, 2, 11, 14] (fun sl sd so i wr => ∃ (q : Nat) (Al : Option Addr) (nl cl : Nat) (dq : Int) (lq : List Stp) (O : List Slt), q ≤ m ∧ i = .int .i64 q ∧ sl = .slice Al nl cl ∧ sd = .int .i64 dq ∧ Hid (PlInv l now deep o q lq dq O) ∧ RdS wB.heap.size wr Al nl cl lq ∧ wr.ownsRow wB.heap.size 57 4 so O.length (flat encQ O) ∧ Ext wB wr) (fun _ _ _ i _ => m - (intOf i).toNat)
  case atStart => exact ⟨0, A, n, c, deep, l, [], by omega, rfl, rfl, rfl, pl_start HP.out (by omega), HRS0.out, by simpa [flat] using World.ownsRow_nil _ _ _ _, Ext.rfl'⟩
  case round =>
    obtain ⟨q, Al, nl, cl, dq, lq, O, hq, rfl, rfl, rfl, HI, hrs, hown, hext⟩ := hrel
    obtain ⟨L, HL⟩ : ∃ L, Hid (O.length = L) := ⟨_, rfl⟩
    obtain ⟨F, HF⟩ : ∃ F, Hid (flat encQ O = F) := ⟨_, rfl⟩
    rw [HL.out, HF.out] at hown
    have hLq : L ≤ q := by have := HI.out.olen; rwa [HL.out] at this
    have hnl : nl ≤ 9000 + 2 * q := by have := HI.out.len; have := RdL.len hrs.1; have := RdL.len HR.out; omega
    by_cases hlt : q < m
    · obtain ⟨b, off, x1, x2, x3, x4, rfl, hb, hx, hd0, hd1, hd2, hd3⟩ := RdQ.cut HRO.out hlt
      have Hq := Lib.hid hx
      have HJ := Lib.hid (HJO.out _ (List.mem_of_getElem? hx))
      have hjb := HJ.out
      obtain ⟨_, _, _, jn0, jn1, jw0, jw⟩ := hjb
      simp only at jn0 jn1 jw0 jw
      obtain ⟨_, jw1⟩ := (isT_iff x4).1 jw
      replace hd0 := hext.cell' hd0
      replace hd1 := hext.cell' hd1
      replace hd2 := hext.cell' hd2
      replace hd3 := hext.cell' hd3
      have u0 := hext.cell' v0
      have u1 := hext.cell' v1
      have hll : lq.length ≤ 19000 := by have := RdL.len hrs.1; omega
      have HRS1 := Lib.hid hrs
      have HOW1 := Lib.hid hown
      have Hext1 := Lib.hid hext
      have hi0' : (0 : Int) ≤ (q : Int) := Int.natCast_nonneg _
      have hi1 : (q : Int) < (m : Int) := by omega
      have hdq := HI.out.deep
      obtain ⟨dq0, dq1⟩ := hdq
      clear hx hrs hown hext
      go_upto_region 14 with fail
      clear hd0 hd1 hd2 hd3
      obtain ⟨w4, hw4⟩ : ∃ w4 : World, wr.alloc (.cells #[.int .i64 x1, .int .i64 x2, .int .i64 x3, .int .i64 x4] 45) = w4 := ⟨_, rfl⟩
      rw [hw4]
      obtain ⟨jb, hjb⟩ : ∃ jb : Nat, wr.heap.size = jb := ⟨_, rfl⟩
      have hx4 : Ext wr w4 := by rw [← hw4]; exact (Below.refl _ _).alloc (Nat.le_refl _) _
      have j0 : w4.cell? ⟨jb, 0, none⟩ = some (.int .i64 x1) := by rw [← hw4, ← hjb]; simp
      have j1 : w4.cell? ⟨jb, 1, none⟩ = some (.int .i64 x2) := by rw [← hw4, ← hjb]; simp
      have j2 : w4.cell? ⟨jb, 2, none⟩ = some (.int .i64 x3) := by rw [← hw4, ← hjb]; simp
      have j3 : w4.cell? ⟨jb, 3, none⟩ = some (.int .i64 x4) := by rw [← hw4, ← hjb]; simp
      have HNE : Hid (u11.ownBlock ≠ some jb) := fun e => by have := (HOW1.out.lt _ e).2; omega
      have HRS := Lib.hid (HRS1.out.ext hx4)
      have HOW := Lib.hid (own_ext HOW1.out hx4)
      have HXr := Lib.hid (Hext1.out.trans' hx4)
      replace u0 := hx4.cell' u0
      replace u1 := hx4.cell' u1
      rw [hjb]
      clear hw4 hx4 hjb HRS1 HOW1 Hext1
      clear v0 v1
      have v0 := u0
      have v1 := u1
      clear u0 u1
      cases hfb : fitsN lq now (x1, x2, x3, x4) now with
      | true =>
        have HFB : Hid (fitsB lq now 1099511627775 x3 x4 now = true) := hfb
        have HI2 := Lib.hid (pl_fits HI.out Hq.out cn HJ.out hll hfb)
        obtain ⟨_, ra, rb⟩ := fits_room HI.out.prof cn HJ.out ((fitsB_iff _ _ _ _ _ _).1 hfb)
        have HAO := Lib.hid (add_ok ra rb)
        have t0 := now0
        have t1 := now1
        have tw := ((fitsB_iff _ _ _ _ _ _).1 hfb).2.1
        clear hfb ra rb
        go_wp2_with fail
        refine (refFits Al nl cl lq now 1099511627775 x3 x4 now _ HRS.out.1 (by omega) HI.out.prof now0 (by omega) ⟨by omega, jw1⟩ (by omega)).mono ?_
        rintro e w1 ⟨rfl, hx1⟩
        replace j0 := hx1.cell' j0
        replace j1 := hx1.cell' j1
        replace j2 := hx1.cell' j2
        replace j3 := hx1.cell' j3
        replace v0 := hx1.cell' v0
        replace v1 := hx1.cell' v1
        replace HRS := Lib.hid (HRS.out.ext hx1)
        replace HOW := Lib.hid (own_ext HOW.out hx1)
        replace HXr := Lib.hid (HXr.out.trans' hx1)
        clear hx1
        rw [HFB.out]
        have hge : decide (now ≥ 0) = true := decide_eq_true (by omega)
        go_upto_region 21 with (at_builtin; refine wpList_append_lies _ rfl _ _ _ rfl wB.heap.size 57 i0 _ 4 32 Try.underlying25 hi0 hz0 hz1 hz2 rfl (by omega) _ L F rfl (World.ownsRow.alloc HOW.out _) ⟨w1.heap.size, 0, none⟩ 1 1 [.int .i64 x1, .int .i64 now, .int .i64 (now + x4), .int .i64 x3] rfl rfl (World.news_of_block (cs := #[.int .i64 x1, .int .i64 now, .int .i64 (now + x4), .int .i64 x3]) (t := 57) (fr := (0, 0)) (heap_alloc_new w1 _)) (by simp [Value.oneCell']) (by omega) (by simp only [maxLen]; omega) (by omega) (by have := HXr.out.size; simp; omega) (w1.heap.size + 1) (by simp) ?_; intro gg cap w5 hown1 hgrow hat hlt2; have Hown1 := Lib.hid hown1; have Hgrow := Lib.hid hgrow; have Hat := Lib.hid hat; clear hown1 hgrow hat)
        have HK5 : Hid (∀ (o : Nat) (z : Value), w1.cell? ⟨jb, o, none⟩ = some z → w5.cell? ⟨jb, o, none⟩ = some z) := fun o z h => by
          have h1 := Ext.cell' (show Ext w1 (w1.alloc (.cells #[.int .i64 x1, .int .i64 now, .int .i64 (now + x4), .int .i64 x3] 57)) from (Below.refl _ _).alloc (Nat.le_refl _) _) h
          rw [Hgrow.out.cell_far _ (World.block_lt_of_cell? _ _ h1) (fun e => HNE.out e.symm)]
          exact h1
        have HO5 : Hid (w5.ownsRow wB.heap.size 57 4 (.slice (some ⟨gg, 0, none⟩) (L + 1) cap) (O ++ [slotOf (x1, x2, x3, x4) now]).length (flat encQ (O ++ [slotOf (x1, x2, x3, x4) now]))) := by
          show World.ownsRow _ _ _ _ _ _ _
          rw [List.length_append, HL.out, flat_append, HF.out]
          exact Hown1.out
        have HS5 : Hid (RdS wB.heap.size w5 Al nl cl lq) := (HRS.out.ext ((Below.refl _ _).alloc (Nat.le_refl _) _)).kept (HOW.out.alloc _) (Nat.le_refl _) (by decide) Hgrow.out
        have HX5 : Hid (Ext wB w5) := (HXr.out.alloc HXr.out.size _).grown Hgrow.out (by have := HXr.out.size; simp; omega) (fun z hz => (HOW.out.lt z hz).1)
        replace j2 := HK5.out _ _ j2
        replace j3 := HK5.out _ _ j3
        clear Hown1 Hgrow Hat HK5 HRS HOW HXr v0 v1 j0 j1 hge
        go_wp2_with fail
        refine (refAddO Al nl cl lq now (now + x4) (-x3) _ HS5.out.1 (by omega)).mono ?_
        rintro e w6 ⟨v6, rfl, hown6, hx6⟩
        replace j2 := hx6.cell' j2
        replace j3 := hx6.cell' j3
        replace HS5 := Lib.hid (HS5.out.ext hx6)
        replace HO5 := Lib.hid (own_ext HO5.out hx6)
        replace HX5 := Lib.hid (HX5.out.trans' hx6)
        clear hx6
        rw [HAO.out.2] at hown6
        have hm6 : (laid lq (x1, x2, x3, x4) now).length ≤ nl + 2 := by have := addL_len (l := lq) (f := now) (t := now + x4) (k := -x3); have := RdL.len HS5.out.1; unfold laid; simp only; omega
        obtain ⟨A6, c6, rfl, hc6, hr6⟩ := RdL.of_own encP_len hown6 rfl
        have HR6 : Hid (RdS wB.heap.size w6 A6 (laid lq (x1, x2, x3, x4) now).length c6 (laid lq (x1, x2, x3, x4) now)) := ⟨hr6, hc6, .inr ⟨_, hown6⟩⟩
        obtain ⟨m6, HM6⟩ : ∃ m6, Hid ((laid lq (x1, x2, x3, x4) now).length = m6) := ⟨_, rfl⟩
        have hm6' : (addL lq now (now + x4) (-x3)).length = m6 := HM6.out
        rw [hm6']
        rw [HM6.out] at HR6 hm6
        clear hown6 hc6 hr6 hm6'
        rw [HAO.out.1]
        go_wp2
        go_roundw
        case rel => exact ⟨q + 1, A6, m6, c6, dq, laid lq (x1, x2, x3, x4) now, O ++ [slotOf (x1, x2, x3, x4) now], by omega, by go_num, rfl, rfl, HI2, HR6.out, HO5.out, HX5.out⟩
        case measure => simp [intOf]; omega
      | false =>
        have HFB : Hid (fitsB lq now 1099511627775 x3 x4 now = false) := hfb
        by_cases hdz : dq = 0
        · have HI2 := Lib.hid (pl_none HI.out Hq.out hfb hdz)
          have dd : decide (dq > 0) = false := decide_eq_false (by omega)
          clear hfb hdz
          go_wp2_with fail
          refine (refFits Al nl cl lq now 1099511627775 x3 x4 now _ HRS.out.1 (by omega) HI.out.prof now0 (by omega) ⟨by omega, jw1⟩ (by omega)).mono ?_
          rintro e w1 ⟨rfl, hx1⟩
          replace j0 := hx1.cell' j0
          replace j1 := hx1.cell' j1
          replace j2 := hx1.cell' j2
          replace j3 := hx1.cell' j3
          replace v0 := hx1.cell' v0
          replace v1 := hx1.cell' v1
          replace HRS := Lib.hid (HRS.out.ext hx1)
          replace HOW := Lib.hid (own_ext HOW.out hx1)
          replace HXr := Lib.hid (HXr.out.trans' hx1)
          clear hx1
          rw [HFB.out]
          go_wp2
          go_roundw
          case rel => exact ⟨q + 1, Al, nl, cl, dq, lq, O, by omega, by go_num, rfl, rfl, HI2, HRS.out, by rw [HL.out, HF.out]; exact HOW.out, HXr.out⟩
          case measure => simp [intOf]; omega
        · have dd : decide (dq > 0) = true := decide_eq_true (by omega)
          have hdz1 : 1 ≤ dq := by omega
          have hfr := first_r HI.out.prof cn HJ.out
          by_cases hfn : firstN lq now (x1, x2, x3, x4) < 0
          · have HI2 := Lib.hid (pl_nowhere HI.out Hq.out hfb hdz hfn)
            obtain ⟨ft, HFR⟩ : ∃ ft, Hid (firstF lq now 1099511627775 x3 x4 = ft) := ⟨_, rfl⟩
            have hneg : ft < 0 := by rw [← HFR.out]; exact hfn
            have dge : decide (ft ≥ 0) = false := decide_eq_false (by omega)
            clear hfb hdz hfr hfn
            go_wp2_with fail
            refine (refFits Al nl cl lq now 1099511627775 x3 x4 now _ HRS.out.1 (by omega) HI.out.prof now0 (by omega) ⟨by omega, jw1⟩ (by omega)).mono ?_
            rintro e w1 ⟨rfl, hx1⟩
            replace j0 := hx1.cell' j0
            replace j1 := hx1.cell' j1
            replace j2 := hx1.cell' j2
            replace j3 := hx1.cell' j3
            replace v0 := hx1.cell' v0
            replace v1 := hx1.cell' v1
            replace HRS := Lib.hid (HRS.out.ext hx1)
            replace HOW := Lib.hid (own_ext HOW.out hx1)
            replace HXr := Lib.hid (HXr.out.trans' hx1)
            clear hx1
            rw [HFB.out]
            go_wp2_with fail
            refine (refFirst Al nl cl lq now 1099511627775 x3 x4 _ HRS.out.1 (by omega) HI.out.prof ⟨now0, now1⟩ (by omega) ⟨by omega, jw1⟩).mono ?_
            rintro e w2 ⟨rfl, hx2⟩
            replace j0 := hx2.cell' j0
            replace j1 := hx2.cell' j1
            replace j2 := hx2.cell' j2
            replace j3 := hx2.cell' j3
            replace v0 := hx2.cell' v0
            replace v1 := hx2.cell' v1
            replace HRS := Lib.hid (HRS.out.ext hx2)
            replace HOW := Lib.hid (own_ext HOW.out hx2)
            replace HXr := Lib.hid (HXr.out.trans' hx2)
            clear hx2
            rw [HFR.out]
            go_wp2
            go_roundw
            case rel => exact ⟨q + 1, Al, nl, cl, (dq - 1), lq, O, by omega, by go_num, rfl, by first | rfl | go_num, HI2, HRS.out, by rw [HL.out, HF.out]; exact HOW.out, HXr.out⟩
            case measure => simp [intOf]; omega
          · have HI2 := Lib.hid (pl_kept HI.out Hq.out cn HJ.out hll hfb hdz hfn)
            have hff := first_fits HI.out.prof cn HJ.out hfn
            obtain ⟨ra0, ra, rb⟩ := fits_room HI.out.prof cn HJ.out hff
            have tw := hff.2.1
            simp only at ra0 ra rb tw
            obtain ⟨ft, HFT⟩ : ∃ ft, Hid (firstN lq now (x1, x2, x3, x4) = ft) := ⟨_, rfl⟩
            rw [HFT.out] at HI2 ra0 ra rb tw
            have HFR : Hid (firstF lq now 1099511627775 x3 x4 = ft) := HFT.out
            have HAO := Lib.hid (add_ok ra rb)
            have t0 : 0 ≤ ft := by omega
            have t1 : ft ≤ 1099511627775 := by omega
            clear hfb hdz hfr hfn hff ra rb ra0
            go_wp2_with fail
            refine (refFits Al nl cl lq now 1099511627775 x3 x4 now _ HRS.out.1 (by omega) HI.out.prof now0 (by omega) ⟨by omega, jw1⟩ (by omega)).mono ?_
            rintro e w1 ⟨rfl, hx1⟩
            replace j0 := hx1.cell' j0
            replace j1 := hx1.cell' j1
            replace j2 := hx1.cell' j2
            replace j3 := hx1.cell' j3
            replace v0 := hx1.cell' v0
            replace v1 := hx1.cell' v1
            replace HRS := Lib.hid (HRS.out.ext hx1)
            replace HOW := Lib.hid (own_ext HOW.out hx1)
            replace HXr := Lib.hid (HXr.out.trans' hx1)
            clear hx1
            rw [HFB.out]
            go_wp2_with fail
            refine (refFirst Al nl cl lq now 1099511627775 x3 x4 _ HRS.out.1 (by omega) HI.out.prof ⟨now0, now1⟩ (by omega) ⟨by omega, jw1⟩).mono ?_
            rintro e w2 ⟨rfl, hx2⟩
            replace j0 := hx2.cell' j0
            replace j1 := hx2.cell' j1
            replace j2 := hx2.cell' j2
            replace j3 := hx2.cell' j3
            replace v0 := hx2.cell' v0
            replace v1 := hx2.cell' v1
            replace HRS := Lib.hid (HRS.out.ext hx2)
            replace HOW := Lib.hid (own_ext HOW.out hx2)
            replace HXr := Lib.hid (HXr.out.trans' hx2)
            clear hx2
            rw [HFR.out]
            have hge : decide (ft ≥ 0) = true := decide_eq_true (by omega)
            go_upto_region 21 with (at_builtin; refine wpList_append_lies _ rfl _ _ _ rfl wB.heap.size 57 i0 _ 4 32 Try.underlying25 hi0 hz0 hz1 hz2 rfl (by omega) _ L F rfl (World.ownsRow.alloc HOW.out _) ⟨w2.heap.size, 0, none⟩ 1 1 [.int .i64 x1, .int .i64 ft, .int .i64 (ft + x4), .int .i64 x3] rfl rfl (World.news_of_block (cs := #[.int .i64 x1, .int .i64 ft, .int .i64 (ft + x4), .int .i64 x3]) (t := 57) (fr := (0, 0)) (heap_alloc_new w2 _)) (by simp [Value.oneCell']) (by omega) (by simp only [maxLen]; omega) (by omega) (by have := HXr.out.size; simp; omega) (w2.heap.size + 1) (by simp) ?_; intro gg cap w5 hown1 hgrow hat hlt2; have Hown1 := Lib.hid hown1; have Hgrow := Lib.hid hgrow; have Hat := Lib.hid hat; clear hown1 hgrow hat)
            have HK5 : Hid (∀ (o : Nat) (z : Value), w2.cell? ⟨jb, o, none⟩ = some z → w5.cell? ⟨jb, o, none⟩ = some z) := fun o z h => by
              have h1 := Ext.cell' (show Ext w2 (w2.alloc (.cells #[.int .i64 x1, .int .i64 ft, .int .i64 (ft + x4), .int .i64 x3] 57)) from (Below.refl _ _).alloc (Nat.le_refl _) _) h
              rw [Hgrow.out.cell_far _ (World.block_lt_of_cell? _ _ h1) (fun e => HNE.out e.symm)]
              exact h1
            have HO5 : Hid (w5.ownsRow wB.heap.size 57 4 (.slice (some ⟨gg, 0, none⟩) (L + 1) cap) (O ++ [slotOf (x1, x2, x3, x4) ft]).length (flat encQ (O ++ [slotOf (x1, x2, x3, x4) ft]))) := by
              show World.ownsRow _ _ _ _ _ _ _
              rw [List.length_append, HL.out, flat_append, HF.out]
              exact Hown1.out
            have HS5 : Hid (RdS wB.heap.size w5 Al nl cl lq) := (HRS.out.ext ((Below.refl _ _).alloc (Nat.le_refl _) _)).kept (HOW.out.alloc _) (Nat.le_refl _) (by decide) Hgrow.out
            have HX5 : Hid (Ext wB w5) := (HXr.out.alloc HXr.out.size _).grown Hgrow.out (by have := HXr.out.size; simp; omega) (fun z hz => (HOW.out.lt z hz).1)
            replace j2 := HK5.out _ _ j2
            replace j3 := HK5.out _ _ j3
            clear Hown1 Hgrow Hat HK5 HRS HOW HXr v0 v1 j0 j1 hge
            go_wp2_with fail
            refine (refAddO Al nl cl lq ft (ft + x4) (-x3) _ HS5.out.1 (by omega)).mono ?_
            rintro e w6 ⟨v6, rfl, hown6, hx6⟩
            replace j2 := hx6.cell' j2
            replace j3 := hx6.cell' j3
            replace HS5 := Lib.hid (HS5.out.ext hx6)
            replace HO5 := Lib.hid (own_ext HO5.out hx6)
            replace HX5 := Lib.hid (HX5.out.trans' hx6)
            clear hx6
            rw [HAO.out.2] at hown6
            have hm6 : (laid lq (x1, x2, x3, x4) ft).length ≤ nl + 2 := by have := addL_len (l := lq) (f := ft) (t := ft + x4) (k := -x3); have := RdL.len HS5.out.1; unfold laid; simp only; omega
            obtain ⟨A6, c6, rfl, hc6, hr6⟩ := RdL.of_own encP_len hown6 rfl
            have HR6 : Hid (RdS wB.heap.size w6 A6 (laid lq (x1, x2, x3, x4) ft).length c6 (laid lq (x1, x2, x3, x4) ft)) := ⟨hr6, hc6, .inr ⟨_, hown6⟩⟩
            obtain ⟨m6, HM6⟩ : ∃ m6, Hid ((laid lq (x1, x2, x3, x4) ft).length = m6) := ⟨_, rfl⟩
            have hm6' : (addL lq ft (ft + x4) (-x3)).length = m6 := HM6.out
            rw [hm6']
            rw [HM6.out] at HR6 hm6
            clear hown6 hc6 hr6 hm6'
            rw [HAO.out.1]
            go_wp2
            go_roundw
            case rel => exact ⟨q + 1, A6, m6, c6, (dq - 1), laid lq (x1, x2, x3, x4) ft, O ++ [slotOf (x1, x2, x3, x4) ft], by omega, by go_num, rfl, by first | rfl | go_num, HI2, HR6.out, HO5.out, HX5.out⟩
            case measure => simp [intOf]; omega
    · have HOE : Hid (O = placesF now l deep o) := pl_end HI.out (by rw [RdL.len HRO.out]; omega)
      obtain ⟨A9, c9, rfl, hc9, hr9⟩ := RdL.of_own encQ_len (l := O) (by rw [HF.out]; exact hown) HL.out
      have HR9 : Hid (RdQ wr A9 L (plcR l now deep jobs)) := by show RdQ _ _ _ _; rw [HE.out.2, ← HOE.out]; exact hr9
      have HX9 := Lib.hid (HXB.out.trans' hext)
      clear hr9 hown hrs hext
      go_wp2
      (try rw [Exit.noGoto_ret])
      go_ret2
      exact ⟨A9, L, c9, by rw [HE.out.1]; rfl, HR9.out, hc9, HX9.out⟩
theorem refPlaces (A B : Option Addr) (n m c d : Nat) (l : List Stp) (now deep : Int) (jobs : List Jb) (w : World) (hr : RdP w A n l) (hs : RdQ w B m jobs) (hn : n ≤ 9000) (hm : m ≤ 4000) (hnc : n ≤ c) (hdw : deep ≤ 9223372036854775807) :
    Calls Try.prog 12 #[.slice A n c, .int .i64 now, .int .i64 deep, .slice B m d] w (GivesPl l now deep jobs w) := by
  by_cases h : chkJ l now jobs = 0 ∧ ¬ deep < 0
  · exact refPlaces_ok A B n m c d l now deep jobs w hr hs hn hm hnc h.1 h.2 hdw
  · exact refPlaces_bad A B n m c d l now deep jobs w hr hs hn (by omega) h
end Go.Proofs.Ytbcpjdjlgmhohaa
