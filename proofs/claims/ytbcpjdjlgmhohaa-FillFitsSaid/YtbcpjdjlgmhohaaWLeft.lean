/-
  Walks: what is left without what is laid, by the program and by the document. Conditions: none.
-/
import Derived.Test.YtbcpjdjlgmhohaaMPP
import Derived.Test.YtbcpjdjlgmhohaaWPlcR
namespace Go.Proofs.Ytbcpjdjlgmhohaa
open Go.RowKit
set_option linter.unusedVariables false
set_option linter.unusedSimpArgs false

def GivesLeft (l : List Stp) (ss : List Slt) (w : World) (e : Ending) (w' : World) : Prop := ∃ A m c, e = .returned (.tuple #[.slice A m c, .int .i64 (leftA l ss).2]) ∧ RdP w' A m (leftA l ss).1 ∧ m ≤ c ∧ Ext w w'

set_option maxHeartbeats 1000000 in
theorem fillLeft_bad (A B : Option Addr) (n m c d : Nat) (l : List Stp) (ss : List Slt) (w : World) (hr : RdP w A n l) (hn : n ≤ 9000) (hbad : ¬ Prof l) :
    Calls Try.prog 22 #[.slice A n c, .slice B m d] w (GivesLeft l ss w) := by
  have HR := Lib.hid hr; clear hr
  have HE := Lib.hid (left_bad (ss := ss) hbad)
  have HC : Hid (chkE l = 2) := chkE_f hbad
  clear hbad
  go_enter Try.func22, Try.ntmps22
  go_wp2_with fail
  refine (stepsCheck A n c l _ HR.out (by omega)).mono ?_
  rintro e w1 ⟨rfl, hx1⟩
  have HX := Lib.hid hx1; clear hx1
  rw [HC.out]
  go_wp2
  (try rw [Exit.noGoto_ret])
  go_ret2
  exact ⟨none, 0, 0, by rw [HE.out]; rfl, by rw [HE.out]; exact rdP_none _, Nat.le_refl _, HX.out⟩

set_option maxHeartbeats 1000000 in
theorem refLeft_bad (A B : Option Addr) (n m c d : Nat) (l : List Stp) (ss : List Slt) (w : World) (hr : RdP w A n l) (hn : n ≤ 9000) (hbad : ¬ Prof l) :
    Calls Try.prog 23 #[.slice A n c, .slice B m d] w (GivesLeft l ss w) := by
  have HR := Lib.hid hr; clear hr
  have HE := Lib.hid (left_bad (ss := ss) hbad)
  have HC : Hid (chkE l = 2) := chkE_f hbad
  clear hbad
  go_enter Try.func23, Try.ntmps23
  go_wp2_with fail
  refine (refCheck A n c l _ HR.out (by omega)).mono ?_
  rintro e w1 ⟨rfl, hx1⟩
  have HX := Lib.hid hx1; clear hx1
  rw [HC.out]
  go_wp2
  (try rw [Exit.noGoto_ret])
  go_ret2
  exact ⟨none, 0, 0, by rw [HE.out]; rfl, by rw [HE.out]; exact rdP_none _, Nat.le_refl _, HX.out⟩

set_option maxRecDepth 100000 in
set_option maxHeartbeats 8000000 in
theorem fillLeft_ok (A B : Option Addr) (n m c d : Nat) (l : List Stp) (ss : List Slt) (w : World) (hr : RdP w A n l) (hs : RdQ w B m ss) (hn : n ≤ 9000) (hm : m ≤ 4000) (hnc : n ≤ c) (hp : Prof l) :
    Calls Try.prog 22 #[.slice A n c, .slice B m d] w (GivesLeft l ss w) := by
  have HR := Lib.hid hr; clear hr
  have HS := Lib.hid hs; clear hs
  have HE := Lib.hid (left_prof (ss := ss) hp)
  have HC : Hid (chkE l = 0) := chkE_t hp
  have HP := Lib.hid hp
  clear hp
  go_enter Try.func22, Try.ntmps22
  go_wp2_with fail
  refine (stepsCheck A n c l _ HR.out (by omega)).mono ?_
  rintro e w0 ⟨rfl, hx0⟩
  have HX0 := Lib.hid hx0; clear hx0
  rw [HC.out]
  go_wp2_with fail
  refine (cloneP A n c l _ (HR.out.ext HX0.out) (by omega)).mono ?_
  rintro e w1 ⟨v1, rfl, hown1, hx1⟩
  obtain ⟨A1, c1, rfl, hc1, hr1⟩ := RdL.of_own encP_len hown1 (RdL.len HR.out)
  have HR1 : Hid (RdP w1 A1 n l) := hr1
  have HX1 := Lib.hid (HX0.out.trans' hx1)
  clear hown1 hr1 hx1
  replace HS := Lib.hid (HS.out.ext HX1.out)
  go_wp2
  go_loopw [7, 21] (fun so i wr => ∃ (q : Nat) (Al : Option Addr) (nl cl : Nat) (lq : List Stp), q ≤ m ∧ i = .int .i64 q ∧ so = .slice Al nl cl ∧ Hid (LfInv l ss q lq) ∧ RdP wr Al nl lq ∧ nl ≤ cl ∧ Ext w1 wr) (fun _ i _ => m - (intOf i).toNat)
  case atStart => exact ⟨0, A1, n, c1, l, by omega, rfl, rfl, lf_start HP.out, HR1.out, hc1, Ext.rfl'⟩
  case round =>
    obtain ⟨q, Al, nl, cl, lq, hq, rfl, rfl, HI, hrd, hcl, hext⟩ := hrel
    have hnl : nl ≤ 9000 + 2 * q := by have := HI.out.len; have := RdL.len hrd; have := RdL.len HR.out; omega
    have hll : lq.length ≤ 19000 := by have := RdL.len hrd; omega
    by_cases hlt : q < m
    · obtain ⟨b, off, x1, x2, x3, x4, rfl, hb, hx, hd0, hd1, hd2, hd3⟩ := RdQ.cut HS.out hlt
      have Hq := Lib.hid hx
      replace hd0 := hext.cell' hd0
      replace hd1 := hext.cell' hd1
      replace hd2 := hext.cell' hd2
      replace hd3 := hext.cell' hd3
      have hi0' : (0 : Int) ≤ (q : Int) := Int.natCast_nonneg _
      have hi1 : (q : Int) < (m : Int) := by omega
      clear hx
      go_upto_region 8 with fail
      clear hd0 hd1 hd2 hd3
      obtain ⟨w4, hw4⟩ : ∃ w4 : World, wr.alloc (.cells #[.int .i64 x1, .int .i64 x2, .int .i64 x3, .int .i64 x4] 57) = w4 := ⟨_, rfl⟩
      rw [hw4]
      obtain ⟨jb, hjb⟩ : ∃ jb : Nat, wr.heap.size = jb := ⟨_, rfl⟩
      have hx4 : Ext wr w4 := by rw [← hw4]; exact (Below.refl _ _).alloc (Nat.le_refl _) _
      have j0 : w4.cell? ⟨jb, 0, none⟩ = some (.int .i64 x1) := by rw [← hw4, ← hjb]; simp
      have j1 : w4.cell? ⟨jb, 1, none⟩ = some (.int .i64 x2) := by rw [← hw4, ← hjb]; simp
      have j2 : w4.cell? ⟨jb, 2, none⟩ = some (.int .i64 x3) := by rw [← hw4, ← hjb]; simp
      have j3 : w4.cell? ⟨jb, 3, none⟩ = some (.int .i64 x4) := by rw [← hw4, ← hjb]; simp
      have HRq := Lib.hid (RdL.ext hrd hx4)
      have HXq := Lib.hid (Ext.trans' hext hx4)
      rw [hjb]
      clear hw4 hx4 hjb hrd hext
      by_cases cn1 : x4 < -10000
      · have HEE := Lib.hid (lf_node HI.out Hq.out fun h => by have h1 := h.1; have h2 := h.2; simp only at h1 h2; omega)
        have HX6 := Lib.hid (HX1.out.trans' HXq.out)
        go_wp2
        (try rw [Exit.noGoto_ret])
        go_ret2
        exact ⟨none, 0, 0, by rw [HE.out, HEE.out]; rfl, by rw [HE.out, HEE.out]; exact rdP_none _, Nat.le_refl _, HX6.out⟩
      by_cases cn2 : 10000 < x4
      · have HEE := Lib.hid (lf_node HI.out Hq.out fun h => by have h1 := h.1; have h2 := h.2; simp only at h1 h2; omega)
        have HX6 := Lib.hid (HX1.out.trans' HXq.out)
        go_wp2
        (try rw [Exit.noGoto_ret])
        go_ret2
        exact ⟨none, 0, 0, by rw [HE.out, HEE.out]; rfl, by rw [HE.out, HEE.out]; exact rdP_none _, Nat.le_refl _, HX6.out⟩
      have n0 : -10000 ≤ x4 := by omega
      have n1 : x4 ≤ 10000 := by omega
      have hneg : IntKind.i64.wrap (-x4) = -x4 := IntWalk.i64_in _ (by omega)
      by_cases hz : sE lq (x1, x2, x3, x4) = 0
      · have HZ : Hid (addE lq x2 x3 (-x4) = 0) := hz
        have HI2 := Lib.hid (lf_next HI.out Hq.out ⟨n0, n1⟩ hz hll)
        have hlen2 : (sR lq (x1, x2, x3, x4)).length ≤ nl + 2 := by have := (sE_ok hz hll).2; have := RdL.len HRq.out; omega
        clear hz
        go_wp2_with fail
        refine (stepsAdd Al nl cl lq x2 x3 (-x4) _ HRq.out (by omega) hcl).mono ?_
        rintro e w6 ⟨A6, m6, c6, rfl, hr6, hc6, hx6⟩
        rw [HZ.out]
        have HR6 := Lib.hid hr6
        have hm6 : m6 ≤ nl + 2 := by rw [← RdL.len hr6]; exact hlen2
        clear hlen2
        have HC6 := Lib.hid hc6
        have HX6 := Lib.hid (HXq.out.trans' hx6)
        clear hr6 hc6 hx6
        clear hneg
        go_wp2
        go_roundw
        case rel => exact ⟨q + 1, A6, m6, c6, sR lq (x1, x2, x3, x4), by omega, by go_num, rfl, HI2, HR6.out, HC6.out, HX6.out⟩
        case measure => simp [intOf]; omega
      · have HEE := Lib.hid (lf_err HI.out Hq.out ⟨n0, n1⟩ hz)
        obtain ⟨z, HZ⟩ : ∃ z, Hid (addE lq x2 x3 (-x4) = z) := ⟨_, rfl⟩
        have hzz : sE lq (x1, x2, x3, x4) = z := HZ.out
        rw [hzz] at hz HEE
        have dz : (z != 0) = true := by rw [bne_iff_ne]; exact hz
        clear hz hzz
        go_wp2_with fail
        refine (stepsAdd Al nl cl lq x2 x3 (-x4) _ HRq.out (by omega) hcl).mono ?_
        rintro e w6 ⟨A6, m6, c6, rfl, hr6, hc6, hx6⟩
        rw [HZ.out]
        have HX6 := Lib.hid (HX1.out.trans' (HXq.out.trans' hx6))
        clear hr6 hc6 hx6 hneg
        go_wp2
        (try rw [Exit.noGoto_ret])
        go_ret2
        exact ⟨none, 0, 0, by rw [HE.out, HEE.out]; rfl, by rw [HE.out, HEE.out]; exact rdP_none _, Nat.le_refl _, HX6.out⟩
    · have HEE := Lib.hid (lf_end HI.out (by rw [RdL.len HS.out]; omega))
      have HR9 : Hid (RdP wr Al nl (leftA l ss).1) := by show RdP _ _ _ _; rw [HE.out, HEE.out]; exact hrd
      have HX9 := Lib.hid (HX1.out.trans' hext)
      clear hrd hext
      go_wp2
      (try rw [Exit.noGoto_ret])
      go_ret2
      exact ⟨Al, nl, cl, by rw [HE.out, HEE.out]; rfl, HR9.out, hcl, HX9.out⟩
theorem fillLeft (A B : Option Addr) (n m c d : Nat) (l : List Stp) (ss : List Slt) (w : World) (hr : RdP w A n l) (hs : RdQ w B m ss) (hn : n ≤ 9000) (hm : m ≤ 4000) (hnc : n ≤ c) :
    Calls Try.prog 22 #[.slice A n c, .slice B m d] w (GivesLeft l ss w) := by
  by_cases h : Prof l
  · exact fillLeft_ok A B n m c d l ss w hr hs hn hm hnc h
  · exact fillLeft_bad A B n m c d l ss w hr hn h

set_option maxRecDepth 100000 in
set_option maxHeartbeats 8000000 in
theorem refLeft_ok (A B : Option Addr) (n m c d : Nat) (l : List Stp) (ss : List Slt) (w : World) (hr : RdP w A n l) (hs : RdQ w B m ss) (hn : n ≤ 9000) (hm : m ≤ 4000) (hnc : n ≤ c) (hp : Prof l) :
    Calls Try.prog 23 #[.slice A n c, .slice B m d] w (GivesLeft l ss w) := by
  have HR := Lib.hid hr; clear hr
  have HS := Lib.hid hs; clear hs
  have HE := Lib.hid (left_prof (ss := ss) hp)
  have HC : Hid (chkE l = 0) := chkE_t hp
  have HP := Lib.hid hp
  clear hp
  go_enter Try.func23, Try.ntmps23
  go_wp2_with fail
  refine (refCheck A n c l _ HR.out (by omega)).mono ?_
  rintro e w0 ⟨rfl, hx0⟩
  have HX0 := Lib.hid hx0; clear hx0
  rw [HC.out]
  obtain ⟨w1, HW1⟩ : ∃ w1 : World, w1 = w0 := ⟨_, rfl⟩
  subst HW1
  have HR1 : Hid (RdP w1 A n l) := HR.out.ext HX0.out
  have HX1 := HX0
  have hc1 := hnc
  replace HS := Lib.hid (HS.out.ext HX1.out)
  go_wp2
  go_loopw [0, 7] (fun so i wr => ∃ (q : Nat) (Al : Option Addr) (nl cl : Nat) (lq : List Stp), q ≤ m ∧ i = .int .i64 q ∧ so = .slice Al nl cl ∧ Hid (LfInv l ss q lq) ∧ RdP wr Al nl lq ∧ nl ≤ cl ∧ Ext w1 wr) (fun _ i _ => m - (intOf i).toNat)
  case atStart => exact ⟨0, A, n, c, l, by omega, rfl, rfl, lf_start HP.out, HR1.out, hc1, Ext.rfl'⟩
  case round =>
    obtain ⟨q, Al, nl, cl, lq, hq, rfl, rfl, HI, hrd, hcl, hext⟩ := hrel
    have hnl : nl ≤ 9000 + 2 * q := by have := HI.out.len; have := RdL.len hrd; have := RdL.len HR.out; omega
    have hll : lq.length ≤ 19000 := by have := RdL.len hrd; omega
    by_cases hlt : q < m
    · obtain ⟨b, off, x1, x2, x3, x4, rfl, hb, hx, hd0, hd1, hd2, hd3⟩ := RdQ.cut HS.out hlt
      have Hq := Lib.hid hx
      replace hd0 := hext.cell' hd0
      replace hd1 := hext.cell' hd1
      replace hd2 := hext.cell' hd2
      replace hd3 := hext.cell' hd3
      have hi0' : (0 : Int) ≤ (q : Int) := Int.natCast_nonneg _
      have hi1 : (q : Int) < (m : Int) := by omega
      clear hx
      have HRq := Lib.hid hrd
      have HXq := Lib.hid hext
      clear hrd hext
      by_cases cn2 : 10000 < x4
      · have HEE := Lib.hid (lf_node HI.out Hq.out fun h => by have h1 := h.1; have h2 := h.2; simp only at h1 h2; omega)
        have HX6 := Lib.hid (HX1.out.trans' HXq.out)
        go_wp2
        (try rw [Exit.noGoto_ret])
        go_ret2
        exact ⟨none, 0, 0, by rw [HE.out, HEE.out]; rfl, by rw [HE.out, HEE.out]; exact rdP_none _, Nat.le_refl _, HX6.out⟩
      by_cases cn1 : x4 < -10000
      · have HEE := Lib.hid (lf_node HI.out Hq.out fun h => by have h1 := h.1; have h2 := h.2; simp only at h1 h2; omega)
        have HX6 := Lib.hid (HX1.out.trans' HXq.out)
        go_wp2
        (try rw [Exit.noGoto_ret])
        go_ret2
        exact ⟨none, 0, 0, by rw [HE.out, HEE.out]; rfl, by rw [HE.out, HEE.out]; exact rdP_none _, Nat.le_refl _, HX6.out⟩
      have n0 : -10000 ≤ x4 := by omega
      have n1 : x4 ≤ 10000 := by omega
      have hneg : IntKind.i64.wrap (-x4) = -x4 := IntWalk.i64_in _ (by omega)
      by_cases hz : sE lq (x1, x2, x3, x4) = 0
      · have HZ : Hid (addE lq x2 x3 (-x4) = 0) := hz
        have HI2 := Lib.hid (lf_next HI.out Hq.out ⟨n0, n1⟩ hz hll)
        have hlen2 : (sR lq (x1, x2, x3, x4)).length ≤ nl + 2 := by have := (sE_ok hz hll).2; have := RdL.len HRq.out; omega
        clear hz
        go_wp2_with fail
        go_region_held3 (fun w' => w'.cell? ⟨b, off + q * 4 + 1, none⟩ = some (.int .i64 x2) ∧ w'.cell? ⟨b, off + q * 4 + 2, none⟩ = some (.int .i64 x3) ∧ w'.cell? ⟨b, off + q * 4 + 3, none⟩ = some (.int .i64 x4))
          (first | go_keep | exact ⟨hx6.cell' hd1, hx6.cell' hd2, hx6.cell' hd3⟩)
          (first
            | (go_at_call 31; refine (refAdd Al nl cl lq x2 x3 (-x4) _ (RdL.drew' HRq.out) (by omega)).mono ?_; rintro e w6 ⟨A6, m6, c6, rfl, hr6, hc6, hx6⟩; rw [HZ.out]))
        replace hx6 := (show Ext wr w6 from ⟨hx6.os, hx6.tape, hx6.output, hx6.size, hx6.block⟩)
        have HR6 := Lib.hid hr6
        have hm6 : m6 ≤ nl + 2 := by rw [← RdL.len hr6]; exact hlen2
        clear hlen2
        have HC6 := Lib.hid hc6
        have HX6 := Lib.hid (HXq.out.trans' hx6)
        clear hr6 hc6 hx6
        clear hneg
        go_wp2
        go_roundw
        case rel => exact ⟨q + 1, A6, m6, c6, sR lq (x1, x2, x3, x4), by omega, by go_num, rfl, HI2, HR6.out, HC6.out, HX6.out⟩
        case measure => simp [intOf]; omega
      · have HEE := Lib.hid (lf_err HI.out Hq.out ⟨n0, n1⟩ hz)
        obtain ⟨z, HZ⟩ : ∃ z, Hid (addE lq x2 x3 (-x4) = z) := ⟨_, rfl⟩
        have hzz : sE lq (x1, x2, x3, x4) = z := HZ.out
        rw [hzz] at hz HEE
        have dz : (z != 0) = true := by rw [bne_iff_ne]; exact hz
        clear hz hzz
        go_wp2_with fail
        go_region_held3 (fun w' => w'.cell? ⟨b, off + q * 4 + 1, none⟩ = some (.int .i64 x2) ∧ w'.cell? ⟨b, off + q * 4 + 2, none⟩ = some (.int .i64 x3) ∧ w'.cell? ⟨b, off + q * 4 + 3, none⟩ = some (.int .i64 x4))
          (first | go_keep | exact ⟨hx6.cell' hd1, hx6.cell' hd2, hx6.cell' hd3⟩)
          (first
            | (go_at_call 31; refine (refAdd Al nl cl lq x2 x3 (-x4) _ (RdL.drew' HRq.out) (by omega)).mono ?_; rintro e w6 ⟨A6, m6, c6, rfl, hr6, hc6, hx6⟩; rw [HZ.out]))
        replace hx6 := (show Ext wr w6 from ⟨hx6.os, hx6.tape, hx6.output, hx6.size, hx6.block⟩)
        have HX6 := Lib.hid (HX1.out.trans' (HXq.out.trans' hx6))
        clear hr6 hc6 hx6 hneg
        go_wp2
        (try rw [Exit.noGoto_ret])
        go_ret2
        exact ⟨none, 0, 0, by rw [HE.out, HEE.out]; rfl, by rw [HE.out, HEE.out]; exact rdP_none _, Nat.le_refl _, HX6.out⟩
    · have HEE := Lib.hid (lf_end HI.out (by rw [RdL.len HS.out]; omega))
      have HR9 : Hid (RdP wr Al nl (leftA l ss).1) := by show RdP _ _ _ _; rw [HE.out, HEE.out]; exact hrd
      have HX9 := Lib.hid (HX1.out.trans' hext)
      clear hrd hext
      go_wp2
      (try rw [Exit.noGoto_ret])
      go_ret2
      exact ⟨Al, nl, cl, by rw [HE.out, HEE.out]; rfl, HR9.out, hcl, HX9.out⟩
theorem refLeft (A B : Option Addr) (n m c d : Nat) (l : List Stp) (ss : List Slt) (w : World) (hr : RdP w A n l) (hs : RdQ w B m ss) (hn : n ≤ 9000) (hm : m ≤ 4000) (hnc : n ≤ c) :
    Calls Try.prog 23 #[.slice A n c, .slice B m d] w (GivesLeft l ss w) := by
  by_cases h : Prof l
  · exact refLeft_ok A B n m c d l ss w hr hs hn hm hnc h
  · exact refLeft_bad A B n m c d l ss w hr hn h
end Go.Proofs.Ytbcpjdjlgmhohaa
