/-
  Walks: the sum of two profiles, by the program and by the document. Conditions: none.
-/
import Derived.Test.YtggfepphjaohiaaPSum
import Derived.Test.YtggfepphjaohiaaWArea
import Derived.Test.YtggfepphjaohiaaWAdd
import Derived.Test.YtggfepphjaohiaaWMost
namespace Go.Proofs.Ytggfepphjaohiaa
open Go.RowKit
set_option linter.unusedVariables false
set_option linter.unusedSimpArgs false

def GivesSum (l r : List Stp) (w : World) (e : Ending) (w' : World) : Prop := ∃ A m c, e = .returned (.tuple #[.slice A m c, .int .i64 (sumE l r)]) ∧ RdP w' A m (sumR l r) ∧ m ≤ c ∧ Ext w w'

set_option maxHeartbeats 1000000 in
theorem refSum_bad (A B : Option Addr) (n m c d : Nat) (l r : List Stp) (w : World) (hr : RdP w A n l) (hs : RdP w B m r) (hn : n ≤ 9000) (hm : m ≤ 9000) (hbad : ¬ SumArg l r) :
    Calls Try.prog 28 #[.slice A n c, .slice B m d] w (GivesSum l r w) := by
  have HR := Lib.hid hr; clear hr
  have HS := Lib.hid hs; clear hs
  have HE := Lib.hid (sum_bad (l := l) (m := r) fun h => hbad h.1)
  rcases chkE_cases l with ⟨hp, hc⟩ | ⟨hp, hc⟩
  case inr =>
    have HC := Lib.hid hc; clear hc hbad hp
    go_enter Try.func28, Try.ntmps28
    go_wp2_with fail
    refine (refCheck A n c l _ HR.out (by omega)).mono ?_
    rintro e w1 ⟨rfl, hx1⟩
    have Hx1 := Lib.hid hx1; clear hx1
    rw [HC.out]
    go_wp2
    (try rw [Exit.noGoto_ret])
    go_ret2
    exact ⟨none, 0, 0, by rw [HE.out.1]; rfl, by rw [HE.out.2]; exact rdP_none _, Nat.le_refl _, Hx1.out⟩
  have HC := Lib.hid hc; clear hc
  rcases chkE_cases r with ⟨hp2, hc2⟩ | ⟨hp2, hc2⟩
  · exact absurd ⟨hp, hp2⟩ hbad
  have HC2 := Lib.hid hc2; clear hc2 hbad hp hp2
  go_enter Try.func28, Try.ntmps28
  go_wp2_with fail
  refine (refCheck A n c l _ HR.out (by omega)).mono ?_
  rintro e w1 ⟨rfl, hx1⟩
  have Hx1 := Lib.hid hx1; clear hx1
  rw [HC.out]
  go_wp2_with fail
  refine (refCheck B m d r _ (HS.out.ext Hx1.out) (by omega)).mono ?_
  rintro e w2 ⟨rfl, hx2⟩
  have Hx2 := Lib.hid (Hx1.out.trans' hx2); clear hx2
  rw [HC2.out]
  go_wp2
  (try rw [Exit.noGoto_ret])
  go_ret2
  exact ⟨none, 0, 0, by rw [HE.out.1]; rfl, by rw [HE.out.2]; exact rdP_none _, Nat.le_refl _, Hx2.out⟩

set_option maxHeartbeats 1000000 in
theorem stepsSum_bad (A B : Option Addr) (n m c d : Nat) (l r : List Stp) (w : World) (hr : RdP w A n l) (hs : RdP w B m r) (hn : n ≤ 9000) (hm : m ≤ 9000) (hbad : ¬ SumArg l r) :
    Calls Try.prog 27 #[.slice A n c, .slice B m d] w (GivesSum l r w) := by
  have HR := Lib.hid hr; clear hr
  have HS := Lib.hid hs; clear hs
  have HE := Lib.hid (sum_bad (l := l) (m := r) fun h => hbad h.1)
  rcases chkE_cases l with ⟨hp, hc⟩ | ⟨hp, hc⟩
  case inr =>
    have HC := Lib.hid hc; clear hc hbad hp
    go_enter Try.func27, Try.ntmps27
    go_wp2_with fail
    refine (stepsCheck A n c l _ HR.out (by omega)).mono ?_
    rintro e w1 ⟨rfl, hx1⟩
    have Hx1 := Lib.hid hx1; clear hx1
    rw [HC.out]
    go_wp2
    (try rw [Exit.noGoto_ret])
    go_ret2
    exact ⟨none, 0, 0, by rw [HE.out.1]; rfl, by rw [HE.out.2]; exact rdP_none _, Nat.le_refl _, Hx1.out⟩
  have HC := Lib.hid hc; clear hc
  rcases chkE_cases r with ⟨hp2, hc2⟩ | ⟨hp2, hc2⟩
  · exact absurd ⟨hp, hp2⟩ hbad
  have HC2 := Lib.hid hc2; clear hc2 hbad hp hp2
  go_enter Try.func27, Try.ntmps27
  go_wp2_with fail
  refine (stepsCheck A n c l _ HR.out (by omega)).mono ?_
  rintro e w1 ⟨rfl, hx1⟩
  have Hx1 := Lib.hid hx1; clear hx1
  rw [HC.out]
  go_wp2_with fail
  refine (stepsCheck B m d r _ (HS.out.ext Hx1.out) (by omega)).mono ?_
  rintro e w2 ⟨rfl, hx2⟩
  have Hx2 := Lib.hid (Hx1.out.trans' hx2); clear hx2
  rw [HC2.out]
  go_wp2
  (try rw [Exit.noGoto_ret])
  go_ret2
  exact ⟨none, 0, 0, by rw [HE.out.1]; rfl, by rw [HE.out.2]; exact rdP_none _, Nat.le_refl _, Hx2.out⟩

set_option maxRecDepth 100000 in
set_option maxHeartbeats 8000000 in
theorem refSum_ok (A B : Option Addr) (n m c d : Nat) (l r : List Stp) (w : World) (hr : RdP w A n l) (hs : RdP w B m r) (hn : n ≤ 9000) (hm : m ≤ 9000) (hok : SumArg l r) :
    Calls Try.prog 28 #[.slice A n c, .slice B m d] w (GivesSum l r w) := by
  have HR := Lib.hid hr; clear hr
  have HS := Lib.hid hs; clear hs
  have HAA := Lib.hid hok
  have HC := Lib.hid (chkE_t hok.1)
  have HC2 := Lib.hid (chkE_t hok.2)
  have HPF := Lib.hid hok.1.free
  have HPF2 := Lib.hid hok.2.free
  clear hok
  go_enter Try.func28, Try.ntmps28
  go_wp2_with fail
  refine (refCheck A n c l _ HR.out (by omega)).mono ?_
  rintro e w1 ⟨rfl, hx1⟩
  have Hx1 := Lib.hid hx1; clear hx1
  rw [HC.out]
  go_wp2_with fail
  refine (refCheck B m d r _ (HS.out.ext Hx1.out) (by omega)).mono ?_
  rintro e w2 ⟨rfl, hx2⟩
  have Hx2 := Lib.hid (Hx1.out.trans' hx2); clear hx2 Hx1
  rw [HC2.out]
  go_wp2_with fail
  refine (refTimes9 A B n m c d l r 0 0 _ (HR.out.ext Hx2.out) (HS.out.ext Hx2.out) (by omega) (by omega)).mono ?_
  rintro e w3 ⟨C, cc, rfl, hr2, hx2⟩
  obtain ⟨ts, Hts⟩ : ∃ ts, Hid (timesR l r 0 0 = ts) := ⟨_, rfl⟩
  obtain ⟨N, HN0⟩ : ∃ N, Hid (ts.length = N) := ⟨_, rfl⟩
  rw [Hts.out, HN0.out] at hr2
  rw [Hts.out, HN0.out]
  have hNle : N ≤ 18002 := by
    have h1 := timesR_len l r 0 0
    have h2 := RdL.len HR.out
    have h3 := RdL.len HS.out
    rw [Hts.out, HN0.out] at h1
    omega
  have HT := Lib.hid hr2
  have HX2 := Lib.hid (Hx2.out.trans' hx2)
  clear hr2 hx2 Hx2
  obtain ⟨w1, HW1⟩ : ∃ w1 : World, w1 = w3 := ⟨_, rfl⟩
  subst HW1
  replace HR := Lib.hid (HR.out.ext HX2.out)
  replace HS := Lib.hid (HS.out.ext HX2.out)
  go_wp2
  go_loopw [6, 8] (fun v i wr => ∃ q : Nat, q ≤ N ∧ i = .int .i64 q ∧ wr.ownsRow w1.heap.size 48 2 v (tid (samp (gSum l r) (ts.take q))).length (flat encP (tid (samp (gSum l r) (ts.take q)))) ∧ Hid (∀ y ∈ ts.take q, gSum l r y ≤ 10000) ∧ Ext w1 wr) (fun _ i _ => N - (intOf i).toNat)
  case atStart => exact ⟨0, by omega, rfl, by simpa [flat, samp, tid] using World.ownsRow_nil _ _ _ _, (fun y hy => by simp at hy), Ext.rfl'⟩
  case round =>
    obtain ⟨q, hq, rfl, hown, HRO, hext⟩ := hrel
    obtain ⟨O, HO⟩ : ∃ O, Hid (tid (samp (gSum l r) (ts.take q)) = O) := ⟨_, rfl⟩
    obtain ⟨L, HL⟩ : ∃ L, Hid (O.length = L) := ⟨_, rfl⟩
    rw [HO.out, HL.out] at hown
    have hLq : L ≤ q := by
      have h1 := tid_len (samp (gSum l r) (ts.take q))
      rw [samp_len, HO.out, HL.out] at h1
      have := List.length_take_le q ts
      omega
    have HOW := Lib.hid hown
    have Hext := Lib.hid hext
    clear hown hext
    by_cases hlt : q < N
    · obtain ⟨bb, off, x, rfl, _, hx, hd0⟩ := RdI.cut HT.out (k := q) hlt
      replace hd0 := Hext.out.cell' hd0
      have Hx := Lib.hid hx
      obtain ⟨z, HZ⟩ : ∃ z, Hid (freeT l x = z) := ⟨_, rfl⟩
      obtain ⟨y, HY⟩ : ∃ y, Hid (freeT r x = y) := ⟨_, rfl⟩
      have hz : 0 ≤ z ∧ z ≤ 10000 := by have := HPF.out x; rwa [HZ.out] at this
      have hy : 0 ≤ y ∧ y ≤ 10000 := by have := HPF2.out x; rwa [HY.out] at this
      obtain ⟨z0, z1⟩ := hz
      obtain ⟨y0, y1⟩ := hy
      have HG : Hid (gSum l r x = z + y) := by show _ = _; unfold gSum; rw [HZ.out, HY.out]
      have hi0' : (0 : Int) ≤ (q : Int) := Int.natCast_nonneg _
      have hi1 : (q : Int) < (N : Int) := by omega
      have HRq := Lib.hid (HR.out.ext Hext.out)
      have HSq := Lib.hid (HS.out.ext Hext.out)
      have Q1 : Hid (∀ p, Calls Try.prog 36 #[.slice A n c, .int .i64 x] (wr.drewN p) fun e w'' => e = .returned (.int .i64 z) ∧ ∃ q, w'' = wr.drewN q) := fun p => quietL (refFreeV HZ.out A _ _ _ (HRq.out.drewN' _) (by omega))
      have Q2 : Hid (∀ p, Calls Try.prog 36 #[.slice B m d, .int .i64 x] (wr.drewN p) fun e w'' => e = .returned (.int .i64 y) ∧ ∃ q, w'' = wr.drewN q) := fun p => quietL (refFreeV HY.out B _ _ _ (HSq.out.drewN' _) (by omega))
      have e1 : IntKind.i64.wrap (z + y) = z + y := IntWalk.i64_in _ (by omega)
      have HXQ : Hid (∀ p, Ext w1 (wr.drewN p)) := fun p => below_drewN' Hext.out p
      have HOQ : Hid (∀ p, (wr.drewN p).ownsRow w1.heap.size 48 2 u6 L (flat encP O)) := fun p => HOW.out
      clear hx
      by_cases hr0 : z + y ≤ 10000
      · have HRN : Hid (∀ p ∈ ts.take (q + 1), gSum l r p ≤ 10000) := fun p hp => by
          rw [take_snoc' Hx.out] at hp
          rcases List.mem_append.1 hp with hp | hp
          · exact HRO.out p hp
          · simp at hp; subst hp; rw [HG.out]; exact hr0
        have HN : Hid (tid (samp (gSum l r) (ts.take (q + 1))) = pushT O (x, z + y)) := by
          show _ = _
          rw [take_snoc' Hx.out, samp_snoc, tid_snoc, HG.out, HO.out]
        go_wp2
        go_quiet ((first | (go_at_call 36; with_reducible exact Q1.out _) | (go_at_call 36; with_reducible exact Q2.out _)))
        clear e1
        generalize hw4 : World.drewN _ nq = w4
        have HX4 : Hid (Ext w1 w4) := by show Ext _ _; rw [← hw4]; exact HXQ.out _
        have HO4 : Hid (w4.ownsRow w1.heap.size 48 2 u6 L (flat encP O)) := by show World.ownsRow _ _ _ _ _ _ _; rw [← hw4]; exact HOQ.out _
        have hd4 : w4.cell? ⟨bb, off + q, none⟩ = some (.int .i64 x) := by rw [← hw4]; simpa using hd0
        clear hw4
        go_wp2_with fail
        refine (refPush w1.heap.size _ L O x (z + y) _ HO4.out HL.out (by omega) HX4.out.size).mono ?_
        rintro e w5 ⟨v', rfl, hown5, hb5⟩
        have HO5 := Lib.hid hown5
        have HX5 : Hid (Ext w1 w5) := hb5 _ HX4.out
        clear hown5 hb5
        go_wp2
        go_roundw
        case rel => exact ⟨q + 1, by omega, by go_num, by rw [HN.out]; exact HO5.out, HRN, HX5.out⟩
        case measure => simp [intOf]; omega
      · have HE := Lib.hid (sum_bad (l := l) (m := r) fun h => hr0 (by
          have h0 := h.2 x (times_nonneg2 HAA.out x (by rw [Hts.out]; exact List.mem_of_getElem? Hx.out))
          rwa [HG.out] at h0))
        have hgt : decide (z + y > 10000) = true := by simp; omega
        go_wp2
        go_quiet ((first | (go_at_call 36; with_reducible exact Q1.out _) | (go_at_call 36; with_reducible exact Q2.out _)))
        go_wp2
        (try rw [Exit.noGoto_ret])
        go_ret2
        exact ⟨none, 0, 0, by rw [HE.out.1]; rfl, by rw [HE.out.2]; exact rdP_none _, Nat.le_refl _, HX2.out.trans' (HXQ.out _)⟩
    · obtain rfl : q = N := by omega
      have HE : Hid (ts.take q = ts) := take_all' HN0.out (Nat.le_refl _)
      have HRm : Hid (SumRoom l r) := sum_room_times.2 (by rw [Hts.out]; intro x hx _; have := HRO.out; rw [HE.out] at this; exact this x hx)
      have HF := Lib.hid (sum_ok HAA.out HRm.out)
      have HOL : Hid (O = sumL l r) := by show _ = _; rw [← HO.out, HE.out, ← Hts.out]; rfl
      obtain ⟨A3, c3, rfl, hc3, hr3⟩ := RdL.of_own encP_len HOW.out HL.out
      have HR3 : Hid (RdP wr A3 L (sumR l r)) := by show RdP _ _ _ _; rw [HF.out.2, ← HOL.out]; exact hr3
      clear hr3 hlt
      go_wp2
      (try rw [Exit.noGoto_ret])
      go_ret2
      exact ⟨A3, L, c3, by rw [HF.out.1]; rfl, HR3.out, hc3, HX2.out.trans' Hext.out⟩
theorem refSum (A B : Option Addr) (n m c d : Nat) (l r : List Stp) (w : World) (hr : RdP w A n l) (hs : RdP w B m r) (hn : n ≤ 9000) (hm : m ≤ 9000) :
    Calls Try.prog 28 #[.slice A n c, .slice B m d] w (GivesSum l r w) := by
  by_cases h : SumArg l r
  · exact refSum_ok A B n m c d l r w hr hs hn hm h
  · exact refSum_bad A B n m c d l r w hr hs hn hm h
end Go.Proofs.Ytggfepphjaohiaa
