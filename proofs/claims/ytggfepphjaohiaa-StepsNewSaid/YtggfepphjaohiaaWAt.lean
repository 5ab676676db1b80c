/-
  Walks: what is free at a time. Conditions: none.
-/
import Derived.Test.YtggfepphjaohiaaWCut
import Derived.Test.YtggfepphjaohiaaWEnds
import Derived.Test.YtggfepphjaohiaaWChk2
namespace Go.Proofs.Ytggfepphjaohiaa
open Go.RowKit

noncomputable def atF (l : List Stp) (t : Int) : Int := if chkE l = 0 ∧ isT t = true then freeT l t else 0
theorem chkE_prof {l : List Stp} (h : chkE l = 0) : Prof l := by
  rcases chkE_cases l with h1 | h1
  · exact h1.1
  · have := h1.2; omega
theorem free_far (l : List Stp) (t n : Int) (h : ∀ s ∈ l, t < s.1) : l.foldl (fun n s => if s.1 ≤ t then s.2 else n) n = n := by
  induction l generalizing n with
  | nil => rfl
  | cons x l ih =>
    simp only [List.foldl_cons]
    rw [if_neg (by have := h x List.mem_cons_self; omega)]
    exact ih n fun s hs => h s (List.mem_cons_of_mem _ hs)
theorem free_place {l : List Stp} {t : Int} {k : Nat} {a u : Int} (h : Holds l t k) (hx : l[k]? = some (a, u)) : freeT l t = u := by
  obtain ⟨⟨a', u', h1, h2⟩, h3⟩ := h
  rw [hx] at h1
  injection h1 with h1
  injection h1 with e1 e2
  subst e1
  have e : l = l.take (k + 1) ++ l.drop (k + 1) := (List.take_append_drop _ _).symm
  have e3 : freeT l t = freeT (l.take (k + 1)) t := by
    conv => lhs; rw [e]
    unfold freeT
    rw [List.foldl_append]
    refine free_far _ _ _ fun s hs => ?_
    obtain ⟨j, hj, rfl⟩ := List.mem_iff_getElem.1 hs
    rw [List.getElem_drop]
    rw [List.length_drop] at hj
    exact h3 (k + 1 + j) _ _ (List.getElem?_eq_getElem (by omega)) (by omega)
  rw [e3, take_snoc' hx, freeT_snoc, if_pos h2]
set_option maxHeartbeats 2000000 in
theorem stepsAt (A : Option Addr) (n c : Nat) (l : List Stp) (t : Int) (w : World) (hr : RdP w A n l) (hn : n ≤ 9223372036854775807) :
    Calls Try.prog 17 #[.slice A n c, .int .i64 t] w fun e w' => e = .returned (.int .i64 (atF l t)) ∧ Ext w w' := by
  have HR := Lib.hid hr; clear hr
  have HN := Lib.hid hn; clear hn
  by_cases hc : chkE l = 0
  · have HC := Lib.hid hc
    have HP := Lib.hid (chkE_prof hc); clear hc
    by_cases ht : isT t = true
    · have HE : Hid (atF l t = freeT l t) := if_pos ⟨HC.out, ht⟩
      have HT := Lib.hid ((isT_iff t).1 ht)
      go_enter Try.func17, Try.ntmps17
      go_wp2_with fail
      refine (stepsCheck A n c l _ HR.out HN.out).mono ?_
      rintro e w1 ⟨rfl, h1⟩
      rw [HC.out]
      have HX1 := Lib.hid h1; clear h1
      go_wp2_with fail
      refine (clkIsV ht _).mono ?_
      rintro e w2 ⟨rfl, rfl⟩
      go_wp2_with fail
      refine (stepsPlace A n c l t _ (HR.out.ext HX1.out) HP.out HT.out).mono ?_
      rintro e w3 ⟨k, hk, rfl, h3⟩
      have HK := Lib.hid hk; clear hk
      have HX3 := Lib.hid (HX1.out.trans' h3); clear h3
      have hkn : k < n := by
        obtain ⟨⟨a, u, h, _⟩, _⟩ := HK.out
        have := (List.getElem?_eq_some_iff.1 h).1
        have := RdL.len HR.out
        omega
      obtain ⟨b, off, a, u, rfl, _, hx, hd0, hd1⟩ := RdP.cut HR.out (k := k) hkn
      replace hd1 := HX3.out.cell' hd1
      have HF : Hid (freeT l t = u) := free_place HK.out hx
      have hi1 : (k : Int) < (n : Int) := by omega
      clear hx hd0
      go_wp2
      (try rw [Exit.noGoto_ret])
      go_ret
      exact ⟨by rw [HE.out, HF.out]; rfl, HX3.out⟩
    · have htf : isT t = false := by simpa using ht
      have HE : Hid (atF l t = 0) := if_neg fun h => ht h.2
      clear ht
      go_enter Try.func17, Try.ntmps17
      go_wp2_with fail
      refine (stepsCheck A n c l _ HR.out HN.out).mono ?_
      rintro e w1 ⟨rfl, h1⟩
      rw [HC.out]
      have HX1 := Lib.hid h1; clear h1
      go_wp2_with fail
      refine (clkIsV htf _).mono ?_
      rintro e w2 ⟨rfl, rfl⟩
      go_wp2
      (try rw [Exit.noGoto_ret])
      go_ret
      exact ⟨by rw [HE.out]; rfl, HX1.out⟩
  · have hb : (chkE l != 0) = true := by simpa using hc
    have HE : Hid (atF l t = 0) := if_neg fun h => hc h.1
    clear hc
    go_enter Try.func17, Try.ntmps17
    go_wp2_with fail
    refine (stepsCheck A n c l _ HR.out HN.out).mono ?_
    rintro e w1 ⟨rfl, h1⟩
    have HX1 := Lib.hid h1; clear h1
    go_wp2
    (try rw [Exit.noGoto_ret])
    go_ret
    exact ⟨by rw [HE.out]; rfl, HX1.out⟩

set_option maxHeartbeats 2000000 in
theorem refAt (A : Option Addr) (n c : Nat) (l : List Stp) (t : Int) (w : World) (hr : RdP w A n l) (hn : n ≤ 9223372036854775807) :
    Calls Try.prog 26 #[.slice A n c, .int .i64 t] w fun e w' => e = .returned (.int .i64 (atF l t)) ∧ Ext w w' := by
  have HR := Lib.hid hr; clear hr
  have HN := Lib.hid hn; clear hn
  by_cases hc : chkE l = 0
  · have HC := Lib.hid hc; clear hc
    by_cases ht : isT t = true
    · have HE : Hid (atF l t = freeT l t) := if_pos ⟨HC.out, ht⟩
      go_enter Try.func26, Try.ntmps26
      go_wp2_with fail
      refine (refCheck A n c l _ HR.out HN.out).mono ?_
      rintro e w1 ⟨rfl, h1⟩
      rw [HC.out]
      have HX1 := Lib.hid h1; clear h1
      go_wp2_with fail
      refine (refIsV ht _).mono ?_
      rintro e w2 ⟨rfl, rfl⟩
      go_wp2_with fail
      refine (refFree A n c l t _ (HR.out.ext HX1.out) HN.out).mono ?_
      rintro e w3 ⟨rfl, rfl⟩
      go_wp2
      (try rw [Exit.noGoto_ret])
      go_ret
      exact ⟨by rw [HE.out]; rfl, HX1.out⟩
    · have htf : isT t = false := by simpa using ht
      have HE : Hid (atF l t = 0) := if_neg fun h => ht h.2
      clear ht
      go_enter Try.func26, Try.ntmps26
      go_wp2_with fail
      refine (refCheck A n c l _ HR.out HN.out).mono ?_
      rintro e w1 ⟨rfl, h1⟩
      rw [HC.out]
      have HX1 := Lib.hid h1; clear h1
      go_wp2_with fail
      refine (refIsV htf _).mono ?_
      rintro e w2 ⟨rfl, rfl⟩
      go_wp2
      (try rw [Exit.noGoto_ret])
      go_ret
      exact ⟨by rw [HE.out]; rfl, HX1.out⟩
  · have hb : (chkE l != 0) = true := by simpa using hc
    have HE : Hid (atF l t = 0) := if_neg fun h => hc h.1
    clear hc
    go_enter Try.func26, Try.ntmps26
    go_wp2_with fail
    refine (refCheck A n c l _ HR.out HN.out).mono ?_
    rintro e w1 ⟨rfl, h1⟩
    have HX1 := Lib.hid h1; clear h1
    go_wp2
    (try rw [Exit.noGoto_ret])
    go_ret
    exact ⟨by rw [HE.out]; rfl, HX1.out⟩
end Go.Proofs.Ytggfepphjaohiaa
