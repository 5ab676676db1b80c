/-
  Walk: the statement FillKept. Conditions: none.
-/
import Derived.Test.YtbcpjdjlgmhohaaWKnown15
import Derived.Test.YtbcpjdjlgmhohaaWPlcR
import Derived.Test.YtbcpjdjlgmhohaaOpen
namespace Go.Proofs.Ytbcpjdjlgmhohaa
open Go.RowKit
set_option linter.unusedVariables false
set_option linter.unusedSimpArgs false

theorem idsK_wf {l : List Jb} (h : ∀ s ∈ l, (Lit.int .i64 s.1).wf = true ∧ (Lit.int .i64 s.2.1).wf = true ∧ (Lit.int .i64 s.2.2.1).wf = true ∧ (Lit.int .i64 s.2.2.2).wf = true) : IdsWf l := fun j hj => wf64 (h j hj).1
theorem flatQ_take (l : List Jb) (i : Nat) : flat encQ (l.take i) = (flat encQ l).take (i * 4) := by
  induction l generalizing i with
  | nil => simp [flat]
  | cons x l ih =>
    cases i with
    | zero => simp [flat]
    | succ i =>
      have := ih i
      simp only [flat, List.take_succ_cons, List.flatMap_cons] at this ⊢
      rw [this, show (i + 1) * 4 = i * 4 + 1 + 1 + 1 + 1 by omega]
      simp [encQ]
theorem RdQ.take {w : World} {A : Option Addr} {n : Nat} {l : List Jb} (h : RdQ w A n l) {i : Nat} (hi : i ≤ n) : RdQ w A i (l.take i) := by
  refine ⟨encQ_len, by rw [List.length_take, h.len]; omega, ?_, ?_⟩
  · rw [flat_length encQ_len, List.length_take, h.len]; congr 1; omega
  · rcases Nat.eq_zero_or_pos i with h0 | h0
    · exact .inl h0
    · right
      rcases h.2.2.2 with h1 | ⟨b, off, hA, hb, hc⟩
      · omega
      · refine ⟨b, off, hA, hb, fun j u hu => hc j u ?_⟩
        rw [flatQ_take] at hu
        have hj : j < i * 4 := by
          have := (List.getElem?_eq_some_iff.1 hu).1
          simp at this; omega
        rwa [List.getElem?_take_of_lt hj] at hu
theorem rdQ_at {w : World} {A : Option Addr} {l : List Jb} (A' : Option Addr) (h : RdQ w A 0 l) : RdQ w A' 0 l := ⟨h.1, h.2.1, h.2.2.1, .inl rfl⟩
theorem plc_prefix (now : Int) (js : List Jb) : ∀ (l : List Stp) (deep : Int) (k : Nat), placesF now l deep (js.take k) <+: placesF now l deep js := by
  induction js with
  | nil => intro l deep k; simp [placesF]
  | cons j js ih =>
    intro l deep k
    cases k with
    | zero => rw [List.take_zero]; exact List.nil_prefix
    | succ k =>
      rw [List.take_succ_cons]
      by_cases h : fitsN l now j now = true
      · rw [plc_fits h, plc_fits h]
        exact (List.prefix_cons_inj _).2 (ih _ _ _)
      · replace h : fitsN l now j now = false := by simpa using h
        by_cases hd : deep = 0
        · rw [plc_none h hd, plc_none h hd]; exact ih _ _ _
        · by_cases hf : firstN l now j < 0
          · rw [plc_nowhere h hd hf, plc_nowhere h hd hf]; exact ih _ _ _
          · rw [plc_kept h hd hf, plc_kept h hd hf]
            exact (List.prefix_cons_inj _).2 (ih _ _ _)
theorem order_take (l : List Jb) (k : Nat) : orderJ ((orderJ l).take k) = (orderJ l).take k := isort_same order_j ((isort_srt order_j l).sublist (List.take_sublist _ _))
theorem order_wf {l : List Jb} (h : IdsWf l) (k : Nat) : IdsWf ((orderJ l).take k) := fun j hj => h j (isort_mem.1 (List.mem_of_mem_take hj))
theorem chk_take {l : List Stp} {now : Int} {jobs : List Jb} (h : chkJ l now jobs = 0) (k : Nat) : chkJ l now ((orderJ jobs).take k) = 0 := by
  obtain ⟨h1, h2⟩ := chkJ_zero h
  refine chkJ_ok ⟨h1.1, h1.2.1, fun j hj => h1.2.2 j (isort_mem.1 (List.mem_of_mem_take hj))⟩ ?_
  have hp : (ids (orderJ jobs)).Nodup := ((isort_perm jobs).map _).nodup_iff.2 h2
  exact hp.sublist ((List.take_sublist k _).map _)
theorem plc_cases (l : List Stp) (now deep : Int) (jobs : List Jb) : (chkJ l now jobs = 0 ∧ ¬ deep < 0 ∧ plcE l now deep jobs = 0) ∨ (plcE l now deep jobs ≠ 0 ∧ plcR l now deep jobs = []) := by
  by_cases h : chkJ l now jobs = 0
  · by_cases hd : deep < 0
    · right
      have := plc_deep h hd
      exact ⟨by rw [this.1]; decide, this.2⟩
    · exact .inl ⟨h, hd, (plc_ok h hd).1⟩
  · right
    have := plc_bad (deep := deep) h
    exact ⟨by rw [this.1]; exact h, this.2⟩
theorem kept_eq {l : List Stp} {now deep : Int} {jobs : List Jb} (h : chkJ l now jobs = 0) (hd : ¬ deep < 0) (k : Nat) :
    plcE l now deep ((orderJ jobs).take k) = 0 ∧ (plcR l now deep ((orderJ jobs).take k)).length ≤ (plcR l now deep jobs).length ∧
    (plcR l now deep jobs).take (plcR l now deep ((orderJ jobs).take k)).length = plcR l now deep ((orderJ jobs).take k) := by
  have h1 := plc_ok h hd
  have h2 := plc_ok (chk_take h k) hd
  have hp := plc_prefix now (orderJ jobs) l deep k
  rw [h1.2, h2.2, order_take]
  exact ⟨h2.1, hp.length_le, (List.prefix_iff_eq_take.1 hp).symm⟩

set_option maxRecDepth 100000 in
set_option maxHeartbeats 2000000 in
theorem walk_fkept (A B : Option Addr) (n m c d : Nat) (l : List Stp) (now deep : Int) (jobs : List Jb) (cut : Int) (W : World) (hr : RdP W A n l) (hs : RdQ W B m jobs) (hn : n ≤ 9223372036854775807) (hm : m ≤ 9223372036854775807) (hnc : n ≤ c) (hwf : IdsWf jobs) (hdw : deep ≤ 9223372036854775807) (hcut : 0 ≤ cut ∧ cut ≤ 255) :
    Calls Try.prog 4 #[.slice A n c, .int .i64 now, .int .i64 deep, .slice B m d, .int .u8 cut] W fun e w' => e = .returned (.bool true) ∧ Ext W w' := by
  have HR := Lib.hid hr; clear hr
  have HS := Lib.hid hs; clear hs
  by_cases hlong : 30 < n
  · skip
    go_enter Try.func4, Try.ntmps4
    have HX : Hid (Ext W W) := Ext.rfl'
    go_wp2_with fail
    refine (known15 _).mono ?_
    rintro e w1 ⟨rfl, hx1⟩
    replace HX := Lib.hid (HX.out.trans' hx1)
    clear hx1
    go_wp2
    (try rw [Exit.noGoto_ret])
    go_ret
    exact ⟨rfl, HX.out⟩
  replace hlong : n ≤ 30 := by omega
  by_cases hlong2 : 20 < m
  · skip
    go_enter Try.func4, Try.ntmps4
    have HX : Hid (Ext W W) := Ext.rfl'
    go_wp2_with fail
    refine (known15 _).mono ?_
    rintro e w1 ⟨rfl, hx1⟩
    replace HX := Lib.hid (HX.out.trans' hx1)
    clear hx1
    go_wp2
    (try rw [Exit.noGoto_ret])
    go_ret
    exact ⟨rfl, HX.out⟩
  replace hlong2 : m ≤ 20 := by omega
  have hjl : jobs.length = m := RdL.len HS.out
  go_enter Try.func4, Try.ntmps4
  have HX : Hid (Ext W W) := Ext.rfl'
  go_wp2_with fail
  refine (fillPlaces A B n m c d l now deep jobs _ HR.out HS.out (by omega) (by omega) hnc hwf (by omega)).mono ?_
  rintro e w1 ⟨A1, m1, c1, rfl, hr1, hc1, hx1⟩
  replace HX := Lib.hid (HX.out.trans' hx1)
  replace HR := Lib.hid (HR.out.ext hx1)
  replace HS := Lib.hid (HS.out.ext hx1)
  clear hx1
  have HP1 := Lib.hid hr1
  have HC1 := Lib.hid hc1
  have hm1 : m1 ≤ 20 := by have := plcR_len l now deep jobs; have := RdL.len HP1.out; omega
  clear hr1 hc1
  rcases plc_cases l now deep jobs with ⟨hC, hD, hE⟩ | ⟨hE, hR⟩
  case inr =>
    obtain ⟨E, HE⟩ : ∃ E, plcE l now deep jobs = E := ⟨_, rfl⟩
    rw [HE] at hE ⊢
    have dE : (E == 0) = false := by simpa using hE
    have h1 := HP1.out
    rw [hR] at h1
    obtain rfl : m1 = 0 := (RdL.len h1).symm
    clear h1 HE hR HP1
    go_wp2_with fail
    refine (known15 _).mono ?_
    rintro e w2 ⟨rfl, hx2⟩
    replace HX := Lib.hid (HX.out.trans' hx2)
    clear hx2
    go_wp2
    (try rw [Exit.noGoto_ret])
    go_ret
    exact ⟨rfl, HX.out⟩
  rw [hE]
  obtain ⟨K, HK⟩ : ∃ K : Nat, (K : Int) = cut % ((m : Int) + 1) := ⟨(cut % ((m : Int) + 1)).toNat, Int.toNat_of_nonneg (Int.emod_nonneg _ (by omega))⟩
  have HKm : K ≤ m := by have := Int.emod_lt_of_pos cut (show (0 : Int) < (m : Int) + 1 by omega); omega
  obtain ⟨q1, q2, q3⟩ := kept_eq hC hD K
  have Q1 := Lib.hid q1
  have Q2 := Lib.hid q2
  have Q3 := Lib.hid q3
  have hjk : ((orderJ jobs).take K).length = K := by rw [List.length_take, orderJ_len]; omega
  have hplk := plcR_len l now deep ((orderJ jobs).take K)
  clear hC hD hE q1 q2 q3
  go_wp2_with fail
  refine (fillOrder B m d jobs _ HS.out (by omega)).mono ?_
  rintro e w2 ⟨v8, rfl, ho8, hx2⟩
  replace HX := Lib.hid (HX.out.trans' hx2)
  replace HR := Lib.hid (HR.out.ext hx2)
  replace HS := Lib.hid (HS.out.ext hx2)
  replace HP1 := Lib.hid (HP1.out.ext hx2)
  clear hx2
  rw [hjl] at ho8
  have hmm : ((m : Int) != (m : Int)) = false := by simp
  rcases ho8.2 with ⟨rfl, hm0⟩ | ⟨g, c8, cur, rfl, hb8, hg8, hn8, _⟩
  · subst hm0
    obtain rfl : K = 0 := by omega
    have HO8 : Hid (RdQ w2 none 0 ((orderJ jobs).take 0)) := by rw [List.take_zero]; exact rdQ_none w2
    clear ho8 HK
    go_wp2_with fail
    refine (fillPlaces A none n 0 c 0 l now deep ((orderJ jobs).take 0) _ HR.out HO8.out (by omega) (by omega) hnc (order_wf hwf 0) (by omega)).mono ?_
    rintro e w3 ⟨A2, m2, c2, rfl, hr2, hc2, hx3⟩
    replace HX := Lib.hid (HX.out.trans' hx3)
    replace HP1 := Lib.hid (HP1.out.ext hx3)
    replace HR := Lib.hid (HR.out.ext hx3)
    replace HO8 := Lib.hid (HO8.out.ext hx3)
    clear hx3
    rw [Q1.out]
    have HP2 := Lib.hid hr2
    have hm2 : m2 ≤ m1 := by rw [← RdL.len HP2.out, ← RdL.len HP1.out]; exact Q2.out
    have hm2' : (m2 : Int) ≤ (m1 : Int) := by omega
    have hm2'' : (m2 : Int) ≤ (c1 : Int) := by have := HC1.out; omega
    have hd2 : decide ((m1 : Int) < (m2 : Int)) = false := decide_eq_false (by omega)
    have HPT := Lib.hid (RdQ.take HP1.out hm2)
    rw [← RdL.len HP2.out, Q3.out, RdL.len HP2.out] at HPT
    clear hr2 hc2
    go_wp2_with fail
    refine (refSameST A1 A2 _ c1 _ c2 _ _ HPT.out HP2.out (by omega) (by omega)).mono ?_
    rintro e w4 ⟨rfl, hx4⟩
    replace HX := Lib.hid (HX.out.trans' hx4)
    clear hx4 HP1 HR HP2 HPT HO8
    go_wp2_with fail
    refine (known15 _).mono ?_
    rintro e w5 ⟨rfl, hx5⟩
    replace HX := Lib.hid (HX.out.trans' hx5)
    clear hx5
    go_wp2
    (try rw [Exit.noGoto_ret])
    go_ret
    exact ⟨rfl, HX.out⟩
  · have HO8 : Hid (RdQ w2 (some ⟨g, 0, none⟩) K ((orderJ jobs).take K)) := by
      obtain ⟨A', c', e1, _, e2⟩ := RdL.of_own encQ_len ho8 (by rw [orderJ_len]; exact hjl)
      injection e1 with e1 _ _
      subst e1
      exact RdQ.take e2 HKm
    have hrem : cut.tmod ((m : Int) + 1) = (K : Int) := by rw [HK]; exact Int.tmod_eq_emod_of_nonneg hcut.1
    have hK0 : (0 : Int) ≤ (K : Int) := Int.natCast_nonneg _
    have hK1 : (K : Int) ≤ (c8 : Int) := by omega
    clear ho8 hg8 hb8
    have hKT : (cut % ((m : Int) + 1)).toNat = K := by rw [← HK]; exact Int.toNat_natCast K
    go_wp2_with fail
    skip
    refine (fillPlaces A (some ⟨g, 0, none⟩) n K c c8 l now deep ((orderJ jobs).take K) _ HR.out HO8.out (by omega) (by omega) hnc (order_wf hwf K) (by omega)).mono ?_
    rintro e w3 ⟨A2, m2, c2, rfl, hr2, hc2, hx3⟩
    replace HX := Lib.hid (HX.out.trans' hx3)
    replace HP1 := Lib.hid (HP1.out.ext hx3)
    replace HR := Lib.hid (HR.out.ext hx3)
    replace HO8 := Lib.hid (HO8.out.ext hx3)
    clear hx3
    rw [Q1.out]
    have HP2 := Lib.hid hr2
    have hm2 : m2 ≤ m1 := by rw [← RdL.len HP2.out, ← RdL.len HP1.out]; exact Q2.out
    have hm2' : (m2 : Int) ≤ (m1 : Int) := by omega
    have hm2'' : (m2 : Int) ≤ (c1 : Int) := by have := HC1.out; omega
    have hd2 : decide ((m1 : Int) < (m2 : Int)) = false := decide_eq_false (by omega)
    have HPT := Lib.hid (RdQ.take HP1.out hm2)
    rw [← RdL.len HP2.out, Q3.out, RdL.len HP2.out] at HPT
    clear hr2 hc2
    go_wp2_with fail
    refine (refSameST A1 A2 _ c1 _ c2 _ _ HPT.out HP2.out (by omega) (by omega)).mono ?_
    rintro e w4 ⟨rfl, hx4⟩
    replace HX := Lib.hid (HX.out.trans' hx4)
    clear hx4 HP1 HR HP2 HPT HO8
    go_wp2_with fail
    refine (known15 _).mono ?_
    rintro e w5 ⟨rfl, hx5⟩
    replace HX := Lib.hid (HX.out.trans' hx5)
    clear hx5
    go_wp2
    (try rw [Exit.noGoto_ret])
    go_ret
    exact ⟨rfl, HX.out⟩
end Go.Proofs.Ytbcpjdjlgmhohaa
