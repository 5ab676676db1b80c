/-
  Walks: the greatest number that is free for a while. Conditions: none.
-/
import Derived.Test.YtggfepphjaohiaaWLeast
import Derived.Test.YtggfepphjaohiaaWEnds
namespace Go.Proofs.Ytggfepphjaohiaa
open Go.RowKit

theorem maxTo_le (l m : List Stp) (f t n : Int) : maxTo l m f t ≤ n ↔ freeT l f ≤ n ∧ ∀ s ∈ m, f ≤ s.1 → s.1 < t → s.2 ≤ n := by
  unfold maxTo
  generalize freeT l f = z
  induction m generalizing z with
  | nil => simp
  | cons s m ih =>
    rw [List.foldl_cons, ih]
    by_cases h : f ≤ s.1 ∧ s.1 < t
    · rw [if_pos h]
      constructor
      · rintro ⟨h1, h2⟩
        refine ⟨by omega, fun x hx hf ht => ?_⟩
        rcases List.mem_cons.1 hx with rfl | hx
        · omega
        · exact h2 x hx hf ht
      · rintro ⟨h1, h2⟩
        have := h2 s (by simp) h.1 h.2
        exact ⟨by omega, fun x hx => h2 x (by simp [hx])⟩
    · rw [if_neg h]
      constructor
      · rintro ⟨h1, h2⟩
        refine ⟨h1, fun x hx hf ht => ?_⟩
        rcases List.mem_cons.1 hx with rfl | hx
        · exact absurd ⟨hf, ht⟩ h
        · exact h2 x hx hf ht
      · rintro ⟨h1, h2⟩
        exact ⟨h1, fun x hx => h2 x (by simp [hx])⟩

section
variable {l : List Stp} {f t : Int} {k j : Nat}
theorem cut_high (hA : Asc l) (hH : Holds l f k) (hC : CutAt l t k j) (hft : f < t) (n : Int) : (∀ s ∈ cutTo l f k j, s.2 ≤ n) ↔ maxF l f t ≤ n := by
  have hj := cut_pos hH hC hft
  obtain ⟨⟨a, u, hk, ha⟩, hlater⟩ := hH
  rw [show (maxF l f t ≤ n) ↔ _ from maxTo_le l l f t n, freeT_holds hk ha hlater]
  constructor
  · intro h
    refine ⟨h _ (mem_cutTo.2 ⟨k, a, u, hk, Nat.le_refl _, by omega, rfl⟩), fun s hs hf ht => ?_⟩
    obtain ⟨i, hi⟩ := List.mem_iff_getElem?.1 hs
    obtain ⟨b, v⟩ := s
    have hik : k ≤ i := by
      rcases Nat.lt_or_ge i k with h1 | h1
      · exfalso
        obtain ⟨h3, h4⟩ := List.getElem?_eq_some_iff.1 hi
        obtain ⟨h5, h6⟩ := List.getElem?_eq_some_iff.1 hk
        have := (List.pairwise_iff_getElem.1 hA) i k h3 h5 h1
        rw [h4, h6] at this
        simp only at this hf
        omega
      · exact h1
    have hij : i < k + j := by
      rcases Nat.lt_or_ge i (k + j) with h1 | h1
      · exact h1
      · exfalso
        rcases hC.2.2 with h2 | ⟨a', u', h2, h2'⟩
        · have := (List.getElem?_eq_some_iff.1 hi).1; omega
        · rcases Nat.lt_or_ge (k + j) i with h3 | h3
          · obtain ⟨h5, h6⟩ := List.getElem?_eq_some_iff.1 hi
            obtain ⟨h7, h8⟩ := List.getElem?_eq_some_iff.1 h2
            have := (List.pairwise_iff_getElem.1 hA) _ _ h7 h5 h3
            rw [h6, h8] at this
            simp only at this ht
            omega
          · obtain rfl : i = k + j := by omega
            rw [hi] at h2; injection h2 with h2; injection h2 with h2 _; simp only at ht; omega
    exact h (max b f, v) (mem_cutTo.2 ⟨i, b, v, hi, hik, hij, rfl⟩)
  · rintro ⟨h1, h2⟩ s hs
    obtain ⟨i, b, v, hi, hik, hij, rfl⟩ := mem_cutTo.1 hs
    rcases Nat.lt_or_ge k i with h3 | h3
    · exact h2 (b, v) (List.mem_of_getElem? hi) (by have := hlater i b v hi h3; simp only; omega) (hC.2.1 i b v hi hik hij)
    · obtain rfl : i = k := by omega
      rw [hi] at hk; injection hk with hk; injection hk with _ hk
      simp only; omega
theorem cut_max (hA : Asc l) (hH : Holds l f k) (hC : CutAt l t k j) (hft : f < t) {a u : Int} (hm : (a, u) ∈ cutTo l f k j) (hle : ∀ s ∈ cutTo l f k j, s.2 ≤ u) : u = maxF l f t := by
  have h1 := (cut_high hA hH hC hft u).1 hle
  have h2 := (cut_high hA hH hC hft (maxF l f t)).2 (Int.le_refl _) _ hm
  simp only at h2
  omega
end

def Gives_maxFunc (l : List Stp) (w : World) (e : Ending) (w' : World) : Prop := ∃ a u, (a, u) ∈ l ∧ (∀ s ∈ l, s.2 ≤ u) ∧ e = .returned (.agg #[.int .i64 a, .int .i64 u]) ∧ Ext w w'
set_option maxHeartbeats 3200000 in
theorem maxFunc (A : Option Addr) (n c : Nat) (l : List Stp) (w : World) (hr : RdP w A n l) (hn : n ≤ 100000) (h1 : 1 ≤ n) (hl : ∀ s ∈ l, 0 ≤ s.2 ∧ s.2 ≤ 20000) :
    Calls Try.prog 45 #[.slice A n c, .func (.func 44) #[] #[]] w (Gives_maxFunc l w) := by
  have HR := Lib.hid hr; clear hr
  have HL := Lib.hid hl; clear hl
  obtain ⟨bb, off, a0, u0, rfl, hbb, hx, hd0, hd1⟩ := RdP.cut HR.out (k := 0) (by omega)
  have Hx := Lib.hid hx; clear hx
  simp only [Nat.zero_mul, Nat.add_zero] at hd0 hd1
  go_enter Try.func45, Try.ntmps45
  go_wp2
  obtain ⟨w1, hw1⟩ : ∃ w1 : World, w1 = (w.alloc (.cells #[.int .i64 0, .int .i64 0] 48)).alloc (.cells #[.int .i64 a0, .int .i64 u0] 48) := ⟨_, rfl⟩
  rw [← hw1]
  have hX : Ext w w1 := by rw [hw1]; exact ((Below.refl _ _).alloc (Nat.le_refl _) _).alloc (by simp) _
  have hsz : w.heap.size + 2 ≤ w1.heap.size := by rw [hw1]; simp
  have r0 : w1.cell? ⟨w.heap.size, 0, none⟩ = some (.int .i64 0) := by rw [hw1]; simp [go_sem]
  have r1 : w1.cell? ⟨w.heap.size, 1, none⟩ = some (.int .i64 0) := by rw [hw1]; simp [go_sem]
  have r2 : w1.frozen? ⟨w.heap.size, 0, none⟩ = false := by rw [hw1]; simp [go_sem]
  have r3 : w1.frozen? ⟨w.heap.size, 1, none⟩ = false := by rw [hw1]; simp [go_sem]
  have m0 : w1.cell? ⟨w.heap.size + 1, 0, none⟩ = some (.int .i64 a0) := by rw [hw1]; simp [go_sem]
  have m1 : w1.cell? ⟨w.heap.size + 1, 1, none⟩ = some (.int .i64 u0) := by rw [hw1]; simp [go_sem]
  have m2 : w1.frozen? ⟨w.heap.size + 1, 0, none⟩ = false := by rw [hw1]; simp [go_sem]
  have m3 : w1.frozen? ⟨w.heap.size + 1, 1, none⟩ = false := by rw [hw1]; simp [go_sem]
  clear hw1
  obtain ⟨R, HRb⟩ : ∃ R, Hid (R = w.heap.size) := ⟨_, rfl⟩
  rw [← HRb.out] at hsz r0 r1 r2 r3 m0 m1 m2 m3 ⊢
  replace hX : Below R w w1 := by rw [HRb.out]; exact hX
  go_loopw [6] (fun i wr => ∃ (k : Nat) (a u : Int), 1 ≤ k ∧ k ≤ n ∧ i = .int .i64 k ∧ Hid ((a, u) ∈ l.take k ∧ ∀ s ∈ l.take k, s.2 ≤ u) ∧ MemMM R a u wr ∧ Below R w wr) (fun i _ => n - (intOf i).toNat)
  case atStart =>
    have h1t : l.take 1 = [(a0, u0)] := by rw [take_snoc' (k := 0) Hx.out]; rfl
    exact ⟨1, a0, u0, by omega, by omega, rfl, ⟨by rw [h1t]; simp, by rw [h1t]; simp⟩, ⟨hsz, r0, r1, r2, r3, m0, m1, m2, m3⟩, hX⟩
  case round =>
    clear r0 r1 r2 r3 m0 m1 m2 m3 hX hsz
    obtain ⟨k, a, u, hk1, hkn, rfl, HI, ⟨hsz, r0, r1, r2, r3, m0, m1, m2, m3⟩, hbel⟩ := hrel
    have hmem : (a, u) ∈ l := List.mem_of_mem_take HI.out.1
    have hub := HL.out _ hmem
    simp only at hub
    obtain ⟨hu0, hu1⟩ := hub
    by_cases hlt : k < n
    · obtain ⟨bb', off', a', u', hA, _, hx', he0, he1⟩ := RdP.cut HR.out (k := k) hlt
      injection hA with hA; injection hA with hA1 hA2 _; subst hA1; subst hA2
      have hbR : bb < R := by have := HRb.out; omega
      replace he0 := (hbel.cell (p := ⟨bb, off + k * 2, none⟩) hbR).trans he0
      replace he1 := (hbel.cell (p := ⟨bb, off + k * 2 + 1, none⟩) hbR).trans he1
      have Hx' := Lib.hid hx'; clear hx' hd0 hd1 Hx hmem
      have hub' := HL.out _ (List.mem_of_getElem? Hx'.out)
      simp only at hub'
      obtain ⟨hv0, hv1⟩ := hub'
      have hi0' : (0 : Int) ≤ (k : Int) := Int.natCast_nonneg _
      have hi1 : (k : Int) < (n : Int) := by omega
      have q1 := ExtW.cell he0
      have q2 := ExtW.cell he1
      have q3 := ExtW.cell m0
      have q4 := ExtW.cell m1
      have Hbel := Lib.hid hbel; clear hbel
      have HQ : Hid (∀ x : ExtW wr, Calls Try.prog 44 #[.agg #[.int .i64 a', .int .i64 u'], .agg #[.int .i64 a, .int .i64 u]] x.val fun e w' => e = .returned (.int .i64 (u' - u)) ∧ Ext x.val w') := fun x => stepsFree a' u' a u x.val ⟨hv0, hv1⟩ ⟨hu0, hu1⟩
      by_cases hc : u < u'
      · have HN : Hid ((a', u') ∈ l.take (k + 1) ∧ ∀ s ∈ l.take (k + 1), s.2 ≤ u') := by
          show _ ∧ _
          rw [take_snoc' Hx'.out]
          refine ⟨by simp, fun s hs => ?_⟩
          rcases List.mem_append.1 hs with hs | hs
          · have := HI.out.2 s hs; omega
          · simp at hs; subst hs; simp
        go_wp2
        refine wp_region_ext (by kernel_rfl) (by kernel_rfl) ?_
        repeat (go_big_quiet_step ((go_at_call 44; exact extq (HQ.out _))))
        refine wpQuiet_nil ?_
        rintro w2 ⟨⟨_, hx2⟩, rfl⟩
        have hs2 := hx2.size
        have f2 := (hx2.frozen (p := ⟨R + 1, 0, none⟩) (by simp; omega)).trans m2
        have f3 := (hx2.frozen (p := ⟨R + 1, 1, none⟩) (by simp; omega)).trans m3
        have f0 := (hx2.frozen (p := ⟨R, 0, none⟩) (by simp; omega)).trans r2
        have f1 := (hx2.frozen (p := ⟨R, 1, none⟩) (by simp; omega)).trans r3
        replace m0 := hx2.cell' m0
        replace m1 := hx2.cell' m1
        replace r0 := hx2.cell' r0
        replace r1 := hx2.cell' r1
        replace he0 := hx2.cell' he0
        replace he1 := hx2.cell' he1
        have HB2 : Hid (Below R w w2) := below_ext Hbel.out (by omega) hx2
        clear hx2 q1 q2 q3 q4 m2 m3 r2 r3
        go_wp2
        go_roundw
        case rel =>
          refine ⟨k + 1, a', u', by omega, by omega, by go_num, HN, ⟨by simp; omega, ?_, ?_, ?_, ?_, ?_, ?_, ?_, ?_⟩, ?_⟩
          all_goals first | (exact (HB2.out.setCell (by simp) _).setCell (by simp) _) | (simp [go_sem, World.cell?_setCell_far, *]; done)
        case measure => simp [intOf]; omega
      · have HN : Hid ((a, u) ∈ l.take (k + 1) ∧ ∀ s ∈ l.take (k + 1), s.2 ≤ u) := by
          show _ ∧ _
          rw [take_snoc' Hx'.out]
          refine ⟨List.mem_append.2 (.inl HI.out.1), fun s hs => ?_⟩
          rcases List.mem_append.1 hs with hs | hs
          · exact HI.out.2 s hs
          · simp at hs; subst hs; simp; omega
        go_wp2
        refine wp_region_ext (by kernel_rfl) (by kernel_rfl) ?_
        repeat (go_big_quiet_step ((go_at_call 44; exact extq (HQ.out _))))
        refine wpQuiet_nil ?_
        rintro w2 ⟨⟨_, hx2⟩, rfl⟩
        have hs2 := hx2.size
        have HM : Hid (MemMM R a u w2) := ⟨by omega, hx2.cell' r0, hx2.cell' r1, (hx2.frozen (p := ⟨R, 0, none⟩) (by simp; omega)).trans r2, (hx2.frozen (p := ⟨R, 1, none⟩) (by simp; omega)).trans r3, hx2.cell' m0, hx2.cell' m1, (hx2.frozen (p := ⟨R + 1, 0, none⟩) (by simp; omega)).trans m2, (hx2.frozen (p := ⟨R + 1, 1, none⟩) (by simp; omega)).trans m3⟩
        have HB2 : Hid (Below R w w2) := below_ext Hbel.out (by omega) hx2
        clear hx2 q1 q2 q3 q4
        go_wp2
        go_roundw
        case rel => exact ⟨k + 1, a, u, by omega, by omega, by go_num, HN, HM.out, HB2.out⟩
        case measure => simp [intOf]; omega
    · have HE : Hid (l.take k = l) := take_all' (RdL.len HR.out) (by omega)
      have HF : Hid ((a, u) ∈ l ∧ ∀ s ∈ l, s.2 ≤ u) := by have := HI.out; rw [HE.out] at this; exact this
      have Hbel := Lib.hid hbel; clear hbel hmem
      go_wp2
      have hfin := (Hbel.out.setCell (p := ⟨R, 0, none⟩) (Nat.le_refl _) (.int .i64 a)).setCell (p := ⟨R, 1, none⟩) (Nat.le_refl _) (.int .i64 u)
      refine bodyPost_ret (v := .agg #[.int .i64 a, .int .i64 u]) ?_ rfl ⟨a, u, HF.out.1, HF.out.2, rfl, by rw [HRb.out] at hfin; rw [HRb.out]; exact hfin⟩
      have z0 : ((wr.setCell ⟨R, 0, none⟩ (.int .i64 a)).setCell ⟨R, 1, none⟩ (.int .i64 u)).cell? ⟨R, 0, none⟩ = some (.int .i64 a) := by simp [go_sem, *]
      have z1 : ((wr.setCell ⟨R, 0, none⟩ (.int .i64 a)).setCell ⟨R, 1, none⟩ (.int .i64 u)).cell? ⟨R, 1, none⟩ = some (.int .i64 u) := by simp [go_sem, *]
      clear hfin r0 r1 r2 r3 m0 m1 m2 m3
      simp [results, Try.results45, go_sem, z0, z1]
theorem most_bad (A : Option Addr) (n c : Nat) (l : List Stp) (f t : Int) (w : World) (hr : RdP w A n l) (hn : n ≤ 9223372036854775807) (hbad : ¬ While l f t) :
    Calls Try.prog 23 #[.slice A n c, .int .i64 f, .int .i64 t] w fun e w' => e = .returned (.tuple #[.int .i64 0, .int .i64 2]) ∧ Ext w w' := by
  have HR := Lib.hid hr; clear hr
  have HB := Lib.hid hbad; clear hbad
  go_enter Try.func23, Try.ntmps23
  go_wp2_with (go_at_call 42; refine (span_bad A n c l f t _ HR.out hn HB.out).mono ?_; rintro e w1 ⟨rfl, hx1⟩; have Hx1 := Lib.hid hx1; clear hx1)
  go_ret2
  exact ⟨rfl, Hx1.out⟩
theorem most_ok (A : Option Addr) (n c : Nat) (l : List Stp) (f t : Int) (w : World) (hr : RdP w A n l) (hok : While l f t) :
    Calls Try.prog 23 #[.slice A n c, .int .i64 f, .int .i64 t] w fun e w' => e = .returned (.tuple #[.int .i64 (maxF l f t), .int .i64 0]) ∧ Ext w w' := by
  have HR := Lib.hid hr; clear hr
  have HK := Lib.hid hok; clear hok
  go_enter Try.func23, Try.ntmps23
  go_wp2_with fail
  refine (span_ok A n c l f t _ HR.out HK.out).mono ?_
  rintro e w1 ⟨k, j, A2, m2, c2, hH, hC, rfl, hr2, hx1⟩
  have hj := cut_pos hH hC HK.out.2.2.2
  have hm2 : m2 = j := by rw [← RdL.len hr2, cutTo_len hC.1]
  have hll := HK.out.1.2.1
  have hm3 : m2 ≤ 100000 := by have := hC.1; omega
  have hm4 : 1 ≤ m2 := by omega
  have HH := Lib.hid hH; have HCC := Lib.hid hC; have Hr2 := Lib.hid hr2; have Hx1 := Lib.hid hx1
  have HB : Hid (∀ s ∈ cutTo l f k j, 0 ≤ s.2 ∧ s.2 ≤ 20000) := fun s hs => by
    obtain ⟨i, a, u, hi, _, _, rfl⟩ := mem_cutTo.1 hs
    have := HK.out.1.2.2.2 i (List.getElem?_eq_some_iff.1 hi).1 a u hi
    exact ⟨this.2.1, by have := this.2.2.1; simp only; omega⟩
  clear hH hC hr2 hx1 hm2 hj hll
  go_wp2_with fail
  refine (maxFunc A2 m2 c2 _ _ Hr2.out hm3 hm4 HB.out).mono ?_
  rintro e w2 ⟨a, u, hm, hle, rfl, hx2⟩
  have HU := Lib.hid (cut_max HK.out.1.asc HH.out HCC.out HK.out.2.2.2 hm hle)
  have Hx2 := Lib.hid (Hx1.out.trans' hx2)
  clear hm hle hx2
  have fld := fun (x y : Int) (W : World) => stpField1 x y W
  go_wp2
  go_ret2
  exact ⟨by rw [← HU.out]; rfl, Hx2.out⟩
end Go.Proofs.Ytggfepphjaohiaa
