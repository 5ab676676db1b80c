/-
  Walk: slices.Repeat of one number. Conditions: none.
-/
import Derived.Test.YtmejjeeobhapfaaDBfsP
import Derived.Test.YtmejjeeobhapfaaDShelf
import Derived.Laws.CopyOwn
import Derived.Deep.OwnRows
namespace Go.Proofs.Ytmejjeeobhapfaa
open Go.RowKit
set_option linter.unusedVariables false
set_option linter.unusedSimpArgs false

def mixL (n m : Nat) : List Value := List.replicate m (.int .i64 (-1)) ++ List.replicate (n - m) (.int .i64 0)
theorem mixL_len {n m : Nat} (h : m ≤ n) : (mixL n m).length = n := by rw [mixL, List.length_append, List.length_replicate, List.length_replicate]; omega
theorem mixL_get {n m j : Nat} {v : Value} (hj : j < m) : (mixL n m)[j]? = some (.int .i64 (-1)) := by
  rw [mixL, List.getElem?_append_left (by simpa using hj), List.getElem?_replicate, if_pos hj]
theorem mixL_splice {n m k : Nat} (h : m + k ≤ n) : splice (mixL n m) m (List.replicate k (.int .i64 (-1))) = mixL n (m + k) := by
  rw [splice, mixL, List.take_left' (by simp), List.length_replicate, mixL, List.drop_append, List.drop_eq_nil_of_le (by simp), List.nil_append, List.drop_replicate, List.length_replicate, List.replicate_append_replicate.symm, List.append_assoc]
  congr 3
  omega
theorem mixL_zero {n : Nat} : (madeCells #[Value.int .i64 0] n).toList = mixL n 0 := by rw [toList_madeCells_one]; simp [mixL]
set_option maxRecDepth 100000 in
set_option maxHeartbeats 2000000 in
theorem repI (A : Option Addr) (c n : Nat) (w : World) (hr : RdI w A 1 [-1]) (hn0 : 1 ≤ n) (hn : n ≤ 100) :
    Calls Try.prog 37 #[.slice A 1 c, .int .i64 n] w (GivesI (List.replicate n (-1)) w) := by
  obtain ⟨i0, hi0, hz0, hz1, hz2⟩ := info_parts Try.infoIntD
  have HMUL : Hid (∀ w, Calls Try.prog 44 #[.int .u64 1, .int .u64 n] w fun e w' => e = .returned (.tuple #[.int .u64 0, .int .u64 n]) ∧ w' = w) := fun w => by
    have h := Try.bits_Mul 1 n (by omega) (by omega) w
    rw [Nat.one_mul, Nat.div_eq_of_lt (by omega), Nat.mod_eq_of_lt (by omega)] at h
    exact h
  have HA : Hid (∃ ad, A = some ad ∧ w.cell? (ad.add 0) = some (.int .i64 (-1))) := by
    obtain ⟨b, off, a, rfl, -, ha, hc⟩ := RdI.cut hr (k := 0) (by omega)
    simp at ha
    subst ha
    exact ⟨_, rfl, by rw [Addr.add_lit]; exact hc⟩
  have hw1 : IntKind.u64.wrap (1 : Int) = 1 := by rw [IntKind.wrap_u64]; omega
  have hw2 : IntKind.u64.wrap (n : Int) = n := by rw [IntKind.wrap_u64]; omega
  have hw3 : IntKind.i64.wrap (n : Int) = n := by rw [IntKind.wrap_i64]; omega
  have d0 : decide ((n : Int) < 0) = false := decide_eq_false (by omega)
  have d1 : decide ((n : Int) > 9223372036854775807) = false := decide_eq_false (by omega)
  clear hr
  go_enter Try.func37, Try.ntmps37
  go_wp2_with fail
  refine (HMUL.out _).mono ?_
  rintro e w1 ⟨rfl, rfl⟩
  obtain ⟨ad, rfl, hca⟩ := HA.out
  have HSZ : Hid ((Try.prog.info? 3).map (·.size) = some 1) := by show _ = _; rw [hi0]; exact congrArg some hz1
  have HMIN : Hid ([Value.int .i64 (-1)].length = Nat.min 1 n) := (Nat.min_eq_left hn0).symm
  have HSP : Hid (splice (mixL n 0) 0 [.int .i64 (-1)] = mixL n 1) := mixL_splice (n := n) (m := 0) (k := 1) (by omega)
  have HML : Hid (0 + [Value.int .i64 (-1)].length ≤ (mixL n 0).length) := by show _ ≤ _; rw [mixL_len (by omega)]; simp; omega
  have HCW : Hid (∀ wm : World, Ext w1 wm → ∀ j v, [Value.int .i64 (-1)][j]? = some v → wm.cell? (ad.add j) = some v) := fun wm hx j v hj => by
    cases j with
    | zero => simp at hj; subst hj; exact hx.cell' hca
    | succ j => simp at hj
  obtain ⟨N, HN⟩ : ∃ N, Hid (w1.heap.size = N) := ⟨_, rfl⟩
  have HNN : Hid (w1.heap.size ≤ N) := Nat.le_of_eq HN.out
  clear hca HA
  go_wp2_with (first | (at_make; refine wpList_make_row w1 rfl _ _ 23 rfl 3 i0 (.int .i64 0) Try.underlying23 hi0 hz0 hz1 rfl .i64 .i64 n rfl rfl (by rw [hz2]; omega) (by omega) ?_; obtain ⟨wm, HWM⟩ : ∃ wm, Hid (w1.alloc (.cells (madeCells #[.int .i64 0] n) 3) = wm) := ⟨_, rfl⟩; rw [HWM.out]; have HM : Hid (Ext w1 wm) := (by rw [← HWM.out]; exact Ext.rfl'.alloc (Nat.le_refl _) _); have HC : Hid (wm.heap[w1.heap.size]? = some (.cells (mixL n 0).toArray 3 (0, 0))) := (by rw [← HWM.out]; have h := heap_alloc_new w1 (.cells (madeCells #[.int .i64 0] n) 3); rw [← mixL_zero]; exact h); rw [HN.out] at HC ⊢) | (refine wpList_copy_splice (by rfl) (.tmp 31) (.tmp 32) 23 23 (by rfl) 3 Try.underlying23 HSZ.out _ _ n n 1 c (by rfl) (by rfl) N 0 (mixL n 0) 3 HC.out [.int .i64 (-1)] HMIN.out (fun _ => ⟨by rfl, ad, by rfl, HCW.out _ HM.out⟩) HML.out (by simp [Value.oneCell']) w1.heap.size w1 HM.out HNN.out ?_; intro w2 hg2 hb2; have HB2 := Lib.hid hb2; rw [HSP.out] at hg2; clear hb2))
  go_loopw [8] (fun i wr => ∃ m : Nat, 1 ≤ m ∧ m ≤ n ∧ i = .int .i64 m ∧ Hid (wr.heap[N]? = some (.cells (mixL n m).toArray 3 (0, 0))) ∧ Hid (Ext w1 wr)) (fun i _ => n - (intOf i).toNat)
  case atStart => exact ⟨1, by omega, hn0, rfl, hg2.out, HB2.out⟩
  case round =>
    obtain ⟨m, hm1, hmn, rfl, HG, HX⟩ := hrel
    by_cases hlt : m < n
    · have hmn2 : (m : Int) < (n : Int) := by omega
      have hm0 : (0 : Int) ≤ (m : Int) := Int.natCast_nonneg _
      have hmn3 : (m : Int) ≤ (n : Int) := by omega
      obtain ⟨k, hk, hka, hkb, hkc⟩ : ∃ k, k = Nat.min m (n - m) ∧ k ≤ m ∧ k ≤ n - m ∧ (k = m ∨ k = n - m) := ⟨_, rfl, Nat.min_le_left _ _, Nat.min_le_right _ _, by
        rcases Nat.le_total m (n - m) with h | h
        · exact .inl (Nat.min_eq_left h)
        · exact .inr (Nat.min_eq_right h)⟩
      have HK : Hid ((List.replicate k (Value.int .i64 (-1))).length = Nat.min m (n - m)) := by show _ = _; rw [List.length_replicate, hk]
      have HSP2 : Hid (splice (mixL n m) m (List.replicate k (.int .i64 (-1))) = mixL n (m + k)) := mixL_splice (by omega)
      have HSRC : Hid (∀ (w : World), w.heap[N]? = some (.cells (mixL n m).toArray 3 (0, 0)) → ∀ j v, (List.replicate k (Value.int .i64 (-1)))[j]? = some v → w.cell? ((⟨N, 0, none⟩ : Addr).add j) = some v) := fun w hw j v hj => by
        have hjk : j < k := by have := (List.getElem?_eq_some_iff.1 hj).1; simpa using this
        rw [List.getElem?_replicate, if_pos hjk] at hj
        rw [Addr.add_lit, cell_of_row w N (0 + j) _ _ (0, 0) hw, List.getElem?_toArray, ← hj]
        exact mixL_get (v := .int .i64 (-1)) (by omega)
      have HFIT : Hid (m + (List.replicate k (Value.int .i64 (-1))).length ≤ (mixL n m).length) := by show _ ≤ _; rw [mixL_len (by omega), List.length_replicate]; omega
      have HONE : Hid (∀ v ∈ List.replicate k (Value.int .i64 (-1)), v.oneCell' = true) := fun v hv => by rw [List.eq_of_mem_replicate hv]; rfl
      have HBX : Hid (∀ d, Ext w1 (wr.drewN d)) := fun d => below_drewN' HX.out d
      have hkm : m + k ≤ n := by omega
      have hk1 : 1 ≤ k := by omega
      obtain ⟨CS, HCS⟩ : ∃ CS, Hid (List.replicate k (Value.int .i64 (-1)) = CS) := ⟨_, rfl⟩
      have HCL : Hid (CS.length = k) := by show _ = _; rw [← HCS.out, List.length_replicate]
      rw [HCS.out] at HK HSP2 HSRC HFIT HONE
      clear hk hkc
      have hne : ¬ (n = m) := by omega
      have hCL := HCL.out
      have hwk : IntKind.i64.wrap ((m : Int) + (k : Int)) = (m : Int) + (k : Int) := by rw [IntKind.wrap_i64]; omega
      go_wp2_with fail
      go_region_law (refine step_copy_splice (by rfl) (.tmp 41) (.tmp 44) 23 23 (by rfl) 3 Try.underlying23 HSZ.out (some ⟨N, m, none⟩) (some ⟨N, 0, none⟩) (n - m) (n - m) m n (by simp [Act.eval, Act.put]) (by simp [Act.eval, Act.put]) N m (mixL n m) 3 HG.out CS HK.out (fun _ => ⟨rfl, _, rfl, HSRC.out _ HG.out⟩) HFIT.out HONE.out w1.heap.size w1 (by have h := HX.out; exact ⟨h.os, h.tape, h.output, h.size, h.block⟩) HNN.out ?_; intro w2 hg2 hb2; have HB2 := Lib.hid hb2; rw [HSP2.out] at hg2; clear hb2)
      all_goals
        go_simp
        go_wp2
        go_roundw
        case rel => exact ⟨m + k, by omega, by omega, by go_num, hg2.out, HB2.out⟩
        case measure => simp [intOf]; omega
    · have hmn2 : ¬ (m : Int) < (n : Int) := by omega
      obtain rfl : m = n := by omega
      go_wp2
      (try rw [Exit.noGoto_ret])
      go_ret
      refine ⟨_, rfl, ?_, HX.out⟩
      have hc := HG.out
      refine ⟨by rw [flat_encI]; simp, .inr ⟨N, m, (mixL m m).toArray, by rw [List.length_replicate]; rfl, HNN.out, hc, by simp, by simp only [maxLen]; omega, by simp [mixL], by simp [mixL, flat_encI]⟩⟩
end Go.Proofs.Ytmejjeeobhapfaa
