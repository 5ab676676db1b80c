/-
  Walk: the sum of two profiles, by the program. Conditions: none.
-/
import Derived.Test.YtggfepphjaohiaaWRSum
namespace Go.Proofs.Ytggfepphjaohiaa
open Go.RowKit
set_option linter.unusedVariables false
set_option linter.unusedSimpArgs false

set_option maxRecDepth 100000 in
set_option maxHeartbeats 8000000 in
theorem stepsSum_ok (A B : Option Addr) (n m c d : Nat) (l r : List Stp) (w : World) (hr : RdP w A n l) (hs : RdP w B m r) (hn : n ≤ 9000) (hm : m ≤ 9000) (hok : SumArg l r) :
    Calls Try.prog 27 #[.slice A n c, .slice B m d] w (GivesSum l r w) := by
  have HR := Lib.hid hr; clear hr
  have HS := Lib.hid hs; clear hs
  have HAA := Lib.hid hok
  have HC := Lib.hid (chkE_t hok.1)
  have HC2 := Lib.hid (chkE_t hok.2)
  obtain ⟨i0, hi0, hz0, hz1, hz2⟩ := info_parts Try.infoStp
  clear hok
  go_enter Try.func27, Try.ntmps27
  go_wp2_with fail
  refine (stepsCheck A n c l _ HR.out (by omega)).mono ?_
  rintro e w1 ⟨rfl, hx1⟩
  have Hx1 := Lib.hid hx1; clear hx1
  rw [HC.out]
  go_wp2_with fail
  refine (stepsCheck B m d r _ (HS.out.ext Hx1.out) (by omega)).mono ?_
  rintro e w2 ⟨rfl, hx2⟩
  have Hx2 := Lib.hid (Hx1.out.trans' hx2); clear hx2 Hx1
  rw [HC2.out]
  replace HR := Lib.hid (HR.out.ext Hx2.out)
  replace HS := Lib.hid (HS.out.ext Hx2.out)
  obtain ⟨w1, HW1⟩ : ∃ w1 : World, w1 = w2 := ⟨_, rfl⟩
  subst HW1
  have HX2 := Hx2
  clear Hx2
  go_wp2
  go_loopw [6, 7, 8] (fun s x y wr => ∃ (i j : Nat) (O : List Stp), x = .int .i64 i ∧ y = .int .i64 j ∧ Hid (Merge l r O i j) ∧ wr.ownsRow w1.heap.size 48 2 s O.length (flat encP O) ∧ Ext w1 wr) (fun _ x y _ => (n - (intOf x).toNat) + (m - (intOf y).toNat))
  case atStart => exact ⟨0, 0, [], rfl, rfl, merge_start HAA.out, by simpa [flat] using World.ownsRow_nil _ _ _ _, Ext.rfl'⟩
  case round =>
    obtain ⟨i, j, O, rfl, rfl, HM, hown, hext⟩ := hrel
    obtain ⟨L, HL⟩ : ∃ L, Hid (O.length = L) := ⟨_, rfl⟩
    obtain ⟨F, HF⟩ : ∃ F, Hid (flat encP O = F) := ⟨_, rfl⟩
    rw [HL.out, HF.out] at hown
    have hLij : L ≤ i + j := by have := HM.out.len; rwa [HL.out] at this
    have hile : i ≤ n := by have := HM.out.il; have := RdL.len HR.out; omega
    have hjle : j ≤ m := by have := HM.out.jm; have := RdL.len HS.out; omega
    have HOW := Lib.hid hown
    have Hext := Lib.hid hext
    clear hown hext
    by_cases hin : i < n
    · skip
      obtain ⟨b1, o1, ai, a0, hAi, hbb1, hxi, hi0', hi1'⟩ := RdP.cut HR.out (k := i) hin
      replace hi0' := Hext.out.cell' hi0'
      replace hi1' := Hext.out.cell' hi1'
      by_cases hjn : j < m
      · skip
        obtain ⟨b2, o2, cj, c0, hBj, hbb2, hxj, hj0', hj1'⟩ := RdP.cut HS.out (k := j) hjn
        replace hj0' := Hext.out.cell' hj0'
        replace hj1' := Hext.out.cell' hj1'
        rcases Int.lt_trichotomy ai cj with hlt | hlt | hlt
        · skip
          obtain ⟨a1, u, b1', v, q1, q2, q3, q4, hM⟩ := merge_next HAA.out HM.out (i' := i + 1) (j' := j) (at_ := ai) (.inl ⟨rfl, a0, hxi⟩) (.inr ⟨rfl, fun a' u' h => by rw [hxj] at h; injection h with h; injection h with h _; omega⟩) (by omega)
          have hb1u := (HAA.out.1.bound _ (List.mem_of_getElem? q1)).2
          have hb2v := (HAA.out.2.bound _ (List.mem_of_getElem? q2)).2
          simp only at hb1u hb2v
          obtain ⟨u0, u1⟩ := hb1u
          obtain ⟨v0, v1⟩ := hb2v
          have HM' := Lib.hid hM
          clear hM
          obtain rfl : a0 = u := by rw [Nat.add_sub_cancel, hxi] at q1; injection q1 with q1; injection q1
          obtain ⟨b2, o2, _, _, hB, hbb2, hx, _, hg1⟩ := RdP.cut HS.out (k := j - 1) (by omega)
          rw [q2] at hx; injection hx with hx; injection hx with hx hx'; subst hx; subst hx'
          injection hBj.symm.trans hB with hB; injection hB with hB1 hB2 _; subst hB1; subst hB2
          replace hg1 := Hext.out.cell' hg1
          clear q1 q2 hxi hxj
          subst hAi
          subst hBj
          have hne1 : u6.ownBlock ≠ some b1 := fun e => by have := (HOW.out.lt _ e).1; omega
          have hne2 : u6.ownBlock ≠ some b2 := fun e => by have := (HOW.out.lt _ e).1; omega
          have d1 : decide ((i : Int) < (n : Int)) = true := by simp; omega
          have d2 : decide ((j : Int) < (m : Int)) = true := by simp; omega
          have d3 : ((i : Int) == (n : Int)) = false := by simp; omega
          have d4 : decide (cj < ai) = false := by simp <;> omega
          have d5 : (cj == ai) = false := by simp; omega
          have e1 : IntKind.i64.wrap (a0 + v) = a0 + v := IntWalk.i64_in _ (by omega)
          have e2 : IntKind.i64.wrap (i : Int) = (i : Int) := IntWalk.i64_in _ (by omega)
          have e3 : IntKind.i64.wrap ((j : Int) - 1) = (j : Int) - 1 := IntWalk.i64_in _ (by omega)
          have p4 : (0 : Int) ≤ (j : Int) - 1 := by omega
          have p5 : (j : Int) - 1 < (m : Int) := by omega
          have p9 : (1 : Int) ≤ (j : Int) := by omega
          have p10 : (j : Int) < (m : Int) + 1 := by omega
          have p6 : ((j : Int) - 1).toNat = j - 1 := by omega
          have HXQ : Hid (∀ p, Ext w1 (wr.drewN p)) := fun p => below_drewN' Hext.out p
          have HOQ : Hid (∀ p, (wr.drewN p).ownsRow w1.heap.size 48 2 u6 L F) := fun p => HOW.out
          go_wp2
          go_quiet (fail)
          generalize hw4 : World.drewN _ nq = w4
          have HX4 : Hid (Ext w1 w4) := by show Ext _ _; rw [← hw4]; exact HXQ.out _
          have HO4 : Hid (w4.ownsRow w1.heap.size 48 2 u6 L F) := by show World.ownsRow _ _ _ _ _ _ _; rw [← hw4]; exact HOQ.out _
          replace hi0' : w4.cell? ⟨b1, o1 + i * 2, none⟩ = some (.int .i64 ai) := by rw [← hw4]; simpa using hi0'
          replace hj0' : w4.cell? ⟨b2, o2 + j * 2, none⟩ = some (.int .i64 cj) := by rw [← hw4]; simpa using hj0'
          replace hi1' : w4.cell? ⟨b1, o1 + i * 2 + 1, none⟩ = some (.int .i64 a0) := by rw [← hw4]; simpa using hi1'
          replace hg1 : w4.cell? ⟨b2, o2 + (j - 1) * 2 + 1, none⟩ = some (.int .i64 v) := by rw [← hw4]; simpa using hg1
          clear hw4
          go_wp2_with fail
          go_region_held3 (fun w' => w'.cell? ⟨b1, o1 + i * 2 + 1, none⟩ = some (.int .i64 a0) ∧ w'.cell? ⟨b2, o2 + (j - 1) * 2 + 1, none⟩ = some (.int .i64 v))
            (first
              | go_keep
              | (go_split_ands; exact ⟨by rw [hgrow5.cell_far _ (by have := HX4.out.size; simp; omega) (Ne.symm hne1)]; assumption, by rw [hgrow5.cell_far _ (by have := HX4.out.size; simp; omega) (Ne.symm hne2)]; assumption⟩))
            ((refine step_append_lies _ (by rfl) _ _ _ (by rfl) w1.heap.size 48 i0 _ 2 16 Try.underlying22 hi0 hz0 hz1 hz2 rfl (by omega) u6 L F (by rfl) ((HO4.out.alloc _).drew) ⟨w4.heap.size, 0, none⟩ 1 1 [.int .i64 ai, .int .i64 (a0 + v)] (by rfl) (by rfl) (World.news_of_block (cs := #[.int .i64 ai, .int .i64 (a0 + v)]) (t := 48) (fr := (0, 0)) (heap_alloc_new w4 _)) (by simp [Value.oneCell']) (by omega) (by simp only [maxLen]; omega) (by omega) (by have := HX4.out.size; simp; omega) (w4.heap.size + 1) (by simp) ?_; intro gg cap w5 hown5 hgrow5 hat5 hlt5))
          clear e1 e2 e3
          have HO : Hid (w5.ownsRow w1.heap.size 48 2 (.slice (some ⟨gg, 0, none⟩) (L + 1) cap) (O ++ [(ai, a0 + v)]).length (flat encP (O ++ [(ai, a0 + v)]))) := by
            show World.ownsRow _ _ _ _ _ _ _
            rw [List.length_append, flat_append, flat_one, HL.out, HF.out]
            exact hown5
          have HX : Hid (Ext w1 w5) := (HX4.out.alloc HX4.out.size _).drew.grown hgrow5 (by have := HX4.out.size; simp; omega) (fun z hz => (HO4.out.lt z hz).1)
          clear hown5 hgrow5 hat5 hlt5 hne1 hne2
          go_wp2
          go_roundw
          case rel => exact ⟨i + 1, j, O ++ [(ai, a0 + v)], by go_num, rfl, HM', HO, HX⟩
          case measure => simp [intOf]; omega
        · subst hlt
          obtain ⟨a1, u, b1', v, q1, q2, q3, q4, hM⟩ := merge_next HAA.out HM.out (i' := i + 1) (j' := j + 1) (at_ := ai) (.inl ⟨rfl, a0, hxi⟩) (.inl ⟨rfl, c0, hxj⟩) (by omega)
          have hb1u := (HAA.out.1.bound _ (List.mem_of_getElem? q1)).2
          have hb2v := (HAA.out.2.bound _ (List.mem_of_getElem? q2)).2
          simp only at hb1u hb2v
          obtain ⟨u0, u1⟩ := hb1u
          obtain ⟨v0, v1⟩ := hb2v
          have HM' := Lib.hid hM
          clear hM
          obtain rfl : a0 = u := by rw [Nat.add_sub_cancel, hxi] at q1; injection q1 with q1; injection q1
          obtain rfl : c0 = v := by rw [Nat.add_sub_cancel, hxj] at q2; injection q2 with q2; injection q2
          clear q1 q2 hxi hxj
          subst hAi
          subst hBj
          have hne1 : u6.ownBlock ≠ some b1 := fun e => by have := (HOW.out.lt _ e).1; omega
          have hne2 : u6.ownBlock ≠ some b2 := fun e => by have := (HOW.out.lt _ e).1; omega
          have d1 : decide ((i : Int) < (n : Int)) = true := by simp; omega
          have d2 : decide ((j : Int) < (m : Int)) = true := by simp; omega
          have d3 : ((i : Int) == (n : Int)) = false := by simp; omega
          have d4 : decide (ai < ai) = false := by simp <;> omega
          have e1 : IntKind.i64.wrap (a0 + c0) = a0 + c0 := IntWalk.i64_in _ (by omega)
          have e2 : IntKind.i64.wrap (i : Int) = (i : Int) := IntWalk.i64_in _ (by omega)
          have e3 : IntKind.i64.wrap (j : Int) = (j : Int) := IntWalk.i64_in _ (by omega)
          have HXQ : Hid (∀ p, Ext w1 (wr.drewN p)) := fun p => below_drewN' Hext.out p
          have HOQ : Hid (∀ p, (wr.drewN p).ownsRow w1.heap.size 48 2 u6 L F) := fun p => HOW.out
          go_wp2
          go_quiet (fail)
          generalize hw4 : World.drewN _ nq = w4
          have HX4 : Hid (Ext w1 w4) := by show Ext _ _; rw [← hw4]; exact HXQ.out _
          have HO4 : Hid (w4.ownsRow w1.heap.size 48 2 u6 L F) := by show World.ownsRow _ _ _ _ _ _ _; rw [← hw4]; exact HOQ.out _
          replace hi0' : w4.cell? ⟨b1, o1 + i * 2, none⟩ = some (.int .i64 ai) := by rw [← hw4]; simpa using hi0'
          replace hj0' : w4.cell? ⟨b2, o2 + j * 2, none⟩ = some (.int .i64 ai) := by rw [← hw4]; simpa using hj0'
          replace hi1' : w4.cell? ⟨b1, o1 + i * 2 + 1, none⟩ = some (.int .i64 a0) := by rw [← hw4]; simpa using hi1'
          replace hj1' : w4.cell? ⟨b2, o2 + j * 2 + 1, none⟩ = some (.int .i64 c0) := by rw [← hw4]; simpa using hj1'
          clear hw4
          go_wp2_with fail
          go_region_held3 (fun w' => w'.cell? ⟨b1, o1 + i * 2 + 1, none⟩ = some (.int .i64 a0) ∧ w'.cell? ⟨b2, o2 + j * 2 + 1, none⟩ = some (.int .i64 c0))
            (first
              | go_keep
              | (go_split_ands; exact ⟨by rw [hgrow5.cell_far _ (by have := HX4.out.size; simp; omega) (Ne.symm hne1)]; assumption, by rw [hgrow5.cell_far _ (by have := HX4.out.size; simp; omega) (Ne.symm hne2)]; assumption⟩))
            ((refine step_append_lies _ (by rfl) _ _ _ (by rfl) w1.heap.size 48 i0 _ 2 16 Try.underlying22 hi0 hz0 hz1 hz2 rfl (by omega) u6 L F (by rfl) ((HO4.out.alloc _).drew) ⟨w4.heap.size, 0, none⟩ 1 1 [.int .i64 ai, .int .i64 (a0 + c0)] (by rfl) (by rfl) (World.news_of_block (cs := #[.int .i64 ai, .int .i64 (a0 + c0)]) (t := 48) (fr := (0, 0)) (heap_alloc_new w4 _)) (by simp [Value.oneCell']) (by omega) (by simp only [maxLen]; omega) (by omega) (by have := HX4.out.size; simp; omega) (w4.heap.size + 1) (by simp) ?_; intro gg cap w5 hown5 hgrow5 hat5 hlt5))
          clear e1 e2 e3
          have HO : Hid (w5.ownsRow w1.heap.size 48 2 (.slice (some ⟨gg, 0, none⟩) (L + 1) cap) (O ++ [(ai, a0 + c0)]).length (flat encP (O ++ [(ai, a0 + c0)]))) := by
            show World.ownsRow _ _ _ _ _ _ _
            rw [List.length_append, flat_append, flat_one, HL.out, HF.out]
            exact hown5
          have HX : Hid (Ext w1 w5) := (HX4.out.alloc HX4.out.size _).drew.grown hgrow5 (by have := HX4.out.size; simp; omega) (fun z hz => (HO4.out.lt z hz).1)
          clear hown5 hgrow5 hat5 hlt5 hne1 hne2
          go_wp2
          go_roundw
          case rel => exact ⟨i + 1, j + 1, O ++ [(ai, a0 + c0)], by go_num, by go_num, HM', HO, HX⟩
          case measure => simp [intOf]; omega
        · skip
          obtain ⟨a1, u, b1', v, q1, q2, q3, q4, hM⟩ := merge_next HAA.out HM.out (i' := i) (j' := j + 1) (at_ := cj) (.inr ⟨rfl, fun a' u' h => by rw [hxi] at h; injection h with h; injection h with h _; omega⟩) (.inl ⟨rfl, c0, hxj⟩) (by omega)
          have hb1u := (HAA.out.1.bound _ (List.mem_of_getElem? q1)).2
          have hb2v := (HAA.out.2.bound _ (List.mem_of_getElem? q2)).2
          simp only at hb1u hb2v
          obtain ⟨u0, u1⟩ := hb1u
          obtain ⟨v0, v1⟩ := hb2v
          have HM' := Lib.hid hM
          clear hM
          obtain ⟨b1, o1, _, _, hA, hbb1, hx, _, hd1⟩ := RdP.cut HR.out (k := i - 1) (by omega)
          rw [q1] at hx; injection hx with hx; injection hx with hx hx'; subst hx; subst hx'
          injection hAi.symm.trans hA with hA; injection hA with hA1 hA2 _; subst hA1; subst hA2
          replace hd1 := Hext.out.cell' hd1
          obtain rfl : c0 = v := by rw [Nat.add_sub_cancel, hxj] at q2; injection q2 with q2; injection q2
          clear q1 q2 hxi hxj
          subst hAi
          subst hBj
          have hne1 : u6.ownBlock ≠ some b1 := fun e => by have := (HOW.out.lt _ e).1; omega
          have hne2 : u6.ownBlock ≠ some b2 := fun e => by have := (HOW.out.lt _ e).1; omega
          have d1 : decide ((i : Int) < (n : Int)) = true := by simp; omega
          have d2 : decide ((j : Int) < (m : Int)) = true := by simp; omega
          have d3 : ((i : Int) == (n : Int)) = false := by simp; omega
          have d4 : decide (cj < ai) = true := by simp <;> omega
          have d5 : (ai == cj) = false := by simp; omega
          have e1 : IntKind.i64.wrap (u + c0) = u + c0 := IntWalk.i64_in _ (by omega)
          have e2 : IntKind.i64.wrap ((i : Int) - 1) = (i : Int) - 1 := IntWalk.i64_in _ (by omega)
          have e3 : IntKind.i64.wrap (j : Int) = (j : Int) := IntWalk.i64_in _ (by omega)
          have p1 : (0 : Int) ≤ (i : Int) - 1 := by omega
          have p2 : (i : Int) - 1 < (n : Int) := by omega
          have p7 : (1 : Int) ≤ (i : Int) := by omega
          have p8 : (i : Int) < (n : Int) + 1 := by omega
          have p3 : ((i : Int) - 1).toNat = i - 1 := by omega
          have HXQ : Hid (∀ p, Ext w1 (wr.drewN p)) := fun p => below_drewN' Hext.out p
          have HOQ : Hid (∀ p, (wr.drewN p).ownsRow w1.heap.size 48 2 u6 L F) := fun p => HOW.out
          go_wp2
          go_quiet (fail)
          generalize hw4 : World.drewN _ nq = w4
          have HX4 : Hid (Ext w1 w4) := by show Ext _ _; rw [← hw4]; exact HXQ.out _
          have HO4 : Hid (w4.ownsRow w1.heap.size 48 2 u6 L F) := by show World.ownsRow _ _ _ _ _ _ _; rw [← hw4]; exact HOQ.out _
          replace hi0' : w4.cell? ⟨b1, o1 + i * 2, none⟩ = some (.int .i64 ai) := by rw [← hw4]; simpa using hi0'
          replace hj0' : w4.cell? ⟨b2, o2 + j * 2, none⟩ = some (.int .i64 cj) := by rw [← hw4]; simpa using hj0'
          replace hd1 : w4.cell? ⟨b1, o1 + (i - 1) * 2 + 1, none⟩ = some (.int .i64 u) := by rw [← hw4]; simpa using hd1
          replace hj1' : w4.cell? ⟨b2, o2 + j * 2 + 1, none⟩ = some (.int .i64 c0) := by rw [← hw4]; simpa using hj1'
          clear hw4
          go_wp2_with fail
          go_region_held3 (fun w' => w'.cell? ⟨b1, o1 + (i - 1) * 2 + 1, none⟩ = some (.int .i64 u) ∧ w'.cell? ⟨b2, o2 + j * 2 + 1, none⟩ = some (.int .i64 c0))
            (first
              | go_keep
              | (go_split_ands; exact ⟨by rw [hgrow5.cell_far _ (by have := HX4.out.size; simp; omega) (Ne.symm hne1)]; assumption, by rw [hgrow5.cell_far _ (by have := HX4.out.size; simp; omega) (Ne.symm hne2)]; assumption⟩))
            ((refine step_append_lies _ (by rfl) _ _ _ (by rfl) w1.heap.size 48 i0 _ 2 16 Try.underlying22 hi0 hz0 hz1 hz2 rfl (by omega) u6 L F (by rfl) ((HO4.out.alloc _).drew) ⟨w4.heap.size, 0, none⟩ 1 1 [.int .i64 cj, .int .i64 (u + c0)] (by rfl) (by rfl) (World.news_of_block (cs := #[.int .i64 cj, .int .i64 (u + c0)]) (t := 48) (fr := (0, 0)) (heap_alloc_new w4 _)) (by simp [Value.oneCell']) (by omega) (by simp only [maxLen]; omega) (by omega) (by have := HX4.out.size; simp; omega) (w4.heap.size + 1) (by simp) ?_; intro gg cap w5 hown5 hgrow5 hat5 hlt5))
          clear e1 e2 e3
          have HO : Hid (w5.ownsRow w1.heap.size 48 2 (.slice (some ⟨gg, 0, none⟩) (L + 1) cap) (O ++ [(cj, u + c0)]).length (flat encP (O ++ [(cj, u + c0)]))) := by
            show World.ownsRow _ _ _ _ _ _ _
            rw [List.length_append, flat_append, flat_one, HL.out, HF.out]
            exact hown5
          have HX : Hid (Ext w1 w5) := (HX4.out.alloc HX4.out.size _).drew.grown hgrow5 (by have := HX4.out.size; simp; omega) (fun z hz => (HO4.out.lt z hz).1)
          clear hown5 hgrow5 hat5 hlt5 hne1 hne2
          go_wp2
          go_roundw
          case rel => exact ⟨i, j + 1, O ++ [(cj, u + c0)], rfl, by go_num, HM', HO, HX⟩
          case measure => simp [intOf]; omega
      · skip
        obtain ⟨a1, u, b1', v, q1, q2, q3, q4, hM⟩ := merge_next HAA.out HM.out (i' := i + 1) (j' := j) (at_ := ai) (.inl ⟨rfl, a0, hxi⟩) (.inr ⟨rfl, fun a' u' h => by have := (List.getElem?_eq_some_iff.1 h).1; have := RdL.len HS.out; omega⟩) (by omega)
        have hb1u := (HAA.out.1.bound _ (List.mem_of_getElem? q1)).2
        have hb2v := (HAA.out.2.bound _ (List.mem_of_getElem? q2)).2
        simp only at hb1u hb2v
        obtain ⟨u0, u1⟩ := hb1u
        obtain ⟨v0, v1⟩ := hb2v
        have HM' := Lib.hid hM
        clear hM
        obtain rfl : a0 = u := by rw [Nat.add_sub_cancel, hxi] at q1; injection q1 with q1; injection q1
        obtain ⟨b2, o2, _, _, hB, hbb2, hx, _, hg1⟩ := RdP.cut HS.out (k := j - 1) (by omega)
        rw [q2] at hx; injection hx with hx; injection hx with hx hx'; subst hx; subst hx'
        subst hB
        replace hg1 := Hext.out.cell' hg1
        clear q1 q2 hxi
        subst hAi
        have hne1 : u6.ownBlock ≠ some b1 := fun e => by have := (HOW.out.lt _ e).1; omega
        have hne2 : u6.ownBlock ≠ some b2 := fun e => by have := (HOW.out.lt _ e).1; omega
        have d1 : decide ((i : Int) < (n : Int)) = true := by simp; omega
        have d2 : decide ((j : Int) < (m : Int)) = false := by simp; omega
        have d3 : ((i : Int) == (n : Int)) = false := by simp; omega
        have e1 : IntKind.i64.wrap (a0 + v) = a0 + v := IntWalk.i64_in _ (by omega)
        have e2 : IntKind.i64.wrap (i : Int) = (i : Int) := IntWalk.i64_in _ (by omega)
        have e3 : IntKind.i64.wrap ((j : Int) - 1) = (j : Int) - 1 := IntWalk.i64_in _ (by omega)
        have p4 : (0 : Int) ≤ (j : Int) - 1 := by omega
        have p5 : (j : Int) - 1 < (m : Int) := by omega
        have p9 : (1 : Int) ≤ (j : Int) := by omega
        have p10 : (j : Int) < (m : Int) + 1 := by omega
        have p6 : ((j : Int) - 1).toNat = j - 1 := by omega
        have HXQ : Hid (∀ p, Ext w1 (wr.drewN p)) := fun p => below_drewN' Hext.out p
        have HOQ : Hid (∀ p, (wr.drewN p).ownsRow w1.heap.size 48 2 u6 L F) := fun p => HOW.out
        go_wp2
        go_quiet (fail)
        generalize hw4 : World.drewN _ nq = w4
        have HX4 : Hid (Ext w1 w4) := by show Ext _ _; rw [← hw4]; exact HXQ.out _
        have HO4 : Hid (w4.ownsRow w1.heap.size 48 2 u6 L F) := by show World.ownsRow _ _ _ _ _ _ _; rw [← hw4]; exact HOQ.out _
        replace hi0' : w4.cell? ⟨b1, o1 + i * 2, none⟩ = some (.int .i64 ai) := by rw [← hw4]; simpa using hi0'
        replace hi1' : w4.cell? ⟨b1, o1 + i * 2 + 1, none⟩ = some (.int .i64 a0) := by rw [← hw4]; simpa using hi1'
        replace hg1 : w4.cell? ⟨b2, o2 + (j - 1) * 2 + 1, none⟩ = some (.int .i64 v) := by rw [← hw4]; simpa using hg1
        clear hw4
        go_wp2_with fail
        go_region_held3 (fun w' => w'.cell? ⟨b1, o1 + i * 2 + 1, none⟩ = some (.int .i64 a0) ∧ w'.cell? ⟨b2, o2 + (j - 1) * 2 + 1, none⟩ = some (.int .i64 v))
          (first
            | go_keep
            | (go_split_ands; exact ⟨by rw [hgrow5.cell_far _ (by have := HX4.out.size; simp; omega) (Ne.symm hne1)]; assumption, by rw [hgrow5.cell_far _ (by have := HX4.out.size; simp; omega) (Ne.symm hne2)]; assumption⟩))
          ((refine step_append_lies _ (by rfl) _ _ _ (by rfl) w1.heap.size 48 i0 _ 2 16 Try.underlying22 hi0 hz0 hz1 hz2 rfl (by omega) u6 L F (by rfl) ((HO4.out.alloc _).drew) ⟨w4.heap.size, 0, none⟩ 1 1 [.int .i64 ai, .int .i64 (a0 + v)] (by rfl) (by rfl) (World.news_of_block (cs := #[.int .i64 ai, .int .i64 (a0 + v)]) (t := 48) (fr := (0, 0)) (heap_alloc_new w4 _)) (by simp [Value.oneCell']) (by omega) (by simp only [maxLen]; omega) (by omega) (by have := HX4.out.size; simp; omega) (w4.heap.size + 1) (by simp) ?_; intro gg cap w5 hown5 hgrow5 hat5 hlt5))
        clear e1 e2 e3
        have HO : Hid (w5.ownsRow w1.heap.size 48 2 (.slice (some ⟨gg, 0, none⟩) (L + 1) cap) (O ++ [(ai, a0 + v)]).length (flat encP (O ++ [(ai, a0 + v)]))) := by
          show World.ownsRow _ _ _ _ _ _ _
          rw [List.length_append, flat_append, flat_one, HL.out, HF.out]
          exact hown5
        have HX : Hid (Ext w1 w5) := (HX4.out.alloc HX4.out.size _).drew.grown hgrow5 (by have := HX4.out.size; simp; omega) (fun z hz => (HO4.out.lt z hz).1)
        clear hown5 hgrow5 hat5 hlt5 hne1 hne2
        go_wp2
        go_roundw
        case rel => exact ⟨i + 1, j, O ++ [(ai, a0 + v)], by go_num, rfl, HM', HO, HX⟩
        case measure => simp [intOf]; omega
    · by_cases hjn : j < m
      · skip
        obtain ⟨b2, o2, cj, c0, hBj, hbb2, hxj, hj0', hj1'⟩ := RdP.cut HS.out (k := j) hjn
        replace hj0' := Hext.out.cell' hj0'
        replace hj1' := Hext.out.cell' hj1'
        obtain ⟨a1, u, b1', v, q1, q2, q3, q4, hM⟩ := merge_next HAA.out HM.out (i' := i) (j' := j + 1) (at_ := cj) (.inr ⟨rfl, fun a' u' h => by have := (List.getElem?_eq_some_iff.1 h).1; have := RdL.len HR.out; omega⟩) (.inl ⟨rfl, c0, hxj⟩) (by omega)
        have hb1u := (HAA.out.1.bound _ (List.mem_of_getElem? q1)).2
        have hb2v := (HAA.out.2.bound _ (List.mem_of_getElem? q2)).2
        simp only at hb1u hb2v
        obtain ⟨u0, u1⟩ := hb1u
        obtain ⟨v0, v1⟩ := hb2v
        have HM' := Lib.hid hM
        clear hM
        obtain ⟨b1, o1, _, _, hA, hbb1, hx, _, hd1⟩ := RdP.cut HR.out (k := i - 1) (by omega)
        rw [q1] at hx; injection hx with hx; injection hx with hx hx'; subst hx; subst hx'
        subst hA
        replace hd1 := Hext.out.cell' hd1
        obtain rfl : c0 = v := by rw [Nat.add_sub_cancel, hxj] at q2; injection q2 with q2; injection q2
        clear q1 q2 hxj
        subst hBj
        have hne1 : u6.ownBlock ≠ some b1 := fun e => by have := (HOW.out.lt _ e).1; omega
        have hne2 : u6.ownBlock ≠ some b2 := fun e => by have := (HOW.out.lt _ e).1; omega
        have d1 : decide ((i : Int) < (n : Int)) = false := by simp; omega
        have d2 : decide ((j : Int) < (m : Int)) = true := by simp; omega
        have d3 : ((i : Int) == (n : Int)) = true := by simp; omega
        have e1 : IntKind.i64.wrap (u + c0) = u + c0 := IntWalk.i64_in _ (by omega)
        have e2 : IntKind.i64.wrap ((i : Int) - 1) = (i : Int) - 1 := IntWalk.i64_in _ (by omega)
        have e3 : IntKind.i64.wrap (j : Int) = (j : Int) := IntWalk.i64_in _ (by omega)
        have p1 : (0 : Int) ≤ (i : Int) - 1 := by omega
        have p2 : (i : Int) - 1 < (n : Int) := by omega
        have p7 : (1 : Int) ≤ (i : Int) := by omega
        have p8 : (i : Int) < (n : Int) + 1 := by omega
        have p3 : ((i : Int) - 1).toNat = i - 1 := by omega
        have HXQ : Hid (∀ p, Ext w1 (wr.drewN p)) := fun p => below_drewN' Hext.out p
        have HOQ : Hid (∀ p, (wr.drewN p).ownsRow w1.heap.size 48 2 u6 L F) := fun p => HOW.out
        go_wp2
        go_quiet (fail)
        generalize hw4 : World.drewN _ nq = w4
        have HX4 : Hid (Ext w1 w4) := by show Ext _ _; rw [← hw4]; exact HXQ.out _
        have HO4 : Hid (w4.ownsRow w1.heap.size 48 2 u6 L F) := by show World.ownsRow _ _ _ _ _ _ _; rw [← hw4]; exact HOQ.out _
        replace hj0' : w4.cell? ⟨b2, o2 + j * 2, none⟩ = some (.int .i64 cj) := by rw [← hw4]; simpa using hj0'
        replace hd1 : w4.cell? ⟨b1, o1 + (i - 1) * 2 + 1, none⟩ = some (.int .i64 u) := by rw [← hw4]; simpa using hd1
        replace hj1' : w4.cell? ⟨b2, o2 + j * 2 + 1, none⟩ = some (.int .i64 c0) := by rw [← hw4]; simpa using hj1'
        clear hw4
        go_wp2_with fail
        go_region_held3 (fun w' => w'.cell? ⟨b1, o1 + (i - 1) * 2 + 1, none⟩ = some (.int .i64 u) ∧ w'.cell? ⟨b2, o2 + j * 2 + 1, none⟩ = some (.int .i64 c0))
          (first
            | go_keep
            | (go_split_ands; exact ⟨by rw [hgrow5.cell_far _ (by have := HX4.out.size; simp; omega) (Ne.symm hne1)]; assumption, by rw [hgrow5.cell_far _ (by have := HX4.out.size; simp; omega) (Ne.symm hne2)]; assumption⟩))
          ((refine step_append_lies _ (by rfl) _ _ _ (by rfl) w1.heap.size 48 i0 _ 2 16 Try.underlying22 hi0 hz0 hz1 hz2 rfl (by omega) u6 L F (by rfl) ((HO4.out.alloc _).drew) ⟨w4.heap.size, 0, none⟩ 1 1 [.int .i64 cj, .int .i64 (u + c0)] (by rfl) (by rfl) (World.news_of_block (cs := #[.int .i64 cj, .int .i64 (u + c0)]) (t := 48) (fr := (0, 0)) (heap_alloc_new w4 _)) (by simp [Value.oneCell']) (by omega) (by simp only [maxLen]; omega) (by omega) (by have := HX4.out.size; simp; omega) (w4.heap.size + 1) (by simp) ?_; intro gg cap w5 hown5 hgrow5 hat5 hlt5))
        clear e1 e2 e3
        have HO : Hid (w5.ownsRow w1.heap.size 48 2 (.slice (some ⟨gg, 0, none⟩) (L + 1) cap) (O ++ [(cj, u + c0)]).length (flat encP (O ++ [(cj, u + c0)]))) := by
          show World.ownsRow _ _ _ _ _ _ _
          rw [List.length_append, flat_append, flat_one, HL.out, HF.out]
          exact hown5
        have HX : Hid (Ext w1 w5) := (HX4.out.alloc HX4.out.size _).drew.grown hgrow5 (by have := HX4.out.size; simp; omega) (fun z hz => (HO4.out.lt z hz).1)
        clear hown5 hgrow5 hat5 hlt5 hne1 hne2
        go_wp2
        go_roundw
        case rel => exact ⟨i, j + 1, O ++ [(cj, u + c0)], rfl, by go_num, HM', HO, HX⟩
        case measure => simp [intOf]; omega
      · obtain rfl : i = n := by omega
        obtain rfl : j = m := by omega
        have hme := merge_end HAA.out (O := O) (by rw [RdL.len HR.out, RdL.len HS.out]; exact HM.out)
        obtain ⟨m1, m2, m3, m4, m5, m6⟩ := hme
        obtain ⟨A6, c6, rfl, hc6, hr6⟩ := RdL.of_own encP_len (l := O) (by rw [HF.out]; exact HOW.out) HL.out
        have HR6 := Lib.hid hr6
        have HB6 := Lib.hid HM.out.bd
        have H1 := Lib.hid m1
        have H3 := Lib.hid m3
        have H6 := Lib.hid m6
        have hL1 : 1 ≤ L := by have := HL.out; omega
        have d1 : decide ((i : Int) < (i : Int)) = false := by simp
        have d2 : decide ((j : Int) < (j : Int)) = false := by simp
        have fld := fun (x y : Int) (W : World) => stpField1 x y W
        clear m1 m2 m3 m4 m5 m6 hr6
        go_wp2_with fail
        refine (maxFunc A6 L c6 O _ HR6.out (by omega) hL1 HB6.out).mono ?_
        rintro e w5 ⟨a, u, hmem, hmax, rfl, hx5⟩
        have HX5 := Lib.hid (Hext.out.trans' hx5)
        have HR65 := Lib.hid (HR6.out.ext hx5)
        have HMM : Hid ((a, u) ∈ O ∧ ∀ s ∈ O, s.2 ≤ u) := ⟨hmem, hmax⟩
        clear hmem hmax hx5
        by_cases hu : u ≤ 10000
        · have HRm : Hid (SumRoom l r) := H6.out.2 fun s hs => Int.le_trans (HMM.out.2 s hs) hu
          have HFF := Lib.hid (sum_ok HAA.out HRm.out)
          go_wp2_with fail
          refine (stepsTidy A6 L c6 O _ HR65.out (by omega)).mono ?_
          rintro e w10 ⟨rr, A10, c10, hst, hsr, rfl, hc10, hr10, hx10⟩
          obtain rfl := tidy_same H1.out hst hsr
          rw [tidyTo_tid H1.out, H3.out] at hr10 hc10
          rw [tidyTo_tid H1.out, H3.out]
          have HR10 : Hid (RdP w10 A10 (sumL l r).length (sumR l r)) := by show RdP _ _ _ _; rw [HFF.out.2]; exact hr10
          have HC10 := Lib.hid hc10
          have HX10 := Lib.hid ((HX2.out.trans' HX5.out).trans' hx10)
          have hle : (sumL l r).length ≤ 18002 := by have := sumL_len (l := l) (m := r); have := RdL.len HR.out; have := RdL.len HS.out; omega
          obtain ⟨K, HK⟩ : ∃ K, Hid ((sumL l r).length = K) := ⟨_, rfl⟩
          rw [HK.out] at hle HR10 HC10 ⊢
          clear hst hsr hr10 hc10 hx10
          go_wp2
          (try rw [Exit.noGoto_ret])
          go_ret2
          exact ⟨A10, K, c10, by rw [HFF.out.1]; rfl, HR10.out, HC10.out, HX10.out⟩
        · have HE := Lib.hid (sum_bad (l := l) (m := r) fun h => hu (H6.out.1 h.2 _ HMM.out.1))
          have hgt : decide (u > 10000) = true := by simp; omega
          go_wp2
          (try rw [Exit.noGoto_ret])
          go_ret2
          exact ⟨none, 0, 0, by rw [HE.out.1]; rfl, by rw [HE.out.2]; exact rdP_none _, Nat.le_refl _, HX2.out.trans' HX5.out⟩
theorem stepsSum (A B : Option Addr) (n m c d : Nat) (l r : List Stp) (w : World) (hr : RdP w A n l) (hs : RdP w B m r) (hn : n ≤ 9000) (hm : m ≤ 9000) :
    Calls Try.prog 27 #[.slice A n c, .slice B m d] w (GivesSum l r w) := by
  by_cases h : SumArg l r
  · exact stepsSum_ok A B n m c d l r w hr hs hn hm h
  · exact stepsSum_bad A B n m c d l r w hr hs hn hm h
end Go.Proofs.Ytggfepphjaohiaa
