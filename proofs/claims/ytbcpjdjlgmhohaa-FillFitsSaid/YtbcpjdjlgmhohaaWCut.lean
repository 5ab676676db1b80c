/-
  Walks: the steps that hold for a while. Conditions: none.
-/
import Derived.Test.YtbcpjdjlgmhohaaWPlace
import Derived.Deep.RegionHeld3
import Derived.Deep.AppendLies
namespace Go.Proofs.Ytbcpjdjlgmhohaa
open Go.RowKit

def cutTo (l : List Stp) (f : Int) (k j : Nat) : List Stp := ((l.drop k).take j).map fun s => (max s.1 f, s.2)
/-- from the step k on j steps are ahead of t, and no more -/
def CutAt (l : List Stp) (t : Int) (k j : Nat) : Prop := k + j ≤ l.length ∧ (∀ (i : Nat) (a u : Int), l[i]? = some (a, u) → k ≤ i → i < k + j → a < t) ∧ (k + j = l.length ∨ ∃ a u, l[k + j]? = some (a, u) ∧ t ≤ a)
def GivesCut (l : List Stp) (f t : Int) (w : World) (e : Ending) (w' : World) : Prop := ∃ k j A m c, Holds l f k ∧ CutAt l t k j ∧ e = .returned (.slice A m c) ∧ RdP w' A m (cutTo l f k j) ∧ Ext w w'
theorem cutTo_snoc {l : List Stp} {f : Int} {k j : Nat} {a u : Int} (h : l[k + j]? = some (a, u)) : cutTo l f k (j + 1) = cutTo l f k j ++ [(max a f, u)] := by
  unfold cutTo
  rw [List.take_add_one, List.getElem?_drop, h]
  simp
theorem cutTo_len {l : List Stp} {f : Int} {k j : Nat} (h : k + j ≤ l.length) : (cutTo l f k j).length = j := by
  unfold cutTo
  simp
  omega
theorem Try.infoStp : (Try.prog.info? 48).map (fun i => (i.zero, i.size, i.bytes)) = some (some (.agg #[.int .i64 0, .int .i64 0]), 2, 16) := by kernel_rfl

set_option maxRecDepth 100000 in
set_option maxHeartbeats 3200000 in
theorem stepsCut (A : Option Addr) (n c : Nat) (l : List Stp) (f t : Int) (w : World) (hr : RdP w A n l) (hp : Prof l) (hf : 0 ≤ f ∧ f ≤ 1099511627775) :
    Calls Try.prog 49 #[.slice A n c, .int .i64 f, .int .i64 t] w (GivesCut l f t w) := by
  have hn : n ≤ 100000 := by have := hp.2.1; have := RdL.len hr; omega
  have HR := Lib.hid hr; clear hr
  have HP := Lib.hid hp; clear hp
  obtain ⟨i0, hi0, hz0, hz1, hz2⟩ := info_parts Try.infoStp
  go_enter Try.func49, Try.ntmps49
  go_wp2_with fail
  refine (stepsPlace A n c l f _ HR.out HP.out hf).mono ?_
  rintro e w1 ⟨k, hk, rfl, hx1⟩
  have hkn : k < n := by
    obtain ⟨⟨a, u, h, _⟩, _⟩ := hk
    have := (List.getElem?_eq_some_iff.1 h).1
    have := RdL.len HR.out
    omega
  have HH := Lib.hid hk; clear hk
  replace HR := Lib.hid (HR.out.ext hx1)
  have HX1 := Lib.hid hx1; clear hx1
  have em := max_go
  go_wp2
  go_loopw [7, 8] (fun v i wr => ∃ j : Nat, k + j ≤ n ∧ i = .int .i64 ((k + j : Nat) : Int) ∧ Hid (∀ (i : Nat) (a u : Int), l[i]? = some (a, u) → k ≤ i → i < k + j → a < t) ∧ wr.ownsRow w1.heap.size 48 2 v j (flat encP (cutTo l f k j)) ∧ Ext w1 wr) (fun _ i _ => n - (intOf i).toNat)
  case atStart => exact ⟨0, by omega, rfl, fun i a u _ h1 h2 => absurd h2 (by omega), by simpa [cutTo, flat] using World.ownsRow_nil _ _ _ _, Ext.rfl'⟩
  case round =>
    obtain ⟨j, hjn, rfl, HI, hown, hext⟩ := hrel
    by_cases hlt : k + j < n
    · obtain ⟨q, Hq⟩ : ∃ q, Hid (k + j = q) := ⟨_, rfl⟩
      rw [Hq.out] at hjn hlt ⊢
      obtain ⟨bb, off, a, u, rfl, hbb, hx, hd0, hd1⟩ := RdP.cut HR.out (k := q) hlt
      have Hx := Lib.hid hx; clear hx
      replace hd0 := hext.cell' hd0
      replace hd1 := hext.cell' hd1
      have hbw : bb < wr.heap.size := by have := hext.size; omega
      have hne : u7.ownBlock ≠ some bb := fun e => by have := (hown.lt _ e).1; omega
      have hjq : j ≤ q := by have := Hq.out; omega
      have hi0' : (0 : Int) ≤ (q : Int) := Int.natCast_nonneg _
      have hi1 : (q : Int) < (n : Int) := by omega
      have Hext := Lib.hid hext; clear hext
      by_cases hlt2 : a < t
      · have HN : Hid (∀ (i : Nat) (a u : Int), l[i]? = some (a, u) → k ≤ i → i < k + (j + 1) → a < t) := fun i a' u' hi h1 h2 => by
          rcases Nat.lt_or_ge i (k + j) with h | h
          · exact HI.out i a' u' hi h1 h
          · obtain rfl : i = q := by have := Hq.out; omega
            have := hi.symm.trans Hx.out; injection this with this; injection this with e1 e2; omega
        have HC : Hid (cutTo l f k (j + 1) = cutTo l f k j ++ [(max a f, u)]) := cutTo_snoc (by rw [Hq.out]; exact Hx.out)
        obtain ⟨F, HF⟩ : ∃ F, Hid (F = flat encP (cutTo l f k j)) := ⟨_, rfl⟩
        rw [← HF.out] at hown
        go_wp2_with fail
        go_region_held3 (fun w' => w'.cell? ⟨bb, off + q * 2, none⟩ = some (.int .i64 a) ∧ w'.cell? ⟨bb, off + q * 2 + 1, none⟩ = some (.int .i64 u))
          (first
            | go_keep
            | (go_split_ands; exact ⟨by rw [hgrow.cell_far _ (by simp; omega) (Ne.symm hne)]; assumption, by rw [hgrow.cell_far _ (by simp; omega) (Ne.symm hne)]; assumption⟩))
          ((refine step_append_lies _ (by rfl) _ _ _ (by rfl) w1.heap.size 48 i0 _ 2 16 Try.underlying22 hi0 hz0 hz1 hz2 rfl (by omega) u7 j F (by rfl) ((hown.alloc _).drew)
              ⟨wr.heap.size, 0, none⟩ 1 1 [.int .i64 (max a f), .int .i64 u] (by rfl) (by rfl) (World.news_of_block (cs := #[.int .i64 (max a f), .int .i64 u]) (t := 48) (fr := (0, 0)) (heap_alloc_new wr _)) (by simp [Value.oneCell'])
              (by omega) (by simp only [maxLen]; omega) (by omega) (by have := Hext.out.size; simp; omega) (wr.heap.size + 1) (by simp) ?_; intro gg cap w2 hown1 hgrow hat hlt3))
        have HO : Hid (w2.ownsRow w1.heap.size 48 2 (.slice (some ⟨gg, 0, none⟩) (j + 1) cap) (j + 1) (flat encP (cutTo l f k (j + 1)))) := by
          show World.ownsRow _ _ _ _ _ _ _
          rw [HC.out, flat_append, flat_one, ← HF.out]
          exact hown1
        have HX : Hid (Ext w1 w2) := (Hext.out.alloc Hext.out.size _).drew.grown hgrow (by have := Hext.out.size; simp; omega) (fun z hz => (hown.lt z hz).1)
        clear hown1 hgrow hat hlt3 hown
        go_wp2
        go_roundw
        case rel => exact ⟨j + 1, by have := Hq.out; omega, by have := Hq.out; rw [← Nat.add_assoc, this]; go_num, HN, HO, HX⟩
        case measure => simp [intOf]; omega
      · have HE : Hid (CutAt l t k j) := ⟨by have := RdL.len HR.out; have := Hq.out; omega, HI.out, .inr ⟨a, u, by rw [Hq.out]; exact Hx.out, by omega⟩⟩
        have hl := cutTo_len (f := f) HE.out.1
        obtain ⟨A', c', rfl, hc', hr'⟩ := RdL.of_own encP_len hown hl
        have Hr := Lib.hid hr'
        clear hown hr' hl
        go_wp2
        go_ret
        exact ⟨k, j, A', _, c', HH.out, HE.out, rfl, Hr.out, HX1.out.trans' Hext.out⟩
    · have HE : Hid (CutAt l t k j) := ⟨by have := RdL.len HR.out; omega, HI.out, .inl (by have := RdL.len HR.out; omega)⟩
      have hl := cutTo_len (f := f) HE.out.1
      obtain ⟨A', c', rfl, hc', hr'⟩ := RdL.of_own encP_len hown hl
      have Hr := Lib.hid hr'
      have dn : decide (((k + j : Nat) : Int) < (n : Int)) = false := by simp; omega
      have dn2 : decide ((k : Int) + (j : Int) < (n : Int)) = false := by simp; omega
      have Hext := Lib.hid hext
      clear hown hr' hl hext
      go_wp2
      go_ret
      exact ⟨k, j, A', _, c', HH.out, HE.out, rfl, Hr.out, HX1.out.trans' Hext.out⟩

/-- the two blocks: the answer's, and the least one's so far -/
def MemMM (R : Nat) (a u : Int) (w : World) : Prop := R + 2 ≤ w.heap.size ∧ w.cell? ⟨R, 0, none⟩ = some (.int .i64 0) ∧ w.cell? ⟨R, 1, none⟩ = some (.int .i64 0) ∧ w.frozen? ⟨R, 0, none⟩ = false ∧ w.frozen? ⟨R, 1, none⟩ = false ∧
  w.cell? ⟨R + 1, 0, none⟩ = some (.int .i64 a) ∧ w.cell? ⟨R + 1, 1, none⟩ = some (.int .i64 u) ∧ w.frozen? ⟨R + 1, 0, none⟩ = false ∧ w.frozen? ⟨R + 1, 1, none⟩ = false

def Gives_minFunc (l : List Stp) (w : World) (e : Ending) (w' : World) : Prop := ∃ a u, (a, u) ∈ l ∧ (∀ s ∈ l, u ≤ s.2) ∧ e = .returned (.agg #[.int .i64 a, .int .i64 u]) ∧ Ext w w'
set_option maxHeartbeats 3200000 in
theorem minFunc (A : Option Addr) (n c : Nat) (l : List Stp) (w : World) (hr : RdP w A n l) (hn : n ≤ 100000) (h1 : 1 ≤ n) (hl : ∀ s ∈ l, 0 ≤ s.2 ∧ s.2 ≤ 20000) :
    Calls Try.prog 62 #[.slice A n c, .func (.func 63) #[] #[]] w (Gives_minFunc l w) := by
  have HR := Lib.hid hr; clear hr
  have HL := Lib.hid hl; clear hl
  obtain ⟨bb, off, a0, u0, rfl, hbb, hx, hd0, hd1⟩ := RdP.cut HR.out (k := 0) (by omega)
  have Hx := Lib.hid hx; clear hx
  simp only [Nat.zero_mul, Nat.add_zero] at hd0 hd1
  go_enter Try.func62, Try.ntmps62
  go_wp2
  obtain ⟨w1, hw1⟩ : ∃ w1 : World, w1 = (w.alloc (.cells #[.int .i64 0, .int .i64 0] 48)).alloc (.cells #[.int .i64 a0, .int .i64 u0] 48) := ⟨_, rfl⟩
  rw [← hw1]
  have hX : Ext w w1 := by rw [hw1]; exact ((Below.refl _ _).alloc (Nat.le_refl _) _).alloc (by simp) _
  have hsz : w.heap.size + 2 ≤ w1.heap.size := by rw [hw1]; simp
  have r0 : w1.cell? ⟨w.heap.size, 0, none⟩ = some (.int .i64 0) := by rw [hw1]; simp [go_sem]
  have r1 : w1.cell? ⟨w.heap.size, 1, none⟩ = some (.int .i64 0) := by rw [hw1]; simp [go_sem]
  have r2 : w1.frozen? ⟨w.heap.size, 0, none⟩ = false := by rw [hw1]; simp [go_sem]
  have r3 : w1.frozen? ⟨w.heap.size, 1, none⟩ = false := by rw [hw1]; simp [go_sem]
  have m0 : w1.cell? ⟨w.heap.size + 1, 0, none⟩ = some (.int .i64 a0) := by rw [hw1]; simp [go_sem]
  have m1 : w1.cell? ⟨w.heap.size + 1, 1, none⟩ = some (.int .i64 u0) := by rw [hw1]; simp [go_sem]
  have m2 : w1.frozen? ⟨w.heap.size + 1, 0, none⟩ = false := by rw [hw1]; simp [go_sem]
  have m3 : w1.frozen? ⟨w.heap.size + 1, 1, none⟩ = false := by rw [hw1]; simp [go_sem]
  clear hw1
  obtain ⟨R, HRb⟩ : ∃ R, Hid (R = w.heap.size) := ⟨_, rfl⟩
  rw [← HRb.out] at hsz r0 r1 r2 r3 m0 m1 m2 m3 ⊢
  replace hX : Below R w w1 := by rw [HRb.out]; exact hX
  go_loopw [6] (fun i wr => ∃ (k : Nat) (a u : Int), 1 ≤ k ∧ k ≤ n ∧ i = .int .i64 k ∧ Hid ((a, u) ∈ l.take k ∧ ∀ s ∈ l.take k, u ≤ s.2) ∧ MemMM R a u wr ∧ Below R w wr) (fun i _ => n - (intOf i).toNat)
  case atStart =>
    have h1t : l.take 1 = [(a0, u0)] := by rw [take_snoc' (k := 0) Hx.out]; rfl
    exact ⟨1, a0, u0, by omega, by omega, rfl, ⟨by rw [h1t]; simp, by rw [h1t]; simp⟩, ⟨hsz, r0, r1, r2, r3, m0, m1, m2, m3⟩, hX⟩
  case round =>
    clear r0 r1 r2 r3 m0 m1 m2 m3 hX hsz
    obtain ⟨k, a, u, hk1, hkn, rfl, HI, ⟨hsz, r0, r1, r2, r3, m0, m1, m2, m3⟩, hbel⟩ := hrel
    have hmem : (a, u) ∈ l := List.mem_of_mem_take HI.out.1
    have hub := HL.out _ hmem
    simp only at hub
    obtain ⟨hu0, hu1⟩ := hub
    by_cases hlt : k < n
    · obtain ⟨bb', off', a', u', hA, _, hx', he0, he1⟩ := RdP.cut HR.out (k := k) hlt
      injection hA with hA; injection hA with hA1 hA2 _; subst hA1; subst hA2
      have hbR : bb < R := by have := HRb.out; omega
      replace he0 := (hbel.cell (p := ⟨bb, off + k * 2, none⟩) hbR).trans he0
      replace he1 := (hbel.cell (p := ⟨bb, off + k * 2 + 1, none⟩) hbR).trans he1
      have Hx' := Lib.hid hx'; clear hx' hd0 hd1 Hx hmem
      have hub' := HL.out _ (List.mem_of_getElem? Hx'.out)
      simp only at hub'
      obtain ⟨hv0, hv1⟩ := hub'
      have hi0' : (0 : Int) ≤ (k : Int) := Int.natCast_nonneg _
      have hi1 : (k : Int) < (n : Int) := by omega
      have q1 := ExtW.cell he0
      have q2 := ExtW.cell he1
      have q3 := ExtW.cell m0
      have q4 := ExtW.cell m1
      have Hbel := Lib.hid hbel; clear hbel
      have HQ : Hid (∀ x : ExtW wr, Calls Try.prog 63 #[.agg #[.int .i64 a', .int .i64 u'], .agg #[.int .i64 a, .int .i64 u]] x.val fun e w' => e = .returned (.int .i64 (u' - u)) ∧ Ext x.val w') := fun x => stepsFree a' u' a u x.val ⟨hv0, hv1⟩ ⟨hu0, hu1⟩
      by_cases hc : u' < u
      · have HN : Hid ((a', u') ∈ l.take (k + 1) ∧ ∀ s ∈ l.take (k + 1), u' ≤ s.2) := by
          show _ ∧ _
          rw [take_snoc' Hx'.out]
          refine ⟨by simp, fun s hs => ?_⟩
          rcases List.mem_append.1 hs with hs | hs
          · have := HI.out.2 s hs; omega
          · simp at hs; subst hs; simp
        go_wp2
        refine wp_region_ext (by kernel_rfl) (by kernel_rfl) ?_
        repeat (go_big_quiet_step ((go_at_call 63; exact extq (HQ.out _))))
        refine wpQuiet_nil ?_
        rintro w2 ⟨⟨_, hx2⟩, rfl⟩
        have hs2 := hx2.size
        have f2 := (hx2.frozen (p := ⟨R + 1, 0, none⟩) (by simp; omega)).trans m2
        have f3 := (hx2.frozen (p := ⟨R + 1, 1, none⟩) (by simp; omega)).trans m3
        have f0 := (hx2.frozen (p := ⟨R, 0, none⟩) (by simp; omega)).trans r2
        have f1 := (hx2.frozen (p := ⟨R, 1, none⟩) (by simp; omega)).trans r3
        replace m0 := hx2.cell' m0
        replace m1 := hx2.cell' m1
        replace r0 := hx2.cell' r0
        replace r1 := hx2.cell' r1
        replace he0 := hx2.cell' he0
        replace he1 := hx2.cell' he1
        have HB2 : Hid (Below R w w2) := below_ext Hbel.out (by omega) hx2
        clear hx2 q1 q2 q3 q4 m2 m3 r2 r3
        go_wp2
        go_roundw
        case rel =>
          refine ⟨k + 1, a', u', by omega, by omega, by go_num, HN, ⟨by simp; omega, ?_, ?_, ?_, ?_, ?_, ?_, ?_, ?_⟩, ?_⟩
          all_goals first | (exact (HB2.out.setCell (by simp) _).setCell (by simp) _) | (simp [go_sem, World.cell?_setCell_far, *]; done)
        case measure => simp [intOf]; omega
      · have HN : Hid ((a, u) ∈ l.take (k + 1) ∧ ∀ s ∈ l.take (k + 1), u ≤ s.2) := by
          show _ ∧ _
          rw [take_snoc' Hx'.out]
          refine ⟨List.mem_append.2 (.inl HI.out.1), fun s hs => ?_⟩
          rcases List.mem_append.1 hs with hs | hs
          · exact HI.out.2 s hs
          · simp at hs; subst hs; simp; omega
        go_wp2
        refine wp_region_ext (by kernel_rfl) (by kernel_rfl) ?_
        repeat (go_big_quiet_step ((go_at_call 63; exact extq (HQ.out _))))
        refine wpQuiet_nil ?_
        rintro w2 ⟨⟨_, hx2⟩, rfl⟩
        have hs2 := hx2.size
        have HM : Hid (MemMM R a u w2) := ⟨by omega, hx2.cell' r0, hx2.cell' r1, (hx2.frozen (p := ⟨R, 0, none⟩) (by simp; omega)).trans r2, (hx2.frozen (p := ⟨R, 1, none⟩) (by simp; omega)).trans r3, hx2.cell' m0, hx2.cell' m1, (hx2.frozen (p := ⟨R + 1, 0, none⟩) (by simp; omega)).trans m2, (hx2.frozen (p := ⟨R + 1, 1, none⟩) (by simp; omega)).trans m3⟩
        have HB2 : Hid (Below R w w2) := below_ext Hbel.out (by omega) hx2
        clear hx2 q1 q2 q3 q4
        go_wp2
        go_roundw
        case rel => exact ⟨k + 1, a, u, by omega, by omega, by go_num, HN, HM.out, HB2.out⟩
        case measure => simp [intOf]; omega
    · have HE : Hid (l.take k = l) := take_all' (RdL.len HR.out) (by omega)
      have HF : Hid ((a, u) ∈ l ∧ ∀ s ∈ l, u ≤ s.2) := by have := HI.out; rw [HE.out] at this; exact this
      have Hbel := Lib.hid hbel; clear hbel hmem
      go_wp2
      have hfin := (Hbel.out.setCell (p := ⟨R, 0, none⟩) (Nat.le_refl _) (.int .i64 a)).setCell (p := ⟨R, 1, none⟩) (Nat.le_refl _) (.int .i64 u)
      refine bodyPost_ret (v := .agg #[.int .i64 a, .int .i64 u]) ?_ rfl ⟨a, u, HF.out.1, HF.out.2, rfl, by rw [HRb.out] at hfin; rw [HRb.out]; exact hfin⟩
      have z0 : ((wr.setCell ⟨R, 0, none⟩ (.int .i64 a)).setCell ⟨R, 1, none⟩ (.int .i64 u)).cell? ⟨R, 0, none⟩ = some (.int .i64 a) := by simp [go_sem, *]
      have z1 : ((wr.setCell ⟨R, 0, none⟩ (.int .i64 a)).setCell ⟨R, 1, none⟩ (.int .i64 u)).cell? ⟨R, 1, none⟩ = some (.int .i64 u) := by simp [go_sem, *]
      clear hfin r0 r1 r2 r3 m0 m1 m2 m3
      simp [results, Try.results62, go_sem, z0, z1]
end Go.Proofs.Ytbcpjdjlgmhohaa
