/-
  Walks: the document's answer: does a request fit at a time, and the first time, and the last one. Conditions: none.
-/
import Derived.Test.YtbcpjdjlgmhohaaWEnds
import Derived.Test.YtbcpjdjlgmhohaaWTimes
import Derived.Test.YtbcpjdjlgmhohaaMBase
namespace Go.Proofs.Ytbcpjdjlgmhohaa
open Go.RowKit

/-- does it fit at t? -/
def FitsP (l : List Stp) (f b n g t : Int) : Prop := f ≤ t ∧ t + g ≤ b ∧ (g = 0 ∨ n ≤ minF l t (t + g))
instance (l : List Stp) (f b n g t : Int) : Decidable (FitsP l f b n g t) := by unfold FitsP; infer_instance
def fitsB (l : List Stp) (f b n g t : Int) : Bool := decide (FitsP l f b n g t)
theorem fitsB_iff (l : List Stp) (f b n g t : Int) : fitsB l f b n g t = true ↔ FitsP l f b n g t := by simp [fitsB]
theorem fitsB_f (l : List Stp) (f b n g t : Int) : fitsB l f b n g t = false ↔ ¬ FitsP l f b n g t := by simp [fitsB]

set_option maxHeartbeats 1000000 in
theorem refFits (A : Option Addr) (m c : Nat) (l : List Stp) (f b n g t : Int) (w : World) (hr : RdP w A m l) (hn : m ≤ 9223372036854775807) (hp : Prof l)
    (hf : 0 ≤ f) (hb : b ≤ 1099511627775) (hg : 0 ≤ g ∧ g ≤ 1099511627775) (ht : -4611686018427387904 ≤ t ∧ t ≤ 4611686018427387904) :
    Calls Try.prog 29 #[.slice A m c, .agg #[.int .i64 f, .int .i64 b], .int .i64 n, .int .i64 g, .int .i64 t] w fun e w' => e = .returned (.bool (fitsB l f b n g t)) ∧ Ext w w' := by
  have HR := Lib.hid hr; clear hr
  obtain ⟨g0, g1⟩ := hg
  obtain ⟨t0, t1⟩ := ht
  by_cases h1 : t < f
  · have HE : Hid (fitsB l f b n g t = false) := (fitsB_f ..).2 (fun h => by have := h.1; omega)
    clear hp
    go_enter Try.func29, Try.ntmps29
    go_wp2
    go_ret
    exact ⟨ret_b HE.out.symm, (Below.refl _ _).alloc (Nat.le_refl _) _⟩
  by_cases h2 : b < t + g
  · have HE : Hid (fitsB l f b n g t = false) := (fitsB_f ..).2 (fun h => by have := h.2.1; omega)
    clear hp
    go_enter Try.func29, Try.ntmps29
    go_wp2
    go_ret
    exact ⟨ret_b HE.out.symm, (Below.refl _ _).alloc (Nat.le_refl _) _⟩
  by_cases h3 : g = 0
  · have HE : Hid (fitsB l f b n g t = true) := (fitsB_iff ..).2 ⟨by omega, by omega, .inl h3⟩
    have hz : (g == 0) = true := by simpa using h3
    replace h3 := Lib.hid h3
    clear hp
    go_enter Try.func29, Try.ntmps29
    go_wp2
    go_ret
    exact ⟨ret_b HE.out.symm, (Below.refl _ _).alloc (Nat.le_refl _) _⟩
  have hz : (g == 0) = false := by simpa using h3
  have HW : Hid (While l t (t + g)) := ⟨hp, (isT_iff _).2 (by omega), (isT_iff _).2 (by omega), by omega⟩
  clear hp
  by_cases h4 : n ≤ minF l t (t + g)
  · have HE : Hid (fitsB l f b n g t = true) := (fitsB_iff ..).2 ⟨by omega, by omega, .inr h4⟩
    go_enter Try.func29, Try.ntmps29
    go_wp2_with (go_at_call 52; refine (refEnds A m c l _ _ _ (HR.out.alloc' _) hn HW.out).mono ?_; rintro e w1 ⟨rfl, hx1⟩; have Hx1 := Lib.hid hx1; clear hx1)
    go_ret
    exact ⟨ret_b HE.out.symm, ((Below.refl _ _).alloc (Nat.le_refl _) _).trans (Hx1.out.mono (by simp))⟩
  · have HE : Hid (fitsB l f b n g t = false) := (fitsB_f ..).2 (fun h => by rcases h.2.2 with h | h <;> omega)
    go_enter Try.func29, Try.ntmps29
    go_wp2_with (go_at_call 52; refine (refEnds A m c l _ _ _ (HR.out.alloc' _) hn HW.out).mono ?_; rintro e w1 ⟨rfl, hx1⟩; have Hx1 := Lib.hid hx1; clear hx1)
    go_ret
    exact ⟨ret_b (by rw [HE.out]; simpa using h4), ((Below.refl _ _).alloc (Nat.le_refl _) _).trans (Hx1.out.mono (by simp))⟩

/-- the first one of some times -/
def firstTo (l : List Stp) (f b n g : Int) (ts : List Int) : Int := ts.foldl (fun best t => if 0 ≤ t ∧ FitsP l f b n g t ∧ (best < 0 ∨ t < best) then t else best) (-1)
theorem firstTo_snoc (l : List Stp) (f b n g : Int) (ts : List Int) (t : Int) :
    firstTo l f b n g (ts ++ [t]) = if 0 ≤ t ∧ FitsP l f b n g t ∧ (firstTo l f b n g ts < 0 ∨ t < firstTo l f b n g ts) then t else firstTo l f b n g ts := by
  simp only [firstTo, List.foldl_append, List.foldl_cons, List.foldl_nil]
  exact ite_congr rfl (fun _ => rfl) (fun _ => rfl)
/-- the last one of some times -/
def lastTo (l : List Stp) (f b n g : Int) (ts : List Int) : Int := ts.foldl (fun best t => if 0 ≤ t ∧ FitsP l f b n g t then max best t else best) (-1)
theorem lastTo_snoc (l : List Stp) (f b n g : Int) (ts : List Int) (t : Int) :
    lastTo l f b n g (ts ++ [t]) = if 0 ≤ t ∧ FitsP l f b n g t then max (lastTo l f b n g ts) t else lastTo l f b n g ts := by simp only [lastTo, List.foldl_append, List.foldl_cons, List.foldl_nil]
def firstF (l : List Stp) (f b n g : Int) : Int := firstTo l f b n g (timesL l f b g)
def lastF (l : List Stp) (f b n g : Int) : Int := lastTo l f b n g (timesL l f b g)
theorem timesL_bd {l : List Stp} {f b g : Int} (hf : 0 ≤ f ∧ f ≤ 1099511627775) (hb : 0 ≤ b ∧ b ≤ 1099511627775) (hg : 0 ≤ g ∧ g ≤ 1099511627775) (hl : ∀ (i : Nat) (a f : Int), l[i]? = some (a, f) → 0 ≤ a ∧ a ≤ 1099511627775) :
    ∀ {k : Nat} {t : Int}, (timesL l f b g)[k]? = some t → -4611686018427387904 ≤ t ∧ t ≤ 4611686018427387904 := by
  intro k t h
  have hm := List.mem_of_getElem? h
  simp only [timesL, List.mem_append, List.mem_cons, List.not_mem_nil, or_false, List.mem_flatMap] at hm
  rcases hm with (rfl | rfl) | ⟨⟨a, u⟩, hs, hm⟩
  · omega
  · omega
  · obtain ⟨i, hi⟩ := List.mem_iff_getElem?.1 hs
    have := hl i a u hi
    simp only at hm
    rcases hm with rfl | rfl | rfl | rfl <;> omega

set_option maxHeartbeats 2000000 in
theorem refFirst (A : Option Addr) (m c : Nat) (l : List Stp) (f b n g : Int) (w : World) (hr : RdP w A m l) (hn : m ≤ 100000) (hp : Prof l)
    (hf : 0 ≤ f ∧ f ≤ 1099511627775) (hb : 0 ≤ b ∧ b ≤ 1099511627775) (hg : 0 ≤ g ∧ g ≤ 1099511627775) :
    Calls Try.prog 30 #[.slice A m c, .agg #[.int .i64 f, .int .i64 b], .int .i64 n, .int .i64 g] w fun e w' => e = .returned (.int .i64 (firstF l f b n g)) ∧ Ext w w' := by
  have HR := Lib.hid hr; clear hr
  have HB := Lib.hid (fun k t => timesL_bd hf hb hg hp.times (k := k) (t := t))
  have HP := Lib.hid hp; clear hp
  go_enter Try.func30, Try.ntmps30
  go_wp2_with (go_at_call 53; refine (refTimes A m c l f b g _ (HR.out.alloc' _) hn hf hb hg HP.out.times).mono ?_; rintro e w1 ⟨A1, m1, c1, rfl, hr1, hx1⟩; have hcell := hx1.cell' (p := ⟨w.heap.size, 0, none⟩) (by simp [go_sem]; rfl); have hcell1 := hx1.cell' (p := ⟨w.heap.size, 1, none⟩) (by simp [go_sem]; rfl); have Hx1 := Lib.hid hx1; have HR1 := Lib.hid hr1; clear hx1 hr1)
  have HX0 : Hid (Ext w w1) := ((Below.refl _ _).alloc (Nat.le_refl _) _).trans (Hx1.out.mono (by simp))
  have hm1 : m1 = 2 + m * 4 := by rw [← RdL.len HR1.out, timesL_len, RdL.len HR.out]
  replace hm1 : m1 ≤ 2 + 100000 * 4 := by omega
  go_loopw [10, 11] (fun v i wr => ∃ k : Nat, k ≤ m1 ∧ i = .int .i64 k ∧ v = .int .i64 (firstTo l f b n g ((timesL l f b g).take k)) ∧ Ext w1 wr) (fun _ i _ => m1 - (intOf i).toNat)
  case atStart => exact ⟨0, by omega, rfl, rfl, Ext.rfl'⟩
  case round =>
    obtain ⟨k, hk, rfl, rfl, hext⟩ := hrel
    by_cases hlt : k < m1
    · obtain ⟨bb, off, t, rfl, hbb, hx, hd0⟩ := RdI.cut HR1.out hlt
      have HT := Lib.hid (HB.out _ _ hx)
      have HS : Hid (firstTo l f b n g ((timesL l f b g).take (k + 1)) = if 0 ≤ t ∧ FitsP l f b n g t ∧ (firstTo l f b n g ((timesL l f b g).take k) < 0 ∨ t < firstTo l f b n g ((timesL l f b g).take k)) then t else firstTo l f b n g ((timesL l f b g).take k)) := by
        show _ = _
        rw [take_snoc' hx, firstTo_snoc]
      have q1 := ExtW.cell (hext.cell' hd0)
      have q2 := ExtW.cell (hext.cell' hcell)
      have q3 := ExtW.cell (hext.cell' hcell1)
      have d0 := hext.cell' hd0
      clear hx hd0
      obtain ⟨B, HBd⟩ : ∃ B, Hid (B = firstTo l f b n g ((timesL l f b g).take k)) := ⟨_, rfl⟩
      rw [← HBd.out]
      have HQ : Hid (∀ (v : Bool), fitsB l f b n g t = v → ∀ x : ExtW wr, Calls Try.prog 29 #[.slice A m c, .agg #[.int .i64 f, .int .i64 b], .int .i64 n, .int .i64 g, .int .i64 t] x.val fun e w' => e = .returned (.bool v) ∧ Ext x.val w') := fun v hv x => by
        subst hv
        exact refFits A m c l f b n g t x.val (HR.out.ext (HX0.out.trans' (hext.trans' x.ext))) (by omega) HP.out hf.1 hb.2 hg HT.out
      have hi0' : (0 : Int) ≤ (k : Int) := Int.natCast_nonneg _
      have hi1 : (k : Int) < (m1 : Int) := by omega
      have Hext := Lib.hid hext; clear hext
      by_cases ht : t < 0
      · have dt : decide (0 ≤ t) = false := by simpa using ht
        go_wp2
        refine wp_region_ext (by kernel_rfl) (by kernel_rfl) ?_
        repeat (go_big_quiet_step ((go_at_call 29; exact extq (HQ.out _))))
        refine wpQuiet_nil ?_
        rintro _ ⟨⟨w2, hx2⟩, rfl⟩
        have d2 := hx2.cell' d0
        go_wp2
        go_roundw
        case rel => exact ⟨k + 1, by omega, by go_num, by rw [HS.out, if_neg (fun h => by omega), HBd.out], Hext.out.trans' hx2⟩
        case measure => simp [intOf]; omega
      replace ht : 0 ≤ t := by omega
      by_cases hv : fitsB l f b n g t = false
      · have HF := Lib.hid ((fitsB_f ..).1 hv)
        replace HQ := Lib.hid (HQ.out _ hv); clear hv
        go_wp2
        refine wp_region_ext (by kernel_rfl) (by kernel_rfl) ?_
        repeat (go_big_quiet_step ((go_at_call 29; exact extq (HQ.out _))))
        refine wpQuiet_nil ?_
        rintro _ ⟨⟨w2, hx2⟩, rfl⟩
        have d2 := hx2.cell' d0
        go_wp2
        go_roundw
        case rel => exact ⟨k + 1, by omega, by go_num, by rw [HS.out, if_neg (fun h => HF.out h.2.1), HBd.out], Hext.out.trans' hx2⟩
        case measure => simp [intOf]; omega
      replace hv : fitsB l f b n g t = true := by simpa using hv
      have HF := Lib.hid ((fitsB_iff ..).1 hv)
      replace HQ := Lib.hid (HQ.out _ hv); clear hv
      by_cases h1 : B < 0
      · skip
        go_wp2
        refine wp_region_ext (by kernel_rfl) (by kernel_rfl) ?_
        repeat (go_big_quiet_step ((go_at_call 29; exact extq (HQ.out _))))
        refine wpQuiet_nil ?_
        rintro _ ⟨⟨w2, hx2⟩, rfl⟩
        have d2 := hx2.cell' d0
        go_wp2
        go_roundw
        case rel => exact ⟨k + 1, by omega, by go_num, by rw [HS.out, if_pos ⟨ht, HF.out, .inl (by rw [← HBd.out]; exact h1)⟩], Hext.out.trans' hx2⟩
        case measure => simp [intOf]; omega
      have dB : decide (B < 0) = false := by simpa using h1
      by_cases h2 : t < B
      · skip
        go_wp2
        refine wp_region_ext (by kernel_rfl) (by kernel_rfl) ?_
        repeat (go_big_quiet_step ((go_at_call 29; exact extq (HQ.out _))))
        refine wpQuiet_nil ?_
        rintro _ ⟨⟨w2, hx2⟩, rfl⟩
        have d2 := hx2.cell' d0
        go_wp2
        go_roundw
        case rel => exact ⟨k + 1, by omega, by go_num, by rw [HS.out, if_pos ⟨ht, HF.out, .inr (by rw [← HBd.out]; exact h2)⟩], Hext.out.trans' hx2⟩
        case measure => simp [intOf]; omega
      · have dt2 : decide (t < B) = false := by simpa using h2
        go_wp2
        refine wp_region_ext (by kernel_rfl) (by kernel_rfl) ?_
        repeat (go_big_quiet_step ((go_at_call 29; exact extq (HQ.out _))))
        refine wpQuiet_nil ?_
        rintro _ ⟨⟨w2, hx2⟩, rfl⟩
        have d2 := hx2.cell' d0
        go_wp2
        go_roundw
        case rel => exact ⟨k + 1, by omega, by go_num, by rw [HS.out, if_neg (fun h => by have := h.2.2; rw [← HBd.out] at this; omega), HBd.out], Hext.out.trans' hx2⟩
        case measure => simp [intOf]; omega
    · have HE : Hid ((timesL l f b g).take k = timesL l f b g) := take_all' (RdL.len HR1.out) (by omega)
      go_wp2
      go_ret
      exact ⟨ret_i (by rw [HE.out]; rfl), HX0.out.trans' hext⟩

end Go.Proofs.Ytbcpjdjlgmhohaa
