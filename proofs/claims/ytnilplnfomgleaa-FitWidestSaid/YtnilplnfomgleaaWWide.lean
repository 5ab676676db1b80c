/-
  Walks: the most nodes that are free so long. Conditions: none.
-/
import Derived.Test.YtnilplnfomgleaaLEnds
namespace Go.Proofs.Ytnilplnfomgleaa
open Go.RowKit

/-- N nodes, from T on; no more -/
def WidOK (l : List Stp) (f b g N T : Int) : Prop := 0 ≤ N ∧ N ≤ 10000 ∧ (N = 0 → T = f) ∧ (0 < N → firstR l f b N g = (T, 0)) ∧ ∀ n, N < n → n ≤ 10000 → (firstR l f b n g).2 ≠ 0
def GivesWid (l : List Stp) (f b g : Int) (w : World) (e : Ending) (w' : World) : Prop := ∃ N T, WidOK l f b g N T ∧ e = .returned (.tuple #[.int .i64 N, .int .i64 T, .int .i64 0]) ∧ Ext w w'

set_option maxHeartbeats 1000000 in
theorem wid_bad (A : Option Addr) (m c : Nat) (l : List Stp) (f b g : Int) (w : World) (hr : RdP w A m l) (hn : m ≤ 9223372036854775807) (hq : ¬ Req l f b 1 g) :
    Calls Try.prog 20 #[.slice A m c, .agg #[.int .i64 f, .int .i64 b], .int .i64 g] w fun e w' => e = .returned (.tuple #[.int .i64 0, .int .i64 0, .int .i64 2]) ∧ Ext w w' := by
  have HR := Lib.hid hr; clear hr
  have HQ := Lib.hid (reqE_f hq)
  clear hq
  go_enter Try.func20, Try.ntmps20
  have HR0 := Lib.hid (HR.out.alloc' (.cells #[.int .i64 f, .int .i64 b] 24))
  have c0 : (w.alloc (.cells #[.int .i64 f, .int .i64 b] 24)).cell? ⟨w.heap.size, 0, none⟩ = some (.int .i64 f) := by simp [go_sem]
  have c1 : (w.alloc (.cells #[.int .i64 f, .int .i64 b] 24)).cell? ⟨w.heap.size, 1, none⟩ = some (.int .i64 b) := by simp [go_sem]
  have HX : Hid (Ext w (w.alloc (.cells #[.int .i64 f, .int .i64 b] 24))) := (Below.refl _ _).alloc (Nat.le_refl _) _
  clear HR
  have HR := HR0; clear HR0
  go_wp2_with fail
  refine (fitRequest A m c l f b 1 g _ HR.out (by omega)).mono ?_
  rintro e w1 ⟨rfl, hx1⟩
  replace c0 := hx1.cell' c0
  replace c1 := hx1.cell' c1
  replace HR := Lib.hid (HR.out.ext hx1)
  replace HX := Lib.hid (HX.out.trans' hx1)
  clear hx1
  rw [HQ.out]
  go_wp2
  go_ret3
  exact ⟨rfl, HX.out⟩

set_option maxHeartbeats 1000000 in
theorem wid_zero (A : Option Addr) (m c : Nat) (l : List Stp) (f b g : Int) (w : World) (hr : RdP w A m l) (hn : m ≤ 9223372036854775807) (hq : Req l f b 1 g) (hg : g = 0) :
    Calls Try.prog 20 #[.slice A m c, .agg #[.int .i64 f, .int .i64 b], .int .i64 g] w fun e w' => e = .returned (.tuple #[.int .i64 0, .int .i64 0, .int .i64 2]) ∧ Ext w w' := by
  have HR := Lib.hid hr; clear hr
  have HQ := Lib.hid (reqE_t hq)
  have dg : (g == 0) = true := by simpa using hg
  clear hq
  replace hg := Lib.hid hg
  go_enter Try.func20, Try.ntmps20
  have HR0 := Lib.hid (HR.out.alloc' (.cells #[.int .i64 f, .int .i64 b] 24))
  have c0 : (w.alloc (.cells #[.int .i64 f, .int .i64 b] 24)).cell? ⟨w.heap.size, 0, none⟩ = some (.int .i64 f) := by simp [go_sem]
  have c1 : (w.alloc (.cells #[.int .i64 f, .int .i64 b] 24)).cell? ⟨w.heap.size, 1, none⟩ = some (.int .i64 b) := by simp [go_sem]
  have HX : Hid (Ext w (w.alloc (.cells #[.int .i64 f, .int .i64 b] 24))) := (Below.refl _ _).alloc (Nat.le_refl _) _
  clear HR
  have HR := HR0; clear HR0
  go_wp2_with fail
  refine (fitRequest A m c l f b 1 g _ HR.out (by omega)).mono ?_
  rintro e w1 ⟨rfl, hx1⟩
  replace c0 := hx1.cell' c0
  replace c1 := hx1.cell' c1
  replace HR := Lib.hid (HR.out.ext hx1)
  replace HX := Lib.hid (HX.out.trans' hx1)
  clear hx1
  rw [HQ.out]
  go_wp2
  go_ret3
  exact ⟨rfl, HX.out⟩

set_option maxHeartbeats 1000000 in
theorem wid_room (A : Option Addr) (m c : Nat) (l : List Stp) (f b g : Int) (w : World) (hr : RdP w A m l) (hn : m ≤ 9223372036854775807) (hq : Req l f b 1 g) (hg : g ≠ 0) (hb : b - f < g) :
    Calls Try.prog 20 #[.slice A m c, .agg #[.int .i64 f, .int .i64 b], .int .i64 g] w fun e w' => e = .returned (.tuple #[.int .i64 0, .int .i64 0, .int .i64 70]) ∧ Ext w w' := by
  have HR := Lib.hid hr; clear hr
  have HQ := Lib.hid (reqE_t hq)
  have dg : (g == 0) = false := by simpa using hg
  have hbd := hq.bd
  clear hq hg
  obtain ⟨f0, f1, b0, b1, g0, g1⟩ := hbd
  go_enter Try.func20, Try.ntmps20
  have HR0 := Lib.hid (HR.out.alloc' (.cells #[.int .i64 f, .int .i64 b] 24))
  have c0 : (w.alloc (.cells #[.int .i64 f, .int .i64 b] 24)).cell? ⟨w.heap.size, 0, none⟩ = some (.int .i64 f) := by simp [go_sem]
  have c1 : (w.alloc (.cells #[.int .i64 f, .int .i64 b] 24)).cell? ⟨w.heap.size, 1, none⟩ = some (.int .i64 b) := by simp [go_sem]
  have HX : Hid (Ext w (w.alloc (.cells #[.int .i64 f, .int .i64 b] 24))) := (Below.refl _ _).alloc (Nat.le_refl _) _
  clear HR
  have HR := HR0; clear HR0
  go_wp2_with fail
  refine (fitRequest A m c l f b 1 g _ HR.out (by omega)).mono ?_
  rintro e w1 ⟨rfl, hx1⟩
  replace c0 := hx1.cell' c0
  replace c1 := hx1.cell' c1
  replace HR := Lib.hid (HR.out.ext hx1)
  replace HX := Lib.hid (HX.out.trans' hx1)
  clear hx1
  rw [HQ.out]
  go_wp2
  go_ret3
  exact ⟨rfl, HX.out⟩

set_option maxHeartbeats 2000000 in
theorem wid_ok (A : Option Addr) (m c : Nat) (l : List Stp) (f b g : Int) (w : World) (hr : RdP w A m l) (hn : m ≤ 9223372036854775807) (hq : Req l f b 1 g) (hg : g ≠ 0) (hb : g ≤ b - f) :
    Calls Try.prog 20 #[.slice A m c, .agg #[.int .i64 f, .int .i64 b], .int .i64 g] w (GivesWid l f b g w) := by
  have HR := Lib.hid hr; clear hr
  have HQ := Lib.hid (reqE_t hq)
  have dg : (g == 0) = false := by simpa using hg
  have hbd := hq.bd
  clear hq hg
  obtain ⟨f0, f1, b0, b1, g0, g1⟩ := hbd
  go_enter Try.func20, Try.ntmps20
  have HR0 := Lib.hid (HR.out.alloc' (.cells #[.int .i64 f, .int .i64 b] 24))
  have c0 : (w.alloc (.cells #[.int .i64 f, .int .i64 b] 24)).cell? ⟨w.heap.size, 0, none⟩ = some (.int .i64 f) := by simp [go_sem]
  have c1 : (w.alloc (.cells #[.int .i64 f, .int .i64 b] 24)).cell? ⟨w.heap.size, 1, none⟩ = some (.int .i64 b) := by simp [go_sem]
  have HX : Hid (Ext w (w.alloc (.cells #[.int .i64 f, .int .i64 b] 24))) := (Below.refl _ _).alloc (Nat.le_refl _) _
  clear HR
  have HR := HR0; clear HR0
  go_wp2_with fail
  refine (fitRequest A m c l f b 1 g _ HR.out (by omega)).mono ?_
  rintro e w1 ⟨rfl, hx1⟩
  replace c0 := hx1.cell' c0
  replace c1 := hx1.cell' c1
  replace HR := Lib.hid (HR.out.ext hx1)
  replace HX := Lib.hid (HX.out.trans' hx1)
  clear hx1
  rw [HQ.out]
  go_wp2
  go_loopw [10, 11] (fun x y wr => ∃ lo hi : Int, 0 ≤ lo ∧ lo ≤ hi ∧ hi ≤ 10000 ∧ x = .int .i64 lo ∧ y = .int .i64 hi ∧ Hid ((lo = 0 ∨ (firstR l f b lo g).2 = 0) ∧ ∀ n, hi < n → n ≤ 10000 → (firstR l f b n g).2 ≠ 0) ∧ Ext w1 wr) (fun x y _ => (intOf y - intOf x).toNat)
  case atStart => exact ⟨0, 10000, by omega, by omega, by omega, rfl, rfl, ⟨.inl rfl, fun n h1 h2 => by omega⟩, Ext.rfl'⟩
  case round =>
    obtain ⟨lo, hi, hlo, hlh, hhi, rfl, rfl, HI, hext⟩ := hrel
    have HR' := Lib.hid (HR.out.ext hext)
    have d0 := hext.cell' c0
    have d1 := hext.cell' c1
    have Hext := Lib.hid hext; clear hext
    by_cases hlt : lo < hi
    · obtain ⟨M, HM⟩ : ∃ M, Hid ((lo + hi + 1) / 2 = M) := ⟨_, rfl⟩
      have hM : lo < M ∧ M ≤ hi := by have := HM.out; omega
      obtain ⟨M0, M1⟩ := hM
      obtain ⟨p, e, HE⟩ : ∃ p e, Hid (firstR l f b M g = (p, e)) := ⟨_, _, rfl⟩
      by_cases he : e = 0
      · subst he
        have HN : Hid ((M = 0 ∨ (firstR l f b M g).2 = 0) ∧ ∀ n, hi < n → n ≤ 10000 → (firstR l f b n g).2 ≠ 0) := ⟨.inr (by rw [HE.out]), HI.out.2⟩
        go_wp2_with fail
        rw [HM.out]
        refine (fitFirst A m c l f b M g _ HR'.out (by omega)).mono ?_
        rintro e w2 ⟨rfl, hx2⟩
        have HX2 := Lib.hid (Hext.out.trans' hx2); clear hx2
        rw [HE.out]
        go_wp2
        go_roundw
        case rel => exact ⟨M, hi, by omega, by omega, by omega, rfl, rfl, HN, HX2.out⟩
        case measure => simp [intOf]; omega
      · have de : (e == 0) = false := by simpa using he
        have HN : Hid ((lo = 0 ∨ (firstR l f b lo g).2 = 0) ∧ ∀ n, M - 1 < n → n ≤ 10000 → (firstR l f b n g).2 ≠ 0) := by
          refine ⟨HI.out.1, fun n h1 h2 h3 => ?_⟩
          obtain ⟨hq, ht, _⟩ := err_ok h3
          have hq' : Req l f b M g := ⟨hq.1, hq.2.1, hq.2.2.1, by omega, by omega, hq.2.2.2.2.2⟩
          have := err_room hq' (fits_less (by omega) (Int.le_refl f) (Int.le_refl b) (show M ≤ n by omega) (Int.le_refl g) ht)
          rw [HE.out] at this
          exact he this
        go_wp2_with fail
        rw [HM.out]
        refine (fitFirst A m c l f b M g _ HR'.out (by omega)).mono ?_
        rintro e w2 ⟨rfl, hx2⟩
        have HX2 := Lib.hid (Hext.out.trans' hx2); clear hx2
        rw [HE.out]
        go_wp2
        go_roundw
        case rel => exact ⟨lo, M - 1, by omega, by omega, by omega, rfl, by go_num, HN, HX2.out⟩
        case measure => simp [intOf]; omega
    · obtain rfl : lo = hi := by omega
      by_cases h0 : lo = 0
      · subst h0
        have HW : Hid (WidOK l f b g 0 f) := ⟨by omega, by omega, fun _ => rfl, fun h => absurd h (by omega), HI.out.2⟩
        go_wp2
        go_quiet (fail)
        go_wp2
        go_ret3
        exact ⟨0, f, HW.out, rfl, below_drewN' (HX.out.trans' Hext.out) _⟩
      · have dz : (lo == 0) = false := by simpa using h0
        obtain ⟨p, e, HE⟩ : ∃ p e, Hid (firstR l f b lo g = (p, e)) := ⟨_, _, rfl⟩
        have he : e = 0 := by
          rcases HI.out.1 with h | h
          · exact absurd h h0
          · rw [HE.out] at h; exact h
        subst he
        have HW : Hid (WidOK l f b g lo p) := ⟨by omega, by omega, fun h => absurd h h0, fun _ => HE.out, HI.out.2⟩
        clear h0
        go_wp2_with fail
        refine (fitFirst A m c l f b lo g _ HR'.out (by omega)).mono ?_
        rintro e w2 ⟨rfl, hx2⟩
        have HX2 := Lib.hid (Hext.out.trans' hx2); clear hx2
        rw [HE.out]
        go_wp2
        go_ret3
        exact ⟨lo, p, HW.out, rfl, HX.out.trans' HX2.out⟩

/-- the document's -/
def widTo (l : List Stp) (f b g : Int) (ts : List Int) : Int := ts.foldl (fun n t => if 0 ≤ t ∧ FitsP l f b 1 g t then max n (minF l t (t + g)) else n) 0
theorem widTo_snoc (l : List Stp) (f b g : Int) (ts : List Int) (t : Int) : widTo l f b g (ts ++ [t]) = if 0 ≤ t ∧ FitsP l f b 1 g t then max (widTo l f b g ts) (minF l t (t + g)) else widTo l f b g ts := by
  simp only [widTo, List.foldl_append, List.foldl_cons, List.foldl_nil]
theorem widTo_is (l : List Stp) (f b g : Int) (ts : List Int) : 0 ≤ widTo l f b g ts ∧ (∀ t ∈ ts, 0 ≤ t → FitsP l f b 1 g t → minF l t (t + g) ≤ widTo l f b g ts) ∧
    (widTo l f b g ts = 0 ∨ ∃ t ∈ ts, 0 ≤ t ∧ FitsP l f b 1 g t ∧ widTo l f b g ts = minF l t (t + g)) := by
  suffices H : ∀ r : List Int, 0 ≤ widTo l f b g r.reverse ∧ (∀ t ∈ r.reverse, 0 ≤ t → FitsP l f b 1 g t → minF l t (t + g) ≤ widTo l f b g r.reverse) ∧
    (widTo l f b g r.reverse = 0 ∨ ∃ t ∈ r.reverse, 0 ≤ t ∧ FitsP l f b 1 g t ∧ widTo l f b g r.reverse = minF l t (t + g)) by
    have := H ts.reverse
    simpa using this
  intro r
  induction r with
  | nil => simp [widTo]
  | cons t r ih =>
    rw [List.reverse_cons, widTo_snoc]
    generalize r.reverse = ts at *
    obtain ⟨i1, i2, i3⟩ := ih
    by_cases hc : 0 ≤ t ∧ FitsP l f b 1 g t
    · rw [if_pos hc]
      refine ⟨by omega, fun s hs s0 hs' => ?_, ?_⟩
      · rcases List.mem_append.1 hs with hs | hs
        · have := i2 s hs s0 hs'; omega
        · simp at hs; subst hs; omega
      · rcases Int.le_total (widTo l f b g ts) (minF l t (t + g)) with h | h
        · rw [Int.max_eq_right h]; exact .inr ⟨t, by simp, hc.1, hc.2, rfl⟩
        · rw [Int.max_eq_left h]
          rcases i3 with i3 | ⟨s, hs, q1, q2, q3⟩
          · exact .inl i3
          · exact .inr ⟨s, by simp [hs], q1, q2, q3⟩
    · rw [if_neg hc]
      refine ⟨i1, fun s hs s0 hs' => ?_, ?_⟩
      · rcases List.mem_append.1 hs with hs | hs
        · exact i2 s hs s0 hs'
        · simp at hs; subst hs; exact absurd ⟨s0, hs'⟩ hc
      · rcases i3 with i3 | ⟨s, hs, q1, q2, q3⟩
        · exact .inl i3
        · exact .inr ⟨s, by simp [hs], q1, q2, q3⟩
theorem freeT_le {l : List Stp} (hp : Prof l) (t : Int) : freeT l t ≤ 10000 := by
  have hm : ∀ s ∈ l, s.2 ≤ 10000 := fun s hs => by
    obtain ⟨i, hi⟩ := List.mem_iff_getElem?.1 hs
    exact (hp.2.2.2 i (by have := (List.getElem?_eq_some_iff.1 hi).1; omega) s.1 s.2 hi).2.2.1
  unfold freeT
  suffices H : ∀ (m : List Stp) (z : Int), (∀ s ∈ m, s.2 ≤ 10000) → z ≤ 10000 → m.foldl (fun n s => if s.1 ≤ t then s.2 else n) z ≤ 10000 from H l 0 hm (by omega)
  intro m
  induction m with
  | nil => intro z _ hz; exact hz
  | cons s m ih =>
    intro z hm hz
    rw [List.foldl_cons]
    refine ih _ (fun s hs => hm s (by simp [hs])) ?_
    split
    · exact hm s (by simp)
    · exact hz
theorem minF_le {l : List Stp} (hp : Prof l) (t e : Int) : minF l t e ≤ 10000 := by
  have h1 := (le_minTo l l t e (minF l t e)).1 (Int.le_refl _)
  have := freeT_le hp t
  omega
theorem wid_same {l : List Stp} {f b g N T : Int} (hq : Req l f b 1 g) (hg : g ≠ 0) (h : WidOK l f b g N T) : widTo l f b g (timesL l f b g) = N := by
  obtain ⟨h0, h1, h2, h3, h4⟩ := h
  obtain ⟨i1, i2, i3⟩ := widTo_is l f b g (timesL l f b g)
  have hbd := hq.bd
  have le1 : widTo l f b g (timesL l f b g) ≤ N := by
    rcases i3 with i3 | ⟨t, ht, t0, t1, t2⟩
    · omega
    · rw [t2]
      rcases Int.lt_or_le N (minF l t (t + g)) with hlt | hle
      · exfalso
        have hk := minF_le hq.1 t (t + g)
        have hq' : Req l f b (minF l t (t + g)) g := ⟨hq.1, hq.2.1, hq.2.2.1, by omega, hk, hq.2.2.2.2.2⟩
        exact h4 _ hlt hk (err_room hq' ⟨t1.1, t1.2.1, .inr (Int.le_refl _)⟩)
      · exact hle
  have le2 : N ≤ widTo l f b g (timesL l f b g) := by
    rcases Int.lt_or_le 0 N with hpos | hz
    · have hN := h3 hpos
      obtain ⟨hqN, t1, _, _⟩ := err_ok (l := l) (f := f) (b := b) (n := N) (g := g) (by rw [hN])
      rw [hN] at t1
      simp only at t1
      have hT : T ∈ timesL l f b g := by
        rcases ha : allF l f b N g with _ | ⟨p, r⟩
        · rw [firstR_none hqN ha] at hN; simp at hN
        · rw [firstR_some hqN ha] at hN
          have := (all_times hqN p (by rw [ha]; simp)).1
          injection hN with hN _
          rwa [hN] at this
      have hle : N ≤ minF l T (T + g) := by
        rcases t1.2.2 with h | h
        · exact absurd h hg
        · exact h
      have := i2 T hT (by have := t1.1; omega) ⟨t1.1, t1.2.1, .inr (by omega)⟩
      omega
    · omega
  omega

set_option maxHeartbeats 2000000 in
theorem refWidest (A : Option Addr) (m c : Nat) (l : List Stp) (f b g : Int) (w : World) (hr : RdP w A m l) (hn : m ≤ 100000) (hp : Prof l)
    (hf : 0 ≤ f ∧ f ≤ 1099511627775) (hb : 0 ≤ b ∧ b ≤ 1099511627775) (hg : 0 < g ∧ g ≤ 1099511627775) :
    Calls Try.prog 21 #[.slice A m c, .agg #[.int .i64 f, .int .i64 b], .int .i64 g] w fun e w' => e = .returned (.int .i64 (widTo l f b g (timesL l f b g))) ∧ Ext w w' := by
  have HR := Lib.hid hr; clear hr
  obtain ⟨g0, g1⟩ := hg
  have HB := Lib.hid (fun k t => timesL_bd hf hb (g := g) (by omega) hp.times (k := k) (t := t))
  have HP := Lib.hid hp; clear hp
  go_enter Try.func21, Try.ntmps21
  go_wp2_with (go_at_call 26; refine (refTimes A m c l f b g _ (HR.out.alloc' _) hn hf hb (by omega) HP.out.times).mono ?_; rintro e w1 ⟨A1, m1, c1, rfl, hr1, hx1⟩; have hcell := hx1.cell' (p := ⟨w.heap.size, 0, none⟩) (by simp [go_sem]; rfl); have hcell1 := hx1.cell' (p := ⟨w.heap.size, 1, none⟩) (by simp [go_sem]; rfl); have Hx1 := Lib.hid hx1; have HR1 := Lib.hid hr1; clear hx1 hr1)
  have HX0 : Hid (Ext w w1) := ((Below.refl _ _).alloc (Nat.le_refl _) _).trans (Hx1.out.mono (by simp))
  have hm1 : m1 = 2 + m * 4 := by rw [← RdL.len HR1.out, timesL_len, RdL.len HR.out]
  replace hm1 : m1 ≤ 2 + 100000 * 4 := by omega
  have em := max_go
  go_loopw [7, 9] (fun v i wr => ∃ k : Nat, k ≤ m1 ∧ i = .int .i64 k ∧ v = .int .i64 (widTo l f b g ((timesL l f b g).take k)) ∧ Ext w1 wr) (fun _ i _ => m1 - (intOf i).toNat)
  case atStart => exact ⟨0, by omega, rfl, rfl, Ext.rfl'⟩
  case round =>
    obtain ⟨k, hk, rfl, rfl, hext⟩ := hrel
    by_cases hlt : k < m1
    · obtain ⟨bb, off, t, rfl, hbb, hx, hd0⟩ := RdI.cut HR1.out hlt
      have HT := Lib.hid (HB.out _ _ hx)
      have HS : Hid (widTo l f b g ((timesL l f b g).take (k + 1)) = if 0 ≤ t ∧ FitsP l f b 1 g t then max (widTo l f b g ((timesL l f b g).take k)) (minF l t (t + g)) else widTo l f b g ((timesL l f b g).take k)) := by
        show _ = _
        rw [take_snoc' hx, widTo_snoc]
      have q1 := ExtW.cell (hext.cell' hd0)
      have q2 := ExtW.cell (hext.cell' hcell)
      have q3 := ExtW.cell (hext.cell' hcell1)
      have d0 := hext.cell' hd0
      clear hx hd0
      obtain ⟨B, HBd⟩ : ∃ B, Hid (B = widTo l f b g ((timesL l f b g).take k)) := ⟨_, rfl⟩
      rw [← HBd.out]
      have HQ : Hid (∀ (v : Bool), fitsB l f b 1 g t = v → ∀ x : ExtW wr, Calls Try.prog 19 #[.slice A m c, .agg #[.int .i64 f, .int .i64 b], .int .i64 1, .int .i64 g, .int .i64 t] x.val fun e w' => e = .returned (.bool v) ∧ Ext x.val w') := fun v hv x => by
        subst hv
        exact refFits A m c l f b 1 g t x.val (HR.out.ext (HX0.out.trans' (hext.trans' x.ext))) (by omega) HP.out hf.1 hb.2 ⟨by omega, g1⟩ HT.out
      have HR2 := Lib.hid (HR.out.ext (HX0.out.trans' hext))
      have hi0' : (0 : Int) ≤ (k : Int) := Int.natCast_nonneg _
      have hi1 : (k : Int) < (m1 : Int) := by omega
      have Hext := Lib.hid hext; clear hext
      by_cases ht : t < 0
      · have dt : decide (0 ≤ t) = false := by simpa using ht
        go_wp2
        refine wp_region_ext (by kernel_rfl) (by kernel_rfl) ?_
        repeat (go_big_quiet_step ((go_at_call 19; exact extq (HQ.out _))))
        refine wpQuiet_nil ?_
        rintro w2 ⟨⟨_, hx2⟩, rfl⟩
        have d2 := hx2.cell' d0
        go_wp2
        go_roundw
        case rel => exact ⟨k + 1, by omega, by go_num, by rw [HS.out, if_neg (fun h => by omega), HBd.out], Hext.out.trans' hx2⟩
        case measure => simp [intOf]; omega
      replace ht : 0 ≤ t := by omega
      by_cases hv : fitsB l f b 1 g t = false
      · have HF := Lib.hid ((fitsB_f ..).1 hv)
        replace HQ := Lib.hid (HQ.out _ hv); clear hv
        go_wp2
        refine wp_region_ext (by kernel_rfl) (by kernel_rfl) ?_
        repeat (go_big_quiet_step ((go_at_call 19; exact extq (HQ.out _))))
        refine wpQuiet_nil ?_
        rintro w2 ⟨⟨_, hx2⟩, rfl⟩
        have d2 := hx2.cell' d0
        go_wp2
        go_roundw
        case rel => exact ⟨k + 1, by omega, by go_num, by rw [HS.out, if_neg (fun h => HF.out h.2), HBd.out], Hext.out.trans' hx2⟩
        case measure => simp [intOf]; omega
      replace hv : fitsB l f b 1 g t = true := by simpa using hv
      have HF := Lib.hid ((fitsB_iff ..).1 hv)
      replace HQ := Lib.hid (HQ.out _ hv); clear hv
      have t1 : t + g ≤ 1099511627775 := by have := HF.out.2.1; omega
      have HW : Hid (While l t (t + g)) := ⟨HP.out, isT_mk (by omega), isT_mk (by omega), by omega⟩
      have e1 : IntKind.i64.wrap (t + g) = t + g := IntWalk.i64_in _ (by omega)
      go_wp2
      refine wp_region_ext (by kernel_rfl) (by kernel_rfl) ?_
      repeat (go_big_quiet_step ((go_at_call 19; exact extq (HQ.out _))))
      refine wpQuiet_nil ?_
      rintro w2 ⟨⟨_, hx2⟩, rfl⟩
      have d2 := hx2.cell' d0
      have HQ2 : Hid (∀ x : ExtW w2, Calls Try.prog 29 #[.slice A m c, .int .i64 t, .int .i64 (t + g)] x.val fun e w' => e = .returned (.tuple #[.int .i64 (minF l t (t + g)), .int .i64 (maxF l t (t + g)), .int .i64 0]) ∧ Ext x.val w') := fun x => refEnds A m c l t (t + g) x.val (HR2.out.ext (hx2.trans' x.ext)) (by omega) HW.out
      have q5 := ExtW.cell d2
      replace Hext := Lib.hid (Hext.out.trans' hx2); clear hx2
      go_wp2
      refine wp_region_ext (by kernel_rfl) (by kernel_rfl) ?_
      repeat (go_big_quiet_step ((go_at_call 29; exact extq (HQ2.out _))))
      refine wpQuiet_nil ?_
      rintro w3 ⟨⟨_, hx3⟩, rfl⟩
      replace Hext := Lib.hid (Hext.out.trans' hx3); clear hx3
      clear e1
      go_wp2
      go_roundw
      case rel => exact ⟨k + 1, by omega, by go_num, by rw [HS.out, if_pos ⟨ht, HF.out⟩, ← HBd.out], Hext.out⟩
      case measure => simp [intOf]; omega
    · have HE : Hid ((timesL l f b g).take k = timesL l f b g) := take_all' (RdL.len HR1.out) (by omega)
      go_wp2
      go_ret
      exact ⟨ret_i (by rw [HE.out]), HX0.out.trans' hext⟩
end Go.Proofs.Ytnilplnfomgleaa
