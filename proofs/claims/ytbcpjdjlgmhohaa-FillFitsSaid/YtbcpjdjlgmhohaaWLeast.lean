/-
  Walks: the least number that is free for a while. Conditions: none.
-/
import Derived.Test.YtbcpjdjlgmhohaaWCut
import Derived.Test.YtbcpjdjlgmhohaaMChk
namespace Go.Proofs.Ytbcpjdjlgmhohaa
open Go.RowKit

theorem stpField1 (x y : Int) (w : World) : (Instr.field 48 (.agg #[.int .i64 x, .int .i64 y]) 1).run Try.prog w = .ok (.int .i64 y) w := by kernel_rfl
theorem freeT_holds {l : List Stp} {t : Int} {k : Nat} {a u : Int} (hk : l[k]? = some (a, u)) (ha : a ≤ t) (h : ∀ (j : Nat) (a u : Int), l[j]? = some (a, u) → k < j → t < a) : freeT l t = u := by
  suffices H : ∀ r : List Stp, r.reverse[k]? = some (a, u) → (∀ (j : Nat) (a u : Int), r.reverse[j]? = some (a, u) → k < j → t < a) → freeT r.reverse t = u by
    have := H l.reverse (by simpa using hk) (by simpa using h)
    simpa using this
  intro r
  induction r with
  | nil => intro hk; simp at hk
  | cons s r ih =>
    intro hk h
    rw [List.reverse_cons] at hk h ⊢
    rw [freeT_snoc]
    generalize r.reverse = m at *
    have hkl := (List.getElem?_eq_some_iff.1 hk).1
    rw [List.length_append, List.length_singleton] at hkl
    rcases Nat.lt_or_ge k m.length with h1 | h1
    · have hs := h m.length s.1 s.2 (by rw [List.getElem?_append_right (Nat.le_refl _)]; simp) h1
      rw [if_neg (by omega)]
      refine ih (by rw [List.getElem?_append_left h1] at hk; exact hk) (fun j a u hj hkj => h j a u ?_ hkj)
      rw [List.getElem?_append_left (List.getElem?_eq_some_iff.1 hj).1]
      exact hj
    · obtain rfl : k = m.length := by omega
      rw [List.getElem?_append_right (Nat.le_refl _)] at hk
      simp at hk
      subst hk
      rw [if_pos ha]
theorem mem_cutTo {l : List Stp} {f : Int} {k j : Nat} {s : Stp} : s ∈ cutTo l f k j ↔ ∃ (i : Nat) (a u : Int), l[i]? = some (a, u) ∧ k ≤ i ∧ i < k + j ∧ s = (max a f, u) := by
  unfold cutTo
  simp only [List.mem_map]
  constructor
  · rintro ⟨⟨a, u⟩, hm, rfl⟩
    obtain ⟨i, hi⟩ := List.mem_iff_getElem?.1 hm
    rw [List.getElem?_take] at hi
    split at hi
    · rw [List.getElem?_drop] at hi
      exact ⟨k + i, a, u, hi, by omega, by omega, rfl⟩
    · cases hi
  · rintro ⟨i, a, u, hi, h1, h2, rfl⟩
    refine ⟨(a, u), List.mem_iff_getElem?.2 ⟨i - k, ?_⟩, rfl⟩
    rw [List.getElem?_take, if_pos (by omega), List.getElem?_drop, show k + (i - k) = i by omega]
    exact hi
section
variable {l : List Stp} {f t : Int} {k j : Nat}
theorem cut_pos (hH : Holds l f k) (hC : CutAt l t k j) (hft : f < t) : 1 ≤ j := by
  obtain ⟨⟨a, u, hk, ha⟩, _⟩ := hH
  rcases Nat.eq_zero_or_pos j with h0 | h0
  · exfalso
    subst h0
    rcases hC.2.2 with h | ⟨a', u', h, h'⟩
    · have := (List.getElem?_eq_some_iff.1 hk).1; omega
    · rw [Nat.add_zero, hk] at h; injection h with h; injection h with h _; omega
  · exact h0
theorem cut_low (hA : Asc l) (hH : Holds l f k) (hC : CutAt l t k j) (hft : f < t) (n : Int) : (∀ s ∈ cutTo l f k j, n ≤ s.2) ↔ n ≤ minF l f t := by
  have hj := cut_pos hH hC hft
  obtain ⟨⟨a, u, hk, ha⟩, hlater⟩ := hH
  rw [show (n ≤ minF l f t) ↔ _ from le_minTo l l f t n, freeT_holds hk ha hlater]
  constructor
  · intro h
    refine ⟨h _ (mem_cutTo.2 ⟨k, a, u, hk, Nat.le_refl _, by omega, rfl⟩), fun s hs hf ht => ?_⟩
    obtain ⟨i, hi⟩ := List.mem_iff_getElem?.1 hs
    obtain ⟨b, v⟩ := s
    have hik : k ≤ i := by
      rcases Nat.lt_or_ge i k with h1 | h1
      · exfalso
        obtain ⟨h3, h4⟩ := List.getElem?_eq_some_iff.1 hi
        obtain ⟨h5, h6⟩ := List.getElem?_eq_some_iff.1 hk
        have := (List.pairwise_iff_getElem.1 hA) i k h3 h5 h1
        rw [h4, h6] at this
        simp only at this hf
        omega
      · exact h1
    have hij : i < k + j := by
      rcases Nat.lt_or_ge i (k + j) with h1 | h1
      · exact h1
      · exfalso
        rcases hC.2.2 with h2 | ⟨a', u', h2, h2'⟩
        · have := (List.getElem?_eq_some_iff.1 hi).1; omega
        · rcases Nat.lt_or_ge (k + j) i with h3 | h3
          · obtain ⟨h5, h6⟩ := List.getElem?_eq_some_iff.1 hi
            obtain ⟨h7, h8⟩ := List.getElem?_eq_some_iff.1 h2
            have := (List.pairwise_iff_getElem.1 hA) _ _ h7 h5 h3
            rw [h6, h8] at this
            simp only at this ht
            omega
          · obtain rfl : i = k + j := by omega
            rw [hi] at h2; injection h2 with h2; injection h2 with h2 _; simp only at ht; omega
    exact h (max b f, v) (mem_cutTo.2 ⟨i, b, v, hi, hik, hij, rfl⟩)
  · rintro ⟨h1, h2⟩ s hs
    obtain ⟨i, b, v, hi, hik, hij, rfl⟩ := mem_cutTo.1 hs
    rcases Nat.lt_or_ge k i with h3 | h3
    · exact h2 (b, v) (List.mem_of_getElem? hi) (by have := hlater i b v hi h3; simp only; omega) (hC.2.1 i b v hi hik hij)
    · obtain rfl : i = k := by omega
      rw [hi] at hk; injection hk with hk; injection hk with _ hk
      simp only; omega
theorem cut_min (hA : Asc l) (hH : Holds l f k) (hC : CutAt l t k j) (hft : f < t) {a u : Int} (hm : (a, u) ∈ cutTo l f k j) (hle : ∀ s ∈ cutTo l f k j, u ≤ s.2) : u = minF l f t := by
  have h1 := (cut_low hA hH hC hft u).1 hle
  have h2 := (cut_low hA hH hC hft (minF l f t)).2 (Int.le_refl _) _ hm
  simp only at h2
  omega
end

def GivesSpan (l : List Stp) (f t : Int) (w : World) (e : Ending) (w' : World) : Prop := ∃ k j A m c, Holds l f k ∧ CutAt l t k j ∧ e = .returned (.tuple #[.slice A m c, .int .i64 0]) ∧ RdP w' A m (cutTo l f k j) ∧ Ext w w'
theorem span_bad (A : Option Addr) (n c : Nat) (l : List Stp) (f t : Int) (w : World) (hr : RdP w A n l) (hn : n ≤ 9223372036854775807) (hbad : ¬ While l f t) :
    Calls Try.prog 61 #[.slice A n c, .int .i64 f, .int .i64 t] w fun e w' => e = .returned (.tuple #[.slice none 0 0, .int .i64 2]) ∧ Ext w w' := by
  have HR := Lib.hid hr; clear hr
  rcases chkE_cases l with ⟨hp, hc⟩ | ⟨hp, hc⟩
  case inr =>
    have HC := Lib.hid hc; clear hc hbad
    go_enter Try.func61, Try.ntmps61
    go_wp2_with (go_at_call 38; refine (stepsCheck A n c l _ HR.out hn).mono ?_; rintro e w1 ⟨rfl, hx1⟩; have Hx1 := Lib.hid hx1; clear hx1; rw [HC.out])
    go_ret2
    exact ⟨rfl, Hx1.out⟩
  have HC := Lib.hid hc; clear hc
  by_cases cf : isT f = false
  · clear hbad
    go_enter Try.func61, Try.ntmps61
    go_wp2_with (first | (go_at_call 38; refine (stepsCheck A n c l _ HR.out hn).mono ?_; rintro e w1 ⟨rfl, hx1⟩; have Hx1 := Lib.hid hx1; clear hx1; rw [HC.out]) | (go_at_call 39; refine (clkIs _ _).mono ?_; rintro e w' ⟨rfl, rfl⟩))
    go_ret2
    exact ⟨rfl, Hx1.out⟩
  replace cf : isT f = true := by simpa using cf
  by_cases ct : isT t = false
  · clear hbad
    go_enter Try.func61, Try.ntmps61
    go_wp2_with (first | (go_at_call 38; refine (stepsCheck A n c l _ HR.out hn).mono ?_; rintro e w1 ⟨rfl, hx1⟩; have Hx1 := Lib.hid hx1; clear hx1; rw [HC.out]) | (go_at_call 39; refine (clkIs _ _).mono ?_; rintro e w' ⟨rfl, rfl⟩))
    go_ret2
    exact ⟨rfl, Hx1.out⟩
  replace ct : isT t = true := by simpa using ct
  have hft : t ≤ f := by
    rcases Int.lt_or_le f t with h | h
    · exact absurd ⟨hp, cf, ct, h⟩ hbad
    · exact h
  clear hbad
  go_enter Try.func61, Try.ntmps61
  go_wp2_with (first | (go_at_call 38; refine (stepsCheck A n c l _ HR.out hn).mono ?_; rintro e w1 ⟨rfl, hx1⟩; have Hx1 := Lib.hid hx1; clear hx1; rw [HC.out]) | (go_at_call 39; refine (clkIs _ _).mono ?_; rintro e w' ⟨rfl, rfl⟩))
  go_ret2
  exact ⟨rfl, Hx1.out⟩

theorem span_ok (A : Option Addr) (n c : Nat) (l : List Stp) (f t : Int) (w : World) (hr : RdP w A n l) (hok : While l f t) :
    Calls Try.prog 61 #[.slice A n c, .int .i64 f, .int .i64 t] w (GivesSpan l f t w) := by
  have hn : n ≤ 100000 := by have := hok.1.2.1; have := RdL.len hr; omega
  have HR := Lib.hid hr; clear hr
  obtain ⟨hp, cf, ct, hft⟩ := hok
  have HP := Lib.hid hp
  have HC := Lib.hid (chkE_t hp); clear hp
  have hf := (isT_iff f).1 cf
  replace hf := Lib.hid hf
  go_enter Try.func61, Try.ntmps61
  go_wp2_with (first | (go_at_call 38; refine (stepsCheck A n c l _ HR.out (by omega)).mono ?_; rintro e w1 ⟨rfl, hx1⟩; have Hx1 := Lib.hid hx1; clear hx1; rw [HC.out]) | (go_at_call 39; refine (clkIs _ _).mono ?_; rintro e w' ⟨rfl, rfl⟩) | (go_at_call 49; refine (stepsCut A n c l f t _ (HR.out.ext Hx1.out) HP.out hf.out).mono ?_; rintro e w2 ⟨k, j, A2, m2, c2, hH, hC, rfl, hr2, hx2⟩; have HH := Lib.hid hH; have HCC := Lib.hid hC; have Hr2 := Lib.hid hr2; have Hx2 := Lib.hid hx2; clear hH hC hr2 hx2))
  go_ret2
  exact ⟨k, j, A2, m2, c2, HH.out, HCC.out, rfl, Hr2.out, Hx1.out.trans' Hx2.out⟩

theorem least_bad (A : Option Addr) (n c : Nat) (l : List Stp) (f t : Int) (w : World) (hr : RdP w A n l) (hn : n ≤ 9223372036854775807) (hbad : ¬ While l f t) :
    Calls Try.prog 48 #[.slice A n c, .int .i64 f, .int .i64 t] w fun e w' => e = .returned (.tuple #[.int .i64 0, .int .i64 2]) ∧ Ext w w' := by
  have HR := Lib.hid hr; clear hr
  have HB := Lib.hid hbad; clear hbad
  go_enter Try.func48, Try.ntmps48
  go_wp2_with (go_at_call 61; refine (span_bad A n c l f t _ HR.out hn HB.out).mono ?_; rintro e w1 ⟨rfl, hx1⟩; have Hx1 := Lib.hid hx1; clear hx1)
  go_ret2
  exact ⟨rfl, Hx1.out⟩
theorem least_ok (A : Option Addr) (n c : Nat) (l : List Stp) (f t : Int) (w : World) (hr : RdP w A n l) (hok : While l f t) :
    Calls Try.prog 48 #[.slice A n c, .int .i64 f, .int .i64 t] w fun e w' => e = .returned (.tuple #[.int .i64 (minF l f t), .int .i64 0]) ∧ Ext w w' := by
  have HR := Lib.hid hr; clear hr
  have HK := Lib.hid hok; clear hok
  go_enter Try.func48, Try.ntmps48
  go_wp2_with fail
  refine (span_ok A n c l f t _ HR.out HK.out).mono ?_
  rintro e w1 ⟨k, j, A2, m2, c2, hH, hC, rfl, hr2, hx1⟩
  have hj := cut_pos hH hC HK.out.2.2.2
  have hm2 : m2 = j := by rw [← RdL.len hr2, cutTo_len hC.1]
  have hll := HK.out.1.2.1
  have hm3 : m2 ≤ 100000 := by have := hC.1; omega
  have hm4 : 1 ≤ m2 := by omega
  have HH := Lib.hid hH; have HCC := Lib.hid hC; have Hr2 := Lib.hid hr2; have Hx1 := Lib.hid hx1
  have HB : Hid (∀ s ∈ cutTo l f k j, 0 ≤ s.2 ∧ s.2 ≤ 20000) := fun s hs => by
    obtain ⟨i, a, u, hi, _, _, rfl⟩ := mem_cutTo.1 hs
    have := HK.out.1.2.2.2 i (List.getElem?_eq_some_iff.1 hi).1 a u hi
    exact ⟨this.2.1, by have := this.2.2.1; simp only; omega⟩
  clear hH hC hr2 hx1 hm2 hj hll
  go_wp2_with fail
  refine (minFunc A2 m2 c2 _ _ Hr2.out hm3 hm4 HB.out).mono ?_
  rintro e w2 ⟨a, u, hm, hle, rfl, hx2⟩
  have HU := Lib.hid (cut_min HK.out.1.asc HH.out HCC.out HK.out.2.2.2 hm hle)
  have Hx2 := Lib.hid (Hx1.out.trans' hx2)
  clear hm hle hx2
  have fld := fun (x y : Int) (W : World) => stpField1 x y W
  go_wp2
  go_ret2
  exact ⟨by rw [← HU.out]; rfl, Hx2.out⟩
end Go.Proofs.Ytbcpjdjlgmhohaa
