/-
  Walk: the document's least and greatest number that is free for a while. Conditions: none.
-/
import Derived.Test.YtbcpjdjlgmhohaaMChk
namespace Go.Proofs.Ytbcpjdjlgmhohaa
open Go.RowKit

theorem min_go (a b : Int) : (if b < a then b else a) = min a b := by omega
theorem max_go (a b : Int) : (if a < b then b else a) = max a b := by omega
def minF (l : List Stp) (f t : Int) : Int := l.foldl (fun a s => if f ≤ s.1 ∧ s.1 < t then min a s.2 else a) (freeT l f)
def maxF (l : List Stp) (f t : Int) : Int := l.foldl (fun a s => if f ≤ s.1 ∧ s.1 < t then max a s.2 else a) (freeT l f)
def minTo (l m : List Stp) (f t : Int) : Int := m.foldl (fun a s => if f ≤ s.1 ∧ s.1 < t then min a s.2 else a) (freeT l f)
def maxTo (l m : List Stp) (f t : Int) : Int := m.foldl (fun a s => if f ≤ s.1 ∧ s.1 < t then max a s.2 else a) (freeT l f)
theorem minTo_snoc (l m : List Stp) (s : Stp) (f t : Int) : minTo l (m ++ [s]) f t = if f ≤ s.1 ∧ s.1 < t then min (minTo l m f t) s.2 else minTo l m f t := by simp [minTo]
theorem maxTo_snoc (l m : List Stp) (s : Stp) (f t : Int) : maxTo l (m ++ [s]) f t = if f ≤ s.1 ∧ s.1 < t then max (maxTo l m f t) s.2 else maxTo l m f t := by simp [maxTo]
theorem minTo_all (l : List Stp) (f t : Int) : minTo l l f t = minF l f t := rfl
theorem maxTo_all (l : List Stp) (f t : Int) : maxTo l l f t = maxF l f t := rfl
theorem le_minTo (l m : List Stp) (f t n : Int) : n ≤ minTo l m f t ↔ n ≤ freeT l f ∧ ∀ s ∈ m, f ≤ s.1 → s.1 < t → n ≤ s.2 := by
  unfold minTo
  generalize freeT l f = z
  induction m generalizing z with
  | nil => simp
  | cons s m ih =>
    rw [List.foldl_cons, ih]
    by_cases h : f ≤ s.1 ∧ s.1 < t
    · rw [if_pos h]
      constructor
      · rintro ⟨h1, h2⟩
        refine ⟨by omega, fun x hx hf ht => ?_⟩
        rcases List.mem_cons.1 hx with rfl | hx
        · omega
        · exact h2 x hx hf ht
      · rintro ⟨h1, h2⟩
        have := h2 s (by simp) h.1 h.2
        exact ⟨by omega, fun x hx => h2 x (by simp [hx])⟩
    · rw [if_neg h]
      constructor
      · rintro ⟨h1, h2⟩
        refine ⟨h1, fun x hx hf ht => ?_⟩
        rcases List.mem_cons.1 hx with rfl | hx
        · exact absurd ⟨hf, ht⟩ h
        · exact h2 x hx hf ht
      · rintro ⟨h1, h2⟩
        exact ⟨h1, fun x hx => h2 x (by simp [hx])⟩

/-- a while in which it may be asked -/
def While (l : List Stp) (f t : Int) : Prop := Prof l ∧ isT f = true ∧ isT t = true ∧ f < t

set_option maxHeartbeats 1000000 in
theorem refEnds_bad (A : Option Addr) (n c : Nat) (l : List Stp) (f t : Int) (w : World) (hr : RdP w A n l) (hn : n ≤ 9223372036854775807) (hbad : ¬ While l f t) :
    Calls Try.prog 52 #[.slice A n c, .int .i64 f, .int .i64 t] w fun e w' => e = .returned (.tuple #[.int .i64 0, .int .i64 0, .int .i64 2]) ∧ Ext w w' := by
  have HR := Lib.hid hr; clear hr
  rcases chkE_cases l with ⟨hp, hc⟩ | ⟨hp, hc⟩
  case inr =>
    have HC := Lib.hid hc; clear hc hbad
    go_enter Try.func52, Try.ntmps52
    go_wp2_with (go_at_call 43; refine (refCheck A n c l _ HR.out hn).mono ?_; rintro e w1 ⟨rfl, hx1⟩; have Hx1 := Lib.hid hx1; clear hx1; rw [HC.out])
    go_ret3
    exact ⟨rfl, Hx1.out⟩
  have HC := Lib.hid hc; clear hc
  by_cases cf : isT f = false
  · clear hbad
    go_enter Try.func52, Try.ntmps52
    go_wp2_with (first | (go_at_call 43; refine (refCheck A n c l _ HR.out hn).mono ?_; rintro e w1 ⟨rfl, hx1⟩; have Hx1 := Lib.hid hx1; clear hx1; rw [HC.out]) | (go_at_call 44; refine (refIs _ _).mono ?_; rintro e w' ⟨rfl, rfl⟩))
    go_ret3
    exact ⟨rfl, Hx1.out⟩
  replace cf : isT f = true := by simpa using cf
  by_cases ct : isT t = false
  · clear hbad
    go_enter Try.func52, Try.ntmps52
    go_wp2_with (first | (go_at_call 43; refine (refCheck A n c l _ HR.out hn).mono ?_; rintro e w1 ⟨rfl, hx1⟩; have Hx1 := Lib.hid hx1; clear hx1; rw [HC.out]) | (go_at_call 44; refine (refIs _ _).mono ?_; rintro e w' ⟨rfl, rfl⟩))
    go_ret3
    exact ⟨rfl, Hx1.out⟩
  replace ct : isT t = true := by simpa using ct
  have hft : t ≤ f := by
    rcases Int.lt_or_le f t with h | h
    · exact absurd ⟨hp, cf, ct, h⟩ hbad
    · exact h
  clear hbad
  go_enter Try.func52, Try.ntmps52
  go_wp2_with (first | (go_at_call 43; refine (refCheck A n c l _ HR.out hn).mono ?_; rintro e w1 ⟨rfl, hx1⟩; have Hx1 := Lib.hid hx1; clear hx1; rw [HC.out]) | (go_at_call 44; refine (refIs _ _).mono ?_; rintro e w' ⟨rfl, rfl⟩))
  go_ret3
  exact ⟨rfl, Hx1.out⟩

set_option maxHeartbeats 1000000 in
theorem refEnds (A : Option Addr) (n c : Nat) (l : List Stp) (f t : Int) (w : World) (hr : RdP w A n l) (hn : n ≤ 9223372036854775807) (hok : While l f t) :
    Calls Try.prog 52 #[.slice A n c, .int .i64 f, .int .i64 t] w fun e w' => e = .returned (.tuple #[.int .i64 (minF l f t), .int .i64 (maxF l f t), .int .i64 0]) ∧ Ext w w' := by
  have HR := Lib.hid hr; clear hr
  obtain ⟨hp, cf, ct, hft⟩ := hok
  have HC := Lib.hid (chkE_t hp); clear hp
  go_enter Try.func52, Try.ntmps52
  go_wp2_with (first | (go_at_call 43; refine (refCheck A n c l _ HR.out hn).mono ?_; rintro e w1 ⟨rfl, hx1⟩; have Hx1 := Lib.hid hx1; clear hx1; rw [HC.out]) | (go_at_call 44; refine (refIs _ _).mono ?_; rintro e w' ⟨rfl, rfl⟩) | (go_at_call 55; refine (refFree A n c l _ _ (HR.out.ext Hx1.out) hn).mono ?_; rintro e w' ⟨rfl, rfl⟩))
  go_loop [10, 11, 12] (fun a b i => ∃ k : Nat, k ≤ n ∧ i = .int .i64 k ∧ a = .int .i64 (minTo l (l.take k) f t) ∧ b = .int .i64 (maxTo l (l.take k) f t)) (fun _ _ i => n - (intOf i).toNat)
  case atStart => exact ⟨0, by omega, rfl, rfl, rfl⟩
  case round =>
    obtain ⟨k, hk, rfl, rfl, rfl⟩ := hrel
    by_cases hlt : k < n
    · obtain ⟨b, off, a, u, rfl, hb, hx, hd0, hd1⟩ := RdP.cut (HR.out.ext Hx1.out) hlt
      have HM : Hid (minTo l (l.take (k + 1)) f t = if f ≤ a ∧ a < t then min (minTo l (l.take k) f t) u else minTo l (l.take k) f t) := by
        show _ = _
        rw [take_snoc' hx, minTo_snoc]
      have HX : Hid (maxTo l (l.take (k + 1)) f t = if f ≤ a ∧ a < t then max (maxTo l (l.take k) f t) u else maxTo l (l.take k) f t) := by
        show _ = _
        rw [take_snoc' hx, maxTo_snoc]
      clear hx
      have em := min_go
      have ex := max_go
      by_cases h1 : f ≤ a
      · by_cases h2 : a < t
        · go_wp2
          go_round
          case rel => exact ⟨k + 1, by omega, by go_num, by rw [HM.out, if_pos ⟨h1, h2⟩], by rw [HX.out, if_pos ⟨h1, h2⟩]⟩
          case measure => simp [intOf]; omega
        · go_wp2
          go_round
          case rel => exact ⟨k + 1, by omega, by go_num, by rw [HM.out, if_neg (by omega)], by rw [HX.out, if_neg (by omega)]⟩
          case measure => simp [intOf]; omega
      · go_wp2
        go_round
        case rel => exact ⟨k + 1, by omega, by go_num, by rw [HM.out, if_neg (by omega)], by rw [HX.out, if_neg (by omega)]⟩
        case measure => simp [intOf]; omega
    · have HE : Hid (l.take k = l) := take_all' (RdL.len HR.out) (by omega)
      go_wp2
      go_ret3
      exact ⟨by rw [HE.out]; rfl, Hx1.out⟩
end Go.Proofs.Ytbcpjdjlgmhohaa
