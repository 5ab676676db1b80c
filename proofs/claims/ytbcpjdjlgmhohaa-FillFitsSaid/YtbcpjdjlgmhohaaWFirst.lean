/-
  Walks: the first time, and the last one. Conditions: none.
-/
import Derived.Test.YtbcpjdjlgmhohaaWAll
namespace Go.Proofs.Ytbcpjdjlgmhohaa
open Go.RowKit

open Classical in
noncomputable def firstR (l : List Stp) (f b n g : Int) : Int × Int := if Req l f b n g then (match allF l f b n g with | [] => (0, 70) | p :: _ => (p.1, 0)) else (0, 2)
open Classical in
noncomputable def lastR (l : List Stp) (f b n g : Int) : Int × Int := if Req l f b n g then (match (allF l f b n g).getLast? with | none => (0, 70) | some p => (p.2, 0)) else (0, 2)
theorem firstR_bad {l : List Stp} {f b n g : Int} (h : ¬ Req l f b n g) : firstR l f b n g = (0, 2) := by simp [firstR, h]
theorem firstR_none {l : List Stp} {f b n g : Int} (h : Req l f b n g) (ha : allF l f b n g = []) : firstR l f b n g = (0, 70) := by simp [firstR, h, ha]
theorem firstR_some {l : List Stp} {f b n g : Int} {p : Stp} {r : List Stp} (h : Req l f b n g) (ha : allF l f b n g = p :: r) : firstR l f b n g = (p.1, 0) := by simp [firstR, h, ha]
theorem lastR_bad {l : List Stp} {f b n g : Int} (h : ¬ Req l f b n g) : lastR l f b n g = (0, 2) := by simp [lastR, h]
theorem lastR_none {l : List Stp} {f b n g : Int} (h : Req l f b n g) (ha : allF l f b n g = []) : lastR l f b n g = (0, 70) := by simp [lastR, h, ha]
theorem lastR_some {l : List Stp} {f b n g : Int} {p : Stp} (h : Req l f b n g) (ha : (allF l f b n g).getLast? = some p) : lastR l f b n g = (p.2, 0) := by simp [lastR, h, ha]

set_option maxHeartbeats 1000000 in
theorem fitFirst (A : Option Addr) (m c : Nat) (l : List Stp) (f b n g : Int) (w : World) (hr : RdP w A m l) (hn0 : m ≤ 9223372036854775807) :
    Calls Try.prog 25 #[.slice A m c, .agg #[.int .i64 f, .int .i64 b], .int .i64 n, .int .i64 g] w fun e w' => e = .returned (.tuple #[.int .i64 (firstR l f b n g).1, .int .i64 (firstR l f b n g).2]) ∧ Ext w w' := by
  have HR := Lib.hid hr; clear hr
  by_cases hq : Req l f b n g
  case neg =>
    have HE := Lib.hid (firstR_bad hq)
    have HQ := Lib.hid hq; clear hq
    go_enter Try.func25, Try.ntmps25
    go_wp2_with (go_at_call 46; refine (fitAll_bad A m c l f b n g _ (HR.out.alloc' _) (by omega) HQ.out).mono ?_; rintro e w1 ⟨rfl, hx1⟩; have Hx1 := Lib.hid hx1; clear hx1)
    go_ret2
    exact ⟨by rw [HE.out]; rfl, ((Below.refl _ _).alloc (Nat.le_refl _) _).trans (Hx1.out.mono (by simp))⟩
  have hn : m ≤ 100000 := by have h1 := hq.1.2.1; have h2 := RdL.len HR.out; omega
  rcases ha : allF l f b n g with _ | ⟨⟨x, y⟩, r⟩
  · have ha' : allF l f b n g = [] := by exact ha
    have HE := Lib.hid (firstR_none hq ha')
    have HA := Lib.hid ha'
    have HQ := Lib.hid hq; clear hq ha ha'
    go_enter Try.func25, Try.ntmps25
    go_wp2_with (go_at_call 46; refine (fitAll A m c l f b n g _ (HR.out.alloc' _) (by omega) HQ.out).mono ?_; rintro e w1 ⟨A1, m1, c1, rfl, hr1, hx1⟩; have Hx1 := Lib.hid hx1; obtain rfl : m1 = 0 := by rw [← RdL.len hr1, HA.out]; rfl
                 clear hr1; clear hx1)
    go_ret2
    exact ⟨by rw [HE.out]; rfl, ((Below.refl _ _).alloc (Nat.le_refl _) _).trans (Hx1.out.mono (by simp))⟩
  · have HE := Lib.hid (firstR_some hq ha)
    have HA := Lib.hid ha
    have HQ := Lib.hid hq; clear hq ha
    go_enter Try.func25, Try.ntmps25
    go_wp2_with fail
    refine (fitAll A m c l f b n g _ (HR.out.alloc' _) (by omega) HQ.out).mono ?_
    rintro e w1 ⟨A1, m1, c1, rfl, hr1, hx1⟩
    have Hx1 := Lib.hid hx1
    obtain ⟨m2, rfl⟩ : ∃ m2, m1 = m2 + 1 := ⟨m1 - 1, by
      have h1 := RdL.len hr1
      have h2 := HA.out
      rw [h2] at h1; simp at h1; omega⟩
    obtain ⟨bb, off, x', y', rfl, hbb, hx, hd0, hd1⟩ := RdP.cut hr1 (k := 0) (by omega)
    have hxy : (x', y') = (x, y) := by
      rw [HA.out] at hx; simpa using hx.symm
    injection hxy with hy1 hy2
    subst hy1
    subst hy2
    simp only [Nat.zero_mul, Nat.add_zero] at hd0 hd1
    have hz : ((m2 : Int) + 1 == 0) = false := by rw [beq_eq_false_iff_ne]; omega
    have hm : m2 + 1 ≤ 9223372036854775807 := by
      have h1 := RdL.len hr1
      have h2 := holTo_len n l
      have h3 := RdL.len HR.out
      have h4 := cutL_len f b g (holes n l)
      unfold allF at h1
      unfold holes at h1 h4
      split at h1
      · split at h1 <;> simp at h1 <;> omega
      · omega
    clear hr1 hx hx1
    go_wp2
    go_ret2
    exact ⟨by rw [HE.out]; rfl, ((Below.refl _ _).alloc (Nat.le_refl _) _).trans (Hx1.out.mono (by simp))⟩

end Go.Proofs.Ytbcpjdjlgmhohaa
