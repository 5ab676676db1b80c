/-
  Walks: what a graph is asked. Conditions: none.
-/
import Derived.Test.YtmejjeeobhapfaaDNew
namespace Go.Proofs.Ytmejjeeobhapfaa
open Go.RowKit
set_option linter.unusedVariables false
set_option linter.unusedSimpArgs false

theorem GAt.cells {w : World} {gb n : Nat} {bs hs : List (List Int)} {o : List Int} (h : GAt w gb n bs hs o) : ∃ B cb H ch A c, w.cell? ⟨gb, 0, none⟩ = some (.slice B n cb) ∧ w.cell? ⟨gb, 1, none⟩ = some (.slice H n ch) ∧ w.cell? ⟨gb, 2, none⟩ = some (.slice A o.length c) ∧
    RdLL (fun _ => True) w B n bs ∧ RdLL (fun _ => True) w H n hs ∧ RdI w A o.length o := by
  obtain ⟨B, cb, H, ch, A, c, h1, h2, h3, h4⟩ := h
  exact ⟨B, cb, H, ch, A, c, by simp [World.cell?, h1], by simp [World.cell?, h1], by simp [World.cell?, h1], h2, h3, h4⟩
set_option maxHeartbeats 1000000 in
theorem hasG (gb n c0 : Nat) (B : Option Addr) (v : Int) (w : World) (hc : w.cell? ⟨gb, 0, none⟩ = some (.slice B n c0)) :
    Calls Try.prog 34 #[.pointer (some ⟨gb, 0, none⟩), .int .i64 v] w fun e w' => e = .returned (.bool (decide (0 ≤ v ∧ v < n))) ∧ w = w' := by
  by_cases h0 : 0 ≤ v
  · have d0 : decide (v ≥ 0) = true := decide_eq_true h0
    by_cases h1 : v < n
    · have d1 : decide (v < (n : Int)) = true := decide_eq_true h1
      have HE : Hid (decide (0 ≤ v ∧ v < n) = true) := decide_eq_true ⟨h0, h1⟩
      clear h0 h1
      go_enter Try.func34, Try.ntmps34
      go_wp2
      (try rw [Exit.noGoto_ret])
      go_ret
      exact ⟨by rw [HE.out]; rfl, rfl⟩
    · have d1 : decide (v < (n : Int)) = false := decide_eq_false h1
      have HE : Hid (decide (0 ≤ v ∧ v < n) = false) := decide_eq_false (fun h => h1 h.2)
      clear h0 h1
      go_enter Try.func34, Try.ntmps34
      go_wp2
      (try rw [Exit.noGoto_ret])
      go_ret
      exact ⟨by rw [HE.out]; rfl, rfl⟩
  · have d0 : decide (v ≥ 0) = false := decide_eq_false h0
    have HE : Hid (decide (0 ≤ v ∧ v < n) = false) := decide_eq_false (fun h => h0 h.1)
    clear h0
    go_enter Try.func34, Try.ntmps34
    go_wp2
    (try rw [Exit.noGoto_ret])
    go_ret
    exact ⟨by rw [HE.out]; rfl, rfl⟩
set_option maxHeartbeats 1000000 in
theorem orderG (gb n : Nat) (bs hs : List (List Int)) (o : List Int) (w : World) (hg : GAt w gb n bs hs o) (ho : o.length ≤ 1000000) :
    Calls Try.prog 20 #[.pointer (some ⟨gb, 0, none⟩)] w (GivesI o w) := by
  obtain ⟨B, cb, H, ch, A, c, _, _, h2, _, _, hr⟩ := hg.cells
  obtain ⟨m, HM⟩ : ∃ m, Hid (o.length = m) := ⟨_, rfl⟩
  rw [HM.out] at h2 hr ho
  have hcl := Lib.hid (cloneI A m c o w hr ho)
  clear hg hr
  go_enter Try.func20, Try.ntmps20
  go_wp2_with fail
  refine hcl.out.mono ?_
  rintro e w1 ⟨v, rfl, h1, h3⟩
  have H1 := Lib.hid h1
  have H3 := Lib.hid h3
  clear h1 h3
  go_wp2
  (try rw [Exit.noGoto_ret])
  go_ret
  exact ⟨_, rfl, H1.out, H3.out⟩
theorem lenNil (w : World) : Calls Try.prog 29 #[.pointer none] w fun e w' => e = .returned (.int .i64 0) ∧ w = w' := by
  go_enter Try.func29, Try.ntmps29
  go_wp2
  (try rw [Exit.noGoto_ret])
  go_ret
  exact ⟨rfl, rfl⟩

set_option maxHeartbeats 1000000 in
theorem beforeG (gb n : Nat) (bs hs : List (List Int)) (o : List Int) (v : Int) (w : World) (hg : GAt w gb n bs hs o) (hl : ∀ l ∈ bs, l.length ≤ 1000000) :
    Calls Try.prog 16 #[.pointer (some ⟨gb, 0, none⟩), .int .i64 v] w (GivesI (if 0 ≤ v ∧ v < n then bs.getD v.toNat [] else []) w) := by
  obtain ⟨B, cb, H, ch, A, c, g0, g1, g2, hB, hH, hr⟩ := hg.cells
  have HHAS := Lib.hid (hasG gb n cb B v w g0)
  clear hg hr
  by_cases hv : 0 ≤ v ∧ v < n
  · obtain ⟨V, rfl⟩ : ∃ V : Nat, v = (V : Int) := ⟨v.toNat, by omega⟩
    have hVn : V < n := by omega
    obtain ⟨b, off, A', c', l, rfl, -, hl2, hcl, -, hrl, -, -⟩ := hB.at_ hVn
    have HE : Hid ((if 0 ≤ (V : Int) ∧ (V : Int) < n then bs.getD (V : Int).toNat [] else []) = l) := by show _ = _; rw [if_pos hv, Int.toNat_natCast, RdLL.getD_ hl2]
    obtain ⟨m, HM⟩ : ∃ m, Hid (l.length = m) := ⟨_, rfl⟩
    have hm := hl l (List.mem_of_getElem? hl2)
    rw [HM.out] at hcl hrl hm
    have HCL := Lib.hid (cloneI A' m c' l w hrl hm)
    have hVn2 : (V : Int) < (n : Int) := by omega
    have d0 : decide (0 ≤ (V : Int) ∧ (V : Int) < n) = true := decide_eq_true hv
    rw [HE.out]
    rw [d0] at HHAS
    clear hB hH hl2 hrl hm hv d0 hl
    go_enter Try.func16, Try.ntmps16
    go_wp2_with fail
    refine HHAS.out.mono ?_
    rintro e w1 ⟨rfl, rfl⟩
    go_wp2_with fail
    refine HCL.out.mono ?_
    rintro e w1 ⟨v, rfl, h1, h3⟩
    have H1 := Lib.hid h1
    have H3 := Lib.hid h3
    clear h1 h3
    go_wp2
    (try rw [Exit.noGoto_ret])
    go_ret
    exact ⟨_, rfl, H1.out, H3.out⟩
  · have HE : Hid ((if 0 ≤ v ∧ v < n then bs.getD v.toNat [] else []) = []) := if_neg hv
    have d0 : decide (0 ≤ v ∧ v < n) = false := decide_eq_false hv
    rw [HE.out]
    rw [d0] at HHAS
    clear hB hH hv d0 hl
    go_enter Try.func16, Try.ntmps16
    go_wp2_with fail
    refine HHAS.out.mono ?_
    rintro e w1 ⟨rfl, rfl⟩
    go_wp2
    (try rw [Exit.noGoto_ret])
    go_ret
    exact ⟨_, rfl, OI.nil _ _, Ext.rfl'⟩

set_option maxHeartbeats 1000000 in
theorem behindG (gb n : Nat) (bs hs : List (List Int)) (o : List Int) (v : Int) (w : World) (hg : GAt w gb n bs hs o) (hl : ∀ l ∈ hs, l.length ≤ 1000000) :
    Calls Try.prog 18 #[.pointer (some ⟨gb, 0, none⟩), .int .i64 v] w (GivesI (if 0 ≤ v ∧ v < n then hs.getD v.toNat [] else []) w) := by
  obtain ⟨B, cb, H, ch, A, c, g0, g1, g2, hB, hH, hr⟩ := hg.cells
  have HHAS := Lib.hid (hasG gb n cb B v w g0)
  clear hg hr
  by_cases hv : 0 ≤ v ∧ v < n
  · obtain ⟨V, rfl⟩ : ∃ V : Nat, v = (V : Int) := ⟨v.toNat, by omega⟩
    have hVn : V < n := by omega
    obtain ⟨b, off, A', c', l, rfl, -, hl2, hcl, -, hrl, -, -⟩ := hH.at_ hVn
    have HE : Hid ((if 0 ≤ (V : Int) ∧ (V : Int) < n then hs.getD (V : Int).toNat [] else []) = l) := by show _ = _; rw [if_pos hv, Int.toNat_natCast, RdLL.getD_ hl2]
    obtain ⟨m, HM⟩ : ∃ m, Hid (l.length = m) := ⟨_, rfl⟩
    have hm := hl l (List.mem_of_getElem? hl2)
    rw [HM.out] at hcl hrl hm
    have HCL := Lib.hid (cloneI A' m c' l w hrl hm)
    have hVn2 : (V : Int) < (n : Int) := by omega
    have d0 : decide (0 ≤ (V : Int) ∧ (V : Int) < n) = true := decide_eq_true hv
    rw [HE.out]
    rw [d0] at HHAS
    clear hB hH hl2 hrl hm hv d0 hl
    go_enter Try.func18, Try.ntmps18
    go_wp2_with fail
    refine HHAS.out.mono ?_
    rintro e w1 ⟨rfl, rfl⟩
    go_wp2_with fail
    refine HCL.out.mono ?_
    rintro e w1 ⟨v, rfl, h1, h3⟩
    have H1 := Lib.hid h1
    have H3 := Lib.hid h3
    clear h1 h3
    go_wp2
    (try rw [Exit.noGoto_ret])
    go_ret
    exact ⟨_, rfl, H1.out, H3.out⟩
  · have HE : Hid ((if 0 ≤ v ∧ v < n then hs.getD v.toNat [] else []) = []) := if_neg hv
    have d0 : decide (0 ≤ v ∧ v < n) = false := decide_eq_false hv
    rw [HE.out]
    rw [d0] at HHAS
    clear hB hH hv d0 hl
    go_enter Try.func18, Try.ntmps18
    go_wp2_with fail
    refine HHAS.out.mono ?_
    rintro e w1 ⟨rfl, rfl⟩
    go_wp2
    (try rw [Exit.noGoto_ret])
    go_ret
    exact ⟨_, rfl, OI.nil _ _, Ext.rfl'⟩
end Go.Proofs.Ytmejjeeobhapfaa
