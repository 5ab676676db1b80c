/-
  Walks: above, below; the same lists; more than is looked at. Conditions: none.
-/
import Derived.Test.YtmejjeeobhapfaaDLev
namespace Go.Proofs.Ytmejjeeobhapfaa
open Go.RowKit
set_option linter.unusedVariables false
set_option linter.unusedSimpArgs false

set_option maxHeartbeats 1000000 in
theorem aboveG (gb n m c : Nat) (A : Option Addr) (bs hs : List (List Int)) (o l : List Int) (w : World) (hg : GAt w gb n bs hs o) (hl : RdI w A m l) (hn : n ≤ 100) (hm : m ≤ 1000) (he : ∀ r ∈ bs, r.length ≤ 100 ∧ Rng n r) :
    Calls Try.prog 13 #[.pointer (some ⟨gb, 0, none⟩), .slice A m c] w (GivesI (cloG bs l) w) := by
  obtain ⟨B, cb, H, ch, A2, c2, g0, g1, g2, hB, hH, hr⟩ := hg.cells
  have HC := Lib.hid (closG gb n cb cb m c B B A bs l w g0 hB hl hn hm he)
  clear hg hB hH hr hl
  go_enter Try.func13, Try.ntmps13
  go_wp2_with fail
  refine HC.out.mono ?_
  rintro e w1 ⟨v, rfl, h1, h3⟩
  have H1 := Lib.hid h1
  have H3 := Lib.hid h3
  clear h1 h3
  go_wp2
  (try rw [Exit.noGoto_ret])
  go_ret
  exact ⟨_, rfl, H1.out, H3.out⟩

set_option maxHeartbeats 1000000 in
theorem belowG (gb n m c : Nat) (A : Option Addr) (bs hs : List (List Int)) (o l : List Int) (w : World) (hg : GAt w gb n bs hs o) (hl : RdI w A m l) (hn : n ≤ 100) (hm : m ≤ 1000) (he : ∀ r ∈ hs, r.length ≤ 100 ∧ Rng n r) :
    Calls Try.prog 15 #[.pointer (some ⟨gb, 0, none⟩), .slice A m c] w (GivesI (cloG hs l) w) := by
  obtain ⟨B, cb, H, ch, A2, c2, g0, g1, g2, hB, hH, hr⟩ := hg.cells
  have HC := Lib.hid (closG gb n cb ch m c B H A hs l w g0 hH hl hn hm he)
  clear hg hB hH hr hl
  go_enter Try.func15, Try.ntmps15
  go_wp2_with fail
  refine HC.out.mono ?_
  rintro e w1 ⟨v, rfl, h1, h3⟩
  have H1 := Lib.hid h1
  have H3 := Lib.hid h3
  clear h1 h3
  go_wp2
  (try rw [Exit.noGoto_ret])
  go_ret
  exact ⟨_, rfl, H1.out, H3.out⟩

set_option maxHeartbeats 2000000 in
theorem refSameLT (A B : Option Addr) (n c d : Nat) (ls : List (List Int)) (w : World) (hr : RdLL (fun _ => True) w A n ls) (hr' : RdLL (fun _ => True) w B n ls) (hn : n ≤ 1000000) (hl : ∀ l ∈ ls, l.length ≤ 1000000) :
    Calls Try.prog 23 #[.slice A n c, .slice B n d] w fun e w' => e = .returned (.bool true) ∧ Ext w w' := by
  have HR := Lib.hid hr
  have HR' := Lib.hid hr'
  have HL := Lib.hid hl
  clear hr hr' hl
  go_enter Try.func23, Try.ntmps23
  go_wp2
  go_loopw [5] (fun i wr => ∃ k : Nat, k ≤ n ∧ i = .int .i64 k ∧ Ext w wr) (fun i _ => n - (intOf i).toNat)
  case atStart => exact ⟨0, by omega, rfl, Ext.rfl'⟩
  case round =>
    obtain ⟨k, hk, rfl, hext⟩ := hrel
    have HX := Lib.hid hext
    clear hext
    by_cases hlt : k < n
    · have hkn : (k : Int) < (n : Int) := by omega
      have hk0 : (0 : Int) ≤ (k : Int) := Int.natCast_nonneg _
      obtain ⟨b, off, A1, c1, l, rfl, -, hl1, hc1, -, -, -, hin1⟩ := HR.out.at_ hlt
      obtain ⟨b', off', A2, c2, l', rfl, -, hl2, hc2, -, -, -, hin2⟩ := HR'.out.at_ hlt
      rw [hl1] at hl2
      cases hl2
      obtain ⟨m, HM⟩ : ∃ m, Hid (l.length = m) := ⟨_, rfl⟩
      have hm : m ≤ 1000000 := by rw [← HM.out]; exact HL.out l (List.mem_of_getElem? hl1)
      rw [HM.out] at hc1 hc2
      have HC1 := Lib.hid hc1
      have HC2 := Lib.hid hc2
      have HI1 := Lib.hid hin1
      have HI2 := Lib.hid hin2
      replace hc1 := HX.out.cell' hc1
      replace hc2 := HX.out.cell' hc2
      have dmm : ((m : Int) != (m : Int)) = false := by simp
      clear hin1 hin2 hl1
      go_wp2
      go_quiet (fail)
      go_wp2
      go_loopw [6] (fun i wr => ∃ j : Nat, j ≤ m ∧ i = .int .i64 j ∧ Ext w wr) (fun i _ => m - (intOf i).toNat)
      case atStart => exact ⟨0, by omega, rfl, below_drewN' HX.out _⟩
      case round =>
        obtain ⟨j, hj, rfl, hext⟩ := hrel
        have HX := Lib.hid hext
        clear hext hc1 hc2
        have hc1 := HX.out.cell' HC1.out
        have hc2 := HX.out.cell' HC2.out
        by_cases hjm : j < m
        · have hjm2 : (j : Int) < (m : Int) := by omega
          have hj0 : (0 : Int) ≤ (j : Int) := Int.natCast_nonneg _
          obtain ⟨x, hx⟩ : ∃ x, l[j]? = some x := ⟨_, List.getElem?_eq_getElem (by rw [HM.out]; exact hjm)⟩
          obtain ⟨b5, o5, rfl, -, -, hd1⟩ := HI1.out j x hx
          obtain ⟨b6, o6, rfl, -, -, hd2⟩ := HI2.out j x hx
          replace hd1 := HX.out.cell' hd1
          replace hd2 := HX.out.cell' hd2
          have dxx : (x != x) = false := by simp
          clear hx
          go_wp2
          go_quiet (fail)
          go_wp2
          go_roundw
          case rel => exact ⟨j + 1, by omega, by go_num, below_drewN' HX.out _⟩
          case measure => simp [intOf]; omega
        · have hjm2 : ¬ (j : Int) < (m : Int) := by omega
          go_wp2
          go_roundw
          case rel => exact ⟨k + 1, by omega, by go_num, HX.out⟩
          case measure => simp [intOf]; omega
    · have hkn : ¬ (k : Int) < (n : Int) := by omega
      go_wp2
      (try rw [Exit.noGoto_ret])
      go_ret
      exact ⟨rfl, HX.out⟩

def sumW (ls : List (List Int)) : Nat → Int
  | 0 => 0
  | k + 1 => IntKind.i64.wrap (IntKind.i64.wrap (sumW ls k + 1) + ((ls.getD k []).length : Int))
theorem sumW_eq {ls : List (List Int)} (hl : ∀ l ∈ ls, l.length ≤ 140737488355328) : ∀ k, k ≤ 30 → k ≤ ls.length → sumW ls k = (tot (ls.take k) : Int) + k ∧ tot (ls.take k) ≤ k * 140737488355328
  | 0, _, _ => by simp [sumW, tot]
  | k + 1, h1, h2 => by
    obtain ⟨h3, h4⟩ := sumW_eq hl k (by omega) (by omega)
    have hk : ls[k]? = some ls[k] := List.getElem?_eq_getElem (by omega)
    have h5 := hl ls[k] (List.mem_of_getElem? hk)
    rw [sumW, h3, take_snoc' hk, tot_snoc, RdLL.getD_ hk]
    refine ⟨?_, by omega⟩
    rw [IntWalk.i64_in ((tot (ls.take k) : Int) + k + 1) (by omega), IntWalk.i64_in _ (by omega)]
    omega
def longB (ls : List (List Int)) : Bool := decide (sumW ls ls.length > 100) || decide ((ls.length : Int) > 30)
theorem longB_false {ls : List (List Int)} (hl : ∀ l ∈ ls, l.length ≤ 140737488355328) (h : longB ls = false) : ls.length ≤ 30 ∧ tot ls ≤ 100 := by
  rw [longB, Bool.or_eq_false_iff, decide_eq_false_iff_not, decide_eq_false_iff_not] at h
  have h1 : ls.length ≤ 30 := by omega
  have h2 := (sumW_eq hl ls.length h1 (Nat.le_refl _)).1
  rw [List.take_length] at h2
  exact ⟨h1, by omega⟩
set_option maxHeartbeats 1000000 in
theorem longW (A : Option Addr) (n c : Nat) (ls : List (List Int)) (w : World) (hr : RdLL (fun _ => True) w A n ls) (hn : n ≤ 140737488355328) (hl : ∀ l ∈ ls, l.length ≤ 140737488355328) :
    Calls Try.prog 9 #[.slice A n c] w fun e w' => e = .returned (.bool (longB ls)) ∧ w = w' := by
  have HR := Lib.hid hr
  have HL := Lib.hid hl
  have HLN : Hid (ls.length = n) := hr.len
  clear hr hl
  go_enter Try.func9, Try.ntmps9
  go_wp2
  go_loop [3, 4] (fun s i => ∃ k : Nat, k ≤ n ∧ i = .int .i64 k ∧ s = .int .i64 (sumW ls k)) (fun _ i => n - (intOf i).toNat)
  case atStart => exact ⟨0, by omega, rfl, rfl⟩
  case round =>
    obtain ⟨k, hk, rfl, rfl⟩ := hrel
    by_cases hlt : k < n
    · have hkn : (k : Int) < (n : Int) := by omega
      obtain ⟨b, off, A1, c1, l, rfl, -, hl1, hc1, -, -, -, -⟩ := HR.out.at_ hlt
      obtain ⟨m, HM⟩ : ∃ m, Hid (l.length = m) := ⟨_, rfl⟩
      rw [HM.out] at hc1
      have HN : Hid (sumW ls (k + 1) = IntKind.i64.wrap (IntKind.i64.wrap (sumW ls k + 1) + (m : Int))) := by show _ = _; rw [sumW, RdLL.getD_ hl1, HM.out]
      obtain ⟨s, HS⟩ : ∃ s, Hid (sumW ls k = s) := ⟨_, rfl⟩
      rw [HS.out] at HN ⊢
      obtain ⟨s1, hs1⟩ : ∃ s1, IntKind.i64.wrap (s + 1) = s1 := ⟨_, rfl⟩
      rw [hs1] at HN
      obtain ⟨s2, hs2⟩ : ∃ s2, IntKind.i64.wrap (s1 + (m : Int)) = s2 := ⟨_, rfl⟩
      rw [hs2] at HN
      clear hl1
      go_wp2
      go_round
      case rel => exact ⟨k + 1, by omega, by go_num, by rw [HN.out]⟩
      case measure => simp [intOf]; omega
    · have hkn : ¬ (k : Int) < (n : Int) := by omega
      obtain rfl : n = k := by omega
      have HB : Hid (longB ls = (decide (sumW ls n > 100) || decide ((n : Int) > 30))) := by show _ = _; rw [longB, HLN.out]
      obtain ⟨s, HS⟩ : ∃ s, Hid (sumW ls n = s) := ⟨_, rfl⟩
      rw [HS.out] at HB ⊢
      by_cases hs : s > 100
      · have d0 : decide (s > 100) = true := decide_eq_true hs
        have HE : Hid (longB ls = true) := by show _ = _; rw [HB.out, d0]; rfl
        clear hs
        go_wp2
        (try rw [Exit.noGoto_ret])
        go_ret
        exact ⟨by rw [HE.out]; rfl, rfl⟩
      · have d0 : decide (s > 100) = false := decide_eq_false hs
        obtain ⟨bb, HBB⟩ : ∃ bb, Hid (decide ((n : Int) > 30) = bb) := ⟨_, rfl⟩
        have d1 : decide ((n : Int) > 30) = bb := HBB.out
        have HE : Hid (longB ls = bb) := by show _ = _; rw [HB.out, d0, d1]; rfl
        clear hs
        go_wp2
        (try rw [Exit.noGoto_ret])
        go_ret
        exact ⟨by rw [HE.out]; first | rfl | (rw [← HBB.out]; simp), rfl⟩
end Go.Proofs.Ytmejjeeobhapfaa
