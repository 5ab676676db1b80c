/-
  Walks: the document's neighbours. Conditions: none.
-/
import Derived.Test.YtmejjeeobhapfaaDGet
import Derived.Test.YtmejjeeobhapfaaDSame
namespace Go.Proofs.Ytmejjeeobhapfaa
open Go.RowKit
set_option linter.unusedVariables false
set_option linter.unusedSimpArgs false

set_option maxHeartbeats 1000000 in
theorem refHas5 (A : Option Addr) (n c : Nat) (L : List Int) (x : Int) (w : World) (hr : RdI w A n L) (hn : n ≤ 9223372036854775807) :
    Calls Try.prog 28 #[.slice A n c, .int .i64 x] w fun e w' => e = .returned (.bool (decide (x ∈ L))) ∧ w = w' := by
  have HR := Lib.hid hr; clear hr
  go_enter Try.func28, Try.ntmps28
  go_wp2
  go_loop [5] (fun i => ∃ k : Nat, k ≤ n ∧ i = .int .i64 k ∧ Hid (x ∉ L.take k)) (fun i => n - (intOf i).toNat)
  case atStart => exact ⟨0, by omega, rfl, (fun h => by simp at h)⟩
  case round =>
    obtain ⟨k, hk, rfl, HX⟩ := hrel
    by_cases hlt : k < n
    · obtain ⟨b, off, y, rfl, hb, hx, hd0⟩ := RdI.cut HR.out hlt
      have Hx := Lib.hid hx; clear hx
      by_cases hy : y = x
      · have dy : (y == x) = true := by simpa using hy
        have HE : Hid (decide (x ∈ L) = true) := decide_eq_true (by rw [← hy]; exact List.mem_of_getElem? Hx.out)
        clear hy
        go_wp2
        (try rw [Exit.noGoto_ret])
        go_ret
        exact ⟨by rw [HE.out]; rfl, rfl⟩
      · have dy : (y == x) = false := by simpa using hy
        have HN : Hid (x ∉ L.take (k + 1)) := fun h => by
          rw [take_snoc' Hx.out] at h
          rcases List.mem_append.1 h with h | h
          · exact HX.out h
          · simp at h; exact hy h.symm
        clear hy
        go_wp2
        go_round
        case rel => exact ⟨k + 1, by omega, by go_num, HN⟩
        case measure => simp [intOf]; omega
    · have HE : Hid (decide (x ∈ L) = false) := decide_eq_false (by have := HX.out; rwa [take_all' (RdL.len HR.out) (by omega)] at this)
      go_wp2
      (try rw [Exit.noGoto_ret])
      go_ret
      exact ⟨by rw [HE.out]; rfl, rfl⟩
theorem refHas5V {x : Int} {L : List Int} {v : Bool} (h : decide (x ∈ L) = v) (A : Option Addr) (n c : Nat) (w : World) (hr : RdI w A n L) (hn : n ≤ 9223372036854775807) :
    Calls Try.prog 28 #[.slice A n c, .int .i64 x] w fun e w' => e = .returned (.bool v) ∧ w = w' := by
  subst h; exact refHas5 A n c L x w hr hn

def numsK (p : Nat → Bool) (k : Nat) : List Int := ((List.range k).filter p).map fun (i : Nat) => (i : Int)
theorem numsK_succ (p : Nat → Bool) (k : Nat) : numsK p (k + 1) = numsK p k ++ if p k then [(k : Int)] else [] := by
  rw [numsK, List.range_succ, List.filter_append, List.map_append]
  by_cases h : p k = true
  · simp [h, numsK]
  · simp [h, numsK]
theorem numsK_len (p : Nat → Bool) (k : Nat) : (numsK p k).length ≤ k := by
  have := List.length_filter_le p (List.range k)
  simp [numsK] at this ⊢; exact this
def befR (ls : List (List Int)) (v : Int) : List Int := if 0 ≤ v ∧ v < ls.length then numsK (fun u => decide ((u : Int) ∈ ls.getD v.toNat [])) ls.length else []
def behR (ls : List (List Int)) (v : Int) : List Int := if 0 ≤ v then numsK (fun u => decide (v ∈ ls.getD u [])) ls.length else []

set_option maxRecDepth 100000 in
set_option maxHeartbeats 2000000 in
theorem refBefore5 (A : Option Addr) (n c : Nat) (ls : List (List Int)) (v : Int) (w : World) (hr : RdLL (fun _ => True) w A n ls) (hn : n ≤ 1000) (hl : ∀ l ∈ ls, l.length ≤ 1000000) :
    Calls Try.prog 17 #[.slice A n c, .int .i64 v] w (GivesI (befR ls v) w) := by
  obtain ⟨i0, hi0, hz0, hz1, hz2⟩ := info_parts Try.infoIntD
  have HLN : Hid (ls.length = n) := hr.len
  by_cases hv : 0 ≤ v ∧ v < n
  · obtain ⟨V, rfl⟩ : ∃ V : Nat, v = (V : Int) := ⟨v.toNat, by omega⟩
    have hVn : V < n := by omega
    obtain ⟨b, off, A', c', l, rfl, -, hl2, hcl, -, hrl, -, -⟩ := hr.at_ hVn
    obtain ⟨m, HM⟩ : ∃ m, Hid (l.length = m) := ⟨_, rfl⟩
    have hm := hl l (List.mem_of_getElem? hl2)
    rw [HM.out] at hcl hrl hm
    have HRL := Lib.hid hrl
    have HCL := Lib.hid hcl
    have HE : Hid (befR ls (V : Int) = numsK (fun u => decide ((u : Int) ∈ l)) n) := by
      show _ = _
      rw [befR, HLN.out, if_pos hv, Int.toNat_natCast, RdLL.getD_ hl2]
    have hV0 : decide ((V : Int) ≥ 0) = true := decide_eq_true (by omega)
    have hV1 : decide ((V : Int) < (n : Int)) = true := decide_eq_true (by omega)
    have hVn2 : (V : Int) < (n : Int) := by omega
    rw [HE.out]
    clear hr hl hl2 hrl hcl hv
    go_enter Try.func17, Try.ntmps17
    go_wp2
    go_loopw [5, 6] (fun o i wr => ∃ k : Nat, k ≤ n ∧ i = .int .i64 k ∧ Hid (OI wr w.heap.size o (numsK (fun u => decide ((u : Int) ∈ l)) k)) ∧ Hid (Ext w wr)) (fun _ i _ => n - (intOf i).toNat)
    case atStart => exact ⟨0, by omega, rfl, OI.nil _ _, Ext.rfl'⟩
    case round =>
      obtain ⟨k, hk, rfl, HO, HX⟩ := hrel
      by_cases hlt : k < n
      · have g0 : decide ((k : Int) < (n : Int)) = true := decide_eq_true (by omega)
        obtain ⟨q, HQ⟩ : ∃ q, Hid ((numsK (fun u => decide ((u : Int) ∈ l)) k).length = q) := ⟨_, rfl⟩
        have hsl := HO.out.slice
        rw [HQ.out] at hsl
        obtain ⟨A3, c3, rfl, hq3, -⟩ := hsl
        have hq : q ≤ 1000 := by rw [← HQ.out]; have := numsK_len (fun u => decide ((u : Int) ∈ l)) k; omega
        have hown : wr.ownsRow w.heap.size 3 1 (.slice A3 q c3) q (flat encI (numsK (fun u => decide ((u : Int) ∈ l)) k)) := OI.n_ HO.out HQ.out
        have hcl := HX.out.cell' HCL.out
        have HSZ : Hid (w.heap.size ≤ wr.heap.size) := HX.out.size
        obtain ⟨FL, HF⟩ : ∃ FL, Hid (FL = flat encI (numsK (fun u => decide ((u : Int) ∈ l)) k)) := ⟨_, rfl⟩
        rw [← HF.out] at hown
        have HAS := Lib.hid (refHas5V (x := (k : Int)) (L := l) (v := decide ((k : Int) ∈ l)) rfl A' m c')
        by_cases hin : (k : Int) ∈ l
        · have d1 : decide ((k : Int) ∈ l) = true := decide_eq_true hin
          have HN : Hid (numsK (fun u => decide ((u : Int) ∈ l)) (k + 1) = numsK (fun u => decide ((u : Int) ∈ l)) k ++ [(k : Int)]) := by show _ = _; rw [numsK_succ, if_pos d1]
          rw [d1] at HAS
          clear d1 hin
          go_wp2_with fail
          refine (HAS.out wr (HRL.out.ext HX.out) (by omega)).mono ?_
          rintro e w1 ⟨rfl, rfl⟩
          go_wp2_with (at_builtin; refine wpList_append_lies _ rfl _ _ _ rfl w.heap.size 3 i0 _ 1 8 Try.underlying23 hi0 hz0 hz1 hz2 rfl (by omega) _ q FL rfl (World.ownsRow.alloc hown _) ⟨wr.heap.size, 0, none⟩ 1 1 [.int .i64 (k : Int)] rfl rfl (World.news_of_block (cs := #[.int .i64 (k : Int)]) (t := 3) (fr := (0, 0)) (heap_alloc_new wr _)) (by simp [Value.oneCell']) (by omega) (by simp only [maxLen]; omega) (by omega) (by have := HSZ.out; first | (simp; done) | (simp; omega)) (wr.heap.size + 1) (by simp) ?_; intro gg cap w1 hown1 hgrow hat hlt2; have HX1 := Lib.hid (app1 (gg := gg) (cap := cap) (n := q) (v := .slice A3 q c3) HO.out HQ.out (by rw [← HF.out]; exact hown1) hgrow hat); clear hown1 hgrow hat)
          go_roundw
          case rel => exact ⟨k + 1, by omega, by go_num, by rw [HN.out]; exact HX1.out.1, ((Mod.of_ext (S := (Value.slice A3 q c3).ownBlock.toList) HX.out).trans HX1.out.2.1 (fun t ht => .inl ht)).ext (fun s hs => (HO.out.obj (g := s) (by simpa using hs)).1)⟩
          case measure => simp [intOf]; omega
        · have d1 : decide ((k : Int) ∈ l) = false := decide_eq_false hin
          have HN : Hid (numsK (fun u => decide ((u : Int) ∈ l)) (k + 1) = numsK (fun u => decide ((u : Int) ∈ l)) k) := by show _ = _; rw [numsK_succ, if_neg (by rw [d1]; simp), List.append_nil]
          rw [d1] at HAS
          clear d1 hin hown
          go_wp2_with fail
          refine (HAS.out wr (HRL.out.ext HX.out) (by omega)).mono ?_
          rintro e w1 ⟨rfl, rfl⟩
          go_wp2
          go_roundw
          case rel => exact ⟨k + 1, by omega, by go_num, by rw [HN.out]; exact HO.out, HX.out⟩
          case measure => simp [intOf]; omega
      · have g0 : decide ((k : Int) < (n : Int)) = false := decide_eq_false (by omega)
        obtain rfl : n = k := by omega
        go_wp2
        (try rw [Exit.noGoto_ret])
        go_ret
        exact ⟨_, rfl, HO.out, HX.out⟩
  · have HE : Hid (befR ls v = []) := by show _ = _; rw [befR, HLN.out, if_neg hv]
    rw [HE.out]
    clear hr hl
    by_cases h0 : 0 < n
    · have g0 : decide ((0 : Int) < (n : Int)) = true := decide_eq_true (by omega)
      by_cases hv0 : 0 ≤ v
      · have d0 : decide (v ≥ 0) = true := decide_eq_true hv0
        have d1 : decide (v < (n : Int)) = false := decide_eq_false (fun h => hv ⟨hv0, h⟩)
        clear hv hv0
        go_enter Try.func17, Try.ntmps17
        go_wp2
        go_loopw [5, 6] (fun o i wr => o = .slice none 0 0 ∧ i = .int .i64 0 ∧ w = wr) (fun _ i _ => n - (intOf i).toNat)
        case atStart => exact ⟨rfl, rfl, rfl⟩
        case round =>
          obtain ⟨rfl, rfl, rfl⟩ := hrel
          go_wp2
          (try rw [Exit.noGoto_ret])
          go_ret
          exact ⟨_, rfl, OI.nil _ _, Ext.rfl'⟩
      · have d0 : decide (v ≥ 0) = false := decide_eq_false hv0
        clear hv hv0
        go_enter Try.func17, Try.ntmps17
        go_wp2
        go_loopw [5, 6] (fun o i wr => o = .slice none 0 0 ∧ i = .int .i64 0 ∧ w = wr) (fun _ i _ => n - (intOf i).toNat)
        case atStart => exact ⟨rfl, rfl, rfl⟩
        case round =>
          obtain ⟨rfl, rfl, rfl⟩ := hrel
          go_wp2
          (try rw [Exit.noGoto_ret])
          go_ret
          exact ⟨_, rfl, OI.nil _ _, Ext.rfl'⟩
    · have g0 : decide ((0 : Int) < (n : Int)) = false := decide_eq_false (by omega)
      clear hv
      go_enter Try.func17, Try.ntmps17
      go_wp2
      go_loopw [5, 6] (fun o i wr => o = .slice none 0 0 ∧ i = .int .i64 0 ∧ w = wr) (fun _ i _ => n - (intOf i).toNat)
      case atStart => exact ⟨rfl, rfl, rfl⟩
      case round =>
        obtain ⟨rfl, rfl, rfl⟩ := hrel
        go_wp2
        (try rw [Exit.noGoto_ret])
        go_ret
        exact ⟨_, rfl, OI.nil _ _, Ext.rfl'⟩

set_option maxRecDepth 100000 in
set_option maxHeartbeats 2000000 in
theorem refBehind5 (A : Option Addr) (n c : Nat) (ls : List (List Int)) (v : Int) (w : World) (hr : RdLL (fun _ => True) w A n ls) (hn : n ≤ 1000) (hl : ∀ l ∈ ls, l.length ≤ 1000000) :
    Calls Try.prog 19 #[.slice A n c, .int .i64 v] w (GivesI (behR ls v) w) := by
  obtain ⟨i0, hi0, hz0, hz1, hz2⟩ := info_parts Try.infoIntD
  have HLN : Hid (ls.length = n) := hr.len
  have HR := Lib.hid hr
  have HL := Lib.hid hl
  clear hr hl
  by_cases hv0 : 0 ≤ v
  · have hV0 : decide (v ≥ 0) = true := decide_eq_true hv0
    have HE : Hid (behR ls v = numsK (fun u => decide (v ∈ ls.getD u [])) n) := by show _ = _; rw [behR, HLN.out, if_pos hv0]
    rw [HE.out]
    clear hv0
    go_enter Try.func19, Try.ntmps19
    go_wp2
    go_loopw [5, 6] (fun o i wr => ∃ k : Nat, k ≤ n ∧ i = .int .i64 k ∧ Hid (OI wr w.heap.size o (numsK (fun u => decide (v ∈ ls.getD u [])) k)) ∧ Hid (Ext w wr)) (fun _ i _ => n - (intOf i).toNat)
    case atStart => exact ⟨0, by omega, rfl, OI.nil _ _, Ext.rfl'⟩
    case round =>
      obtain ⟨k, hk, rfl, HO, HX⟩ := hrel
      by_cases hlt : k < n
      · have g0 : (k : Int) < (n : Int) := by omega
        obtain ⟨b, off, A', c', l, rfl, -, hl2, hcl, -, hrl, -, -⟩ := (HR.out.ext HX.out).at_ hlt
        obtain ⟨m, HM⟩ : ∃ m, Hid (l.length = m) := ⟨_, rfl⟩
        have hm := HL.out l (List.mem_of_getElem? hl2)
        rw [HM.out] at hcl hrl hm
        have HRL := Lib.hid hrl
        have HGD : Hid (ls.getD k [] = l) := RdLL.getD_ hl2
        obtain ⟨q, HQ⟩ : ∃ q, Hid ((numsK (fun u => decide (v ∈ ls.getD u [])) k).length = q) := ⟨_, rfl⟩
        have hsl := HO.out.slice
        rw [HQ.out] at hsl
        obtain ⟨A3, c3, rfl, hq3, -⟩ := hsl
        have hq : q ≤ 1000 := by rw [← HQ.out]; have := numsK_len (fun u => decide (v ∈ ls.getD u [])) k; omega
        have hown : wr.ownsRow w.heap.size 3 1 (.slice A3 q c3) q (flat encI (numsK (fun u => decide (v ∈ ls.getD u [])) k)) := OI.n_ HO.out HQ.out
        have HSZ : Hid (w.heap.size ≤ wr.heap.size) := HX.out.size
        obtain ⟨FL, HF⟩ : ∃ FL, Hid (FL = flat encI (numsK (fun u => decide (v ∈ ls.getD u [])) k)) := ⟨_, rfl⟩
        rw [← HF.out] at hown
        have HAS := Lib.hid (refHas5V (x := v) (L := l) (v := decide (v ∈ l)) rfl A' m c')
        clear hl2 hrl
        by_cases hin : v ∈ l
        · have d1 : decide (v ∈ l) = true := decide_eq_true hin
          have HN : Hid (numsK (fun u => decide (v ∈ ls.getD u [])) (k + 1) = numsK (fun u => decide (v ∈ ls.getD u [])) k ++ [(k : Int)]) := by show _ = _; rw [numsK_succ, HGD.out, if_pos d1]
          rw [d1] at HAS
          clear d1 hin
          go_wp2_with fail
          refine (HAS.out wr HRL.out (by omega)).mono ?_
          rintro e w1 ⟨rfl, rfl⟩
          go_wp2_with (at_builtin; refine wpList_append_lies _ rfl _ _ _ rfl w.heap.size 3 i0 _ 1 8 Try.underlying23 hi0 hz0 hz1 hz2 rfl (by omega) _ q FL rfl (World.ownsRow.alloc hown _) ⟨wr.heap.size, 0, none⟩ 1 1 [.int .i64 (k : Int)] rfl rfl (World.news_of_block (cs := #[.int .i64 (k : Int)]) (t := 3) (fr := (0, 0)) (heap_alloc_new wr _)) (by simp [Value.oneCell']) (by omega) (by simp only [maxLen]; omega) (by omega) (by have := HSZ.out; first | (simp; done) | (simp; omega)) (wr.heap.size + 1) (by simp) ?_; intro gg cap w1 hown1 hgrow hat hlt2; have HX1 := Lib.hid (app1 (gg := gg) (cap := cap) (n := q) (v := .slice A3 q c3) HO.out HQ.out (by rw [← HF.out]; exact hown1) hgrow hat); clear hown1 hgrow hat)
          go_roundw
          case rel => exact ⟨k + 1, by omega, by go_num, by rw [HN.out]; exact HX1.out.1, ((Mod.of_ext (S := (Value.slice A3 q c3).ownBlock.toList) HX.out).trans HX1.out.2.1 (fun t ht => .inl ht)).ext (fun s hs => (HO.out.obj (g := s) (by simpa using hs)).1)⟩
          case measure => simp [intOf]; omega
        · have d1 : decide (v ∈ l) = false := decide_eq_false hin
          have HN : Hid (numsK (fun u => decide (v ∈ ls.getD u [])) (k + 1) = numsK (fun u => decide (v ∈ ls.getD u [])) k) := by show _ = _; rw [numsK_succ, HGD.out, if_neg (by rw [d1]; simp), List.append_nil]
          rw [d1] at HAS
          clear d1 hin hown
          go_wp2_with fail
          refine (HAS.out wr HRL.out (by omega)).mono ?_
          rintro e w1 ⟨rfl, rfl⟩
          go_wp2
          go_roundw
          case rel => exact ⟨k + 1, by omega, by go_num, by rw [HN.out]; exact HO.out, HX.out⟩
          case measure => simp [intOf]; omega
      · have g0 : ¬ (k : Int) < (n : Int) := by omega
        obtain rfl : n = k := by omega
        go_wp2
        (try rw [Exit.noGoto_ret])
        go_ret
        exact ⟨_, rfl, HO.out, HX.out⟩
  · have hV0 : decide (v ≥ 0) = false := decide_eq_false hv0
    have HE : Hid (behR ls v = []) := by show _ = _; rw [behR, if_neg hv0]
    rw [HE.out]
    clear hv0
    go_enter Try.func19, Try.ntmps19
    go_wp2
    go_loopw [5, 6] (fun o i wr => ∃ k : Nat, k ≤ n ∧ i = .int .i64 k ∧ o = .slice none 0 0 ∧ w = wr) (fun _ i _ => n - (intOf i).toNat)
    case atStart => exact ⟨0, by omega, rfl, rfl, rfl⟩
    case round =>
      obtain ⟨k, hk, rfl, rfl, rfl⟩ := hrel
      by_cases hlt : k < n
      · have g0 : (k : Int) < (n : Int) := by omega
        go_wp2
        go_roundw
        case rel => exact ⟨k + 1, by omega, by go_num, by simp, by simp⟩
        case measure => simp [intOf]; omega
      · have g0 : ¬ (k : Int) < (n : Int) := by omega
        go_wp2
        (try rw [Exit.noGoto_ret])
        go_ret
        exact ⟨_, rfl, OI.nil _ _, Ext.rfl'⟩
end Go.Proofs.Ytmejjeeobhapfaa
