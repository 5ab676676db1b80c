/-
  Walk: all that is far, by the document. Conditions: none.
-/
import Derived.Test.YtmejjeeobhapfaaDReach
namespace Go.Proofs.Ytmejjeeobhapfaa
open Go.RowKit
set_option linter.unusedVariables false
set_option linter.unusedSimpArgs false

def farQ (ls : List (List Int)) (above : Bool) (u : Nat) (v : Int) : Bool := decide (0 ≤ v ∧ v < (ls.length : Int)) && if above then mget (reachT ls) v.toNat u else mget (reachT ls) u v.toNat
theorem farT_eq (ls : List (List Int)) (l : List Int) (above : Bool) : farT ls l above = numsK (fun u => l.any (farQ ls above u)) ls.length := rfl
theorem any_snoc {α : Type} (p : α → Bool) {l : List α} {i : Nat} {x : α} (h : l[i]? = some x) : (l.take (i + 1)).any p = ((l.take i).any p || p x) := by
  rw [take_snoc' h, List.any_append]; simp
set_option maxRecDepth 100000 in
set_option maxHeartbeats 2000000 in
theorem refFarW (A B : Option Addr) (n ca m cb : Nat) (ls : List (List Int)) (l : List Int) (above : Bool) (w : World) (hr : RdLL (fun _ => True) w A n ls) (hl : RdI w B m l) (hn : n ≤ 100) (hm : m ≤ 1000) (hls : ∀ l ∈ ls, l.length ≤ 1000000) :
    Calls Try.prog 14 #[.slice A n ca, .slice B m cb, .bool above] w (GivesI (farT ls l above) w) := by
  obtain ⟨i0, hi0, hz0, hz1, hz2⟩ := info_parts Try.infoIntD
  have HLN : Hid (ls.length = n) := hr.len
  have HLM : Hid (l.length = m) := RdL.len hl
  have HRW := Lib.hid (reachW A n ca ls w hr hn hls)
  have HB := Lib.hid hl
  have HFT : Hid (farT ls l above = numsK (fun u => l.any (farQ ls above u)) n) := by show _ = _; rw [farT_eq, HLN.out]
  have HSQ : Hid (Sq n (reachT ls)) := by show Sq _ _; rw [← HLN.out]; exact sq_reach ls
  rw [HFT.out]
  clear hr hl hls HFT
  go_enter Try.func14, Try.ntmps14
  go_wp2_with fail
  refine HRW.out.mono ?_
  rintro e w1 ⟨AR, cR, rfl, hrt, hx1⟩
  have HT := Lib.hid hrt
  have HX1 := Lib.hid hx1
  clear hrt hx1 HRW
  go_wp2
  go_loopw [8, 9] (fun o i wr => ∃ u : Nat, u ≤ n ∧ i = .int .i64 u ∧ Hid (OI wr w1.heap.size o (numsK (fun u => l.any (farQ ls above u)) u)) ∧ Hid (Ext w1 wr)) (fun _ i _ => n - (intOf i).toNat)
  case atStart => exact ⟨0, by omega, rfl, OI.nil _ _, Ext.rfl'⟩
  case round =>
    obtain ⟨u, hu, rfl, HO, HX⟩ := hrel
    by_cases hul : u < n
    · have hun : (u : Int) < (n : Int) := by omega
      obtain ⟨wa, HWA⟩ : ∃ wa, wa = wr := ⟨_, rfl⟩
      subst HWA
      go_wp2
      go_loopw [10, 11] (fun b i wr => ∃ i' : Nat, i' ≤ m ∧ i = .int .i64 i' ∧ b = .bool ((l.take i').any (farQ ls above u)) ∧ Hid (wa = wr)) (fun _ i _ => m - (intOf i).toNat)
      case atStart => exact ⟨0, by omega, rfl, by simp, rfl⟩
      case round =>
        obtain ⟨i, hi, rfl, rfl, HE⟩ := hrel
        have he := HE.out
        subst he
        obtain ⟨b0, HB0⟩ : ∃ b0, Hid ((l.take i).any (farQ ls above u) = b0) := ⟨_, rfl⟩
        rw [HB0.out]
        by_cases him : i < m
        · have him2 : (i : Int) < (m : Int) := by omega
          obtain ⟨b, off, x, rfl, -, hx, hd0⟩ := RdI.cut (HB.out.ext (HX1.out.trans' HX.out)) him
          have HNX : Hid ((l.take (i + 1)).any (farQ ls above u) = (b0 || farQ ls above u x)) := by show _ = _; rw [any_snoc _ hx, HB0.out]
          clear hx
          by_cases hx0 : 0 ≤ x
          · have d0 : decide (x ≥ 0) = true := decide_eq_true hx0
            by_cases hxn : x < (n : Int)
            · have d1 : decide (x < (n : Int)) = true := decide_eq_true hxn
              obtain ⟨X, rfl⟩ : ∃ X : Nat, x = (X : Int) := ⟨x.toNat, by omega⟩
              have hXn : X < n := by omega
              have hXn2 : (X : Int) < (n : Int) := by omega
              replace HNX : Hid ((l.take (i + 1)).any (farQ ls above u) = (b0 || if above then mget (reachT ls) X u else mget (reachT ls) u X)) := by
                show _ = _
                rw [HNX.out, farQ, HLN.out, decide_eq_true (⟨hx0, hxn⟩ : 0 ≤ (X : Int) ∧ (X : Int) < (n : Int)), Bool.true_and, Int.toNat_natCast]
              obtain ⟨l1, hl1, hln1, hlu1⟩ := HSQ.out.at_ hXn hul
              obtain ⟨l2, hl2, hln2, hlu2⟩ := HSQ.out.at_ hul hXn
              have HTX := HT.out.ext HX.out
              obtain ⟨bR, oR, A1, c1, hAR, -, -, hc1, -, hin1⟩ := HTX.2 X l1 hl1
              obtain ⟨bR', oR', A2, c2, hAR', -, -, hc2, -, hin2⟩ := HTX.2 u l2 hl2
              rw [hAR] at hAR'
              injection hAR' with hAR'
              injection hAR' with e1 e2 _
              subst e1
              subst e2
              subst hAR
              rw [hln1] at hc1
              rw [hln2] at hc2
              obtain ⟨p1, q1, rfl, -, -, hd1⟩ := hin1 u _ hlu1
              obtain ⟨p2, q2, rfl, -, -, hd2⟩ := hin2 X _ hlu2
              obtain ⟨x1, HX1'⟩ : ∃ x1, Hid (mget (reachT ls) X u = x1) := ⟨_, rfl⟩
              obtain ⟨x2, HX2'⟩ : ∃ x2, Hid (mget (reachT ls) u X = x2) := ⟨_, rfl⟩
              rw [HX1'.out] at hd1 HNX
              rw [HX2'.out] at hd2 HNX
              clear hl1 hln1 hlu1 hl2 hln2 hlu2 hin1 hin2 HTX hx0 hxn
              cases b0 with
              | true =>
                replace HNX : Hid ((l.take (i + 1)).any (farQ ls above u) = true) := by show _ = _; rw [HNX.out]; rfl
                go_wp2
                go_roundw
                case rel => exact ⟨i + 1, by omega, by go_num, by rw [HNX.out], (by first | exact rfl | exact True.intro)⟩
                case measure => simp [intOf]; omega
              | false =>
                cases above with
                | true =>
                  replace HNX : Hid ((l.take (i + 1)).any (farQ ls true u) = x1) := by show _ = _; rw [HNX.out]; rfl
                  cases x1 with
                  | true =>
                    go_wp2
                    go_roundw
                    case rel => exact ⟨i + 1, by omega, by go_num, by rw [HNX.out], (by first | exact rfl | exact True.intro)⟩
                    case measure => simp [intOf]; omega
                  | false =>
                    go_wp2
                    go_roundw
                    case rel => exact ⟨i + 1, by omega, by go_num, by rw [HNX.out], (by first | exact rfl | exact True.intro)⟩
                    case measure => simp [intOf]; omega
                | false =>
                  replace HNX : Hid ((l.take (i + 1)).any (farQ ls false u) = x2) := by show _ = _; rw [HNX.out]; rfl
                  cases x2 with
                  | true =>
                    go_wp2
                    go_roundw
                    case rel => exact ⟨i + 1, by omega, by go_num, by rw [HNX.out], (by first | exact rfl | exact True.intro)⟩
                    case measure => simp [intOf]; omega
                  | false =>
                    go_wp2
                    go_roundw
                    case rel => exact ⟨i + 1, by omega, by go_num, by rw [HNX.out], (by first | exact rfl | exact True.intro)⟩
                    case measure => simp [intOf]; omega
            · have d1 : decide (x < (n : Int)) = false := decide_eq_false hxn
              replace HNX : Hid ((l.take (i + 1)).any (farQ ls above u) = b0) := by
                show _ = _
                rw [HNX.out, farQ, HLN.out, decide_eq_false (fun h : 0 ≤ x ∧ x < (n : Int) => hxn h.2)]; simp
              clear hx0 hxn
              go_wp2
              go_roundw
              case rel => exact ⟨i + 1, by omega, by go_num, by rw [HNX.out], (by first | exact rfl | exact True.intro)⟩
              case measure => simp [intOf]; omega
          · have d0 : decide (x ≥ 0) = false := decide_eq_false hx0
            replace HNX : Hid ((l.take (i + 1)).any (farQ ls above u) = b0) := by
              show _ = _
              rw [HNX.out, farQ, HLN.out, decide_eq_false (fun h : 0 ≤ x ∧ x < (n : Int) => hx0 h.1)]; simp
            clear hx0
            go_wp2
            go_roundw
            case rel => exact ⟨i + 1, by omega, by go_num, by rw [HNX.out], (by first | exact rfl | exact True.intro)⟩
            case measure => simp [intOf]; omega
        · have him2 : ¬ (i : Int) < (m : Int) := by omega
          obtain rfl : m = i := by omega
          have HAL : Hid (l.any (farQ ls above u) = b0) := by
            show _ = _
            rw [← HB0.out, List.take_of_length_le (by rw [HLM.out]; exact Nat.le_refl _)]
          obtain ⟨q, HQ⟩ : ∃ q, Hid ((numsK (fun u => l.any (farQ ls above u)) u).length = q) := ⟨_, rfl⟩
          have hq : q ≤ 1000 := by rw [← HQ.out]; have := numsK_len (fun u => l.any (farQ ls above u)) u; omega
          have hsl := HO.out.slice
          rw [HQ.out] at hsl
          obtain ⟨A3, c3, rfl, hq3, -⟩ := hsl
          cases b0 with
          | false =>
            have HN2 : Hid (numsK (fun u => l.any (farQ ls above u)) (u + 1) = numsK (fun u => l.any (farQ ls above u)) u) := by
              show _ = _
              rw [numsK_succ, if_neg (by rw [HAL.out]; simp), List.append_nil]
            go_wp2
            go_roundw
            case rel => exact ⟨u + 1, by omega, by go_num, by rw [HN2.out]; exact HO.out, HX.out⟩
            case measure => simp [intOf]; omega
          | true =>
            have HN2 : Hid (numsK (fun u => l.any (farQ ls above u)) (u + 1) = numsK (fun u => l.any (farQ ls above u)) u ++ [(u : Int)]) := by
              show _ = _
              rw [numsK_succ, if_pos HAL.out]
            have hown : wa.ownsRow w1.heap.size 3 1 (.slice A3 q c3) q (flat encI (numsK (fun u => l.any (farQ ls above u)) u)) := OI.n_ HO.out HQ.out
            have HSZ : Hid (w1.heap.size ≤ wa.heap.size) := HX.out.size
            obtain ⟨FL, HF⟩ : ∃ FL, Hid (FL = flat encI (numsK (fun u => l.any (farQ ls above u)) u)) := ⟨_, rfl⟩
            rw [← HF.out] at hown
            obtain ⟨wb, HWB⟩ : ∃ wb, wb = w1 := ⟨_, rfl⟩
            subst HWB
            go_wp2_with (at_builtin; refine wpList_append_lies _ rfl _ _ _ rfl wb.heap.size 3 i0 _ 1 8 Try.underlying23 hi0 hz0 hz1 hz2 rfl (by omega) _ q FL rfl (World.ownsRow.alloc hown _) ⟨wa.heap.size, 0, none⟩ 1 1 [.int .i64 (u : Int)] rfl rfl (World.news_of_block (cs := #[.int .i64 (u : Int)]) (t := 3) (fr := (0, 0)) (heap_alloc_new wa _)) (by simp [Value.oneCell']) (by omega) (by simp only [maxLen]; omega) (by omega) (by have := HSZ.out; first | (simp; done) | (simp; omega)) (wa.heap.size + 1) (by simp) ?_; intro gg cap w1 hown1 hgrow hat hlt2; have HXX := Lib.hid (app1 (gg := gg) (cap := cap) (n := q) (v := .slice A3 q c3) HO.out HQ.out (by rw [← HF.out]; exact hown1) hgrow hat); clear hown1 hgrow hat)
            go_roundw
            case rel => exact ⟨u + 1, by omega, by go_num, by rw [HN2.out]; exact HXX.out.1, ((Mod.of_ext (S := (Value.slice A3 q c3).ownBlock.toList) HX.out).trans HXX.out.2.1 (fun t ht => .inl ht)).ext (fun s hs => (HO.out.obj (g := s) (by simpa using hs)).1)⟩
            case measure => simp [intOf]; omega
    · have hun : ¬ (u : Int) < (n : Int) := by omega
      obtain rfl : n = u := by omega
      go_wp2
      (try rw [Exit.noGoto_ret])
      go_ret
      exact ⟨_, rfl, OI.low HO.out HX1.out.size, HX1.out.trans' HX.out⟩
end Go.Proofs.Ytmejjeeobhapfaa
