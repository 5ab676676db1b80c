/-
  Walks: is a number among some, and jobs in order, by the document. Conditions: none.
-/
import Derived.Test.YtbcpjdjlgmhohaaWCmp
import Derived.Test.YtbcpjdjlgmhohaaWPushK
import Derived.Test.YtbcpjdjlgmhohaaWTimes9
import Derived.Deep.DeepCutAuto
namespace Go.Proofs.Ytbcpjdjlgmhohaa
open Go.RowKit
set_option linter.unusedVariables false
set_option linter.unusedSimpArgs false

set_option maxHeartbeats 1000000 in
theorem refHas5 (A : Option Addr) (n c : Nat) (L : List Int) (x : Int) (w : World) (hr : RdI w A n L) (hn : n ≤ 9223372036854775807) :
    Calls Try.prog 37 #[.slice A n c, .int .i64 x] w fun e w' => e = .returned (.bool (decide (x ∈ L))) ∧ w = w' := by
  have HR := Lib.hid hr; clear hr
  go_enter Try.func37, Try.ntmps37
  go_wp2
  go_loop [5] (fun i => ∃ k : Nat, k ≤ n ∧ i = .int .i64 k ∧ Hid (x ∉ L.take k)) (fun i => n - (intOf i).toNat)
  case atStart => exact ⟨0, by omega, rfl, (fun h => by simp at h)⟩
  case round =>
    obtain ⟨k, hk, rfl, HX⟩ := hrel
    by_cases hlt : k < n
    · obtain ⟨b, off, y, rfl, hb, hx, hd0⟩ := RdI.cut HR.out hlt
      have Hx := Lib.hid hx; clear hx
      by_cases hy : y = x
      · have dy : (y == x) = true := by simpa using hy
        have HE : Hid (decide (x ∈ L) = true) := decide_eq_true (by rw [← hy]; exact List.mem_of_getElem? Hx.out)
        clear hy
        go_wp2
        (try rw [Exit.noGoto_ret])
        go_ret
        exact ⟨by rw [HE.out]; rfl, rfl⟩
      · have dy : (y == x) = false := by simpa using hy
        have HN : Hid (x ∉ L.take (k + 1)) := fun h => by
          rw [take_snoc' Hx.out] at h
          rcases List.mem_append.1 h with h | h
          · exact HX.out h
          · simp at h; exact hy h.symm
        clear hy
        go_wp2
        go_round
        case rel => exact ⟨k + 1, by omega, by go_num, HN⟩
        case measure => simp [intOf]; omega
    · have HE : Hid (decide (x ∈ L) = false) := decide_eq_false (by have := HX.out; rwa [take_all' (RdL.len HR.out) (by omega)] at this)
      go_wp2
      (try rw [Exit.noGoto_ret])
      go_ret
      exact ⟨by rw [HE.out]; rfl, rfl⟩
theorem refHas5V {x : Int} {L : List Int} {v : Bool} (h : decide (x ∈ L) = v) (A : Option Addr) (n c : Nat) (w : World) (hr : RdI w A n L) (hn : n ≤ 9223372036854775807) :
    Calls Try.prog 37 #[.slice A n c, .int .i64 x] w fun e w' => e = .returned (.bool v) ∧ w = w' := by
  subst h; exact refHas5 A n c L x w hr hn

def GivesOrdQ (l : List Jb) (w : World) (e : Ending) (w' : World) : Prop := ∃ A c, e = .returned (.slice A l.length c) ∧ RdQ w' A l.length (orderJ l) ∧ l.length ≤ c ∧ Ext w w'
theorem job_taken (x y : Jb) : cfJ y x < 0 ↔ x.2.1 < y.2.1 ∨ (y.2.1 = x.2.1 ∧ y.1 < x.1) := by rw [cfJ_neg]; omega
set_option maxRecDepth 100000 in
set_option maxHeartbeats 8000000 in
theorem refOrder (A : Option Addr) (n c : Nat) (l : List Jb) (w : World) (hr : RdQ w A n l) (hn : n ≤ 100000) :
    Calls Try.prog 19 #[.slice A n c] w (GivesOrdQ l w) := by
  have HR := Lib.hid hr; clear hr
  obtain ⟨i0, hi0, hz0, hz1, hz2⟩ := info_parts Try.infoInt9
  obtain ⟨i1, hj0, hy0, hy1, hy2⟩ := info_parts Try.infoJob
  go_enter Try.func19, Try.ntmps19
  go_wp2
  go_loopw [3, 4] (fun s d wr => ∃ (O : List Jb) (D : List Int), wr.ownsRow w.heap.size 45 4 s O.length (flat encQ O) ∧ wr.ownsRow w.heap.size 3 1 d D.length (flat encI D) ∧ Hid (OrdInv l O D) ∧ Ext w wr) (fun s _ _ => n - slLen s)
  case atStart => exact ⟨[], [], by simpa [flat] using World.ownsRow_nil _ _ _ _, by simpa [flat] using World.ownsRow_nil _ _ _ _, ord_start l, Ext.rfl'⟩
  case round =>
    obtain ⟨O, D, hos, hod, HD, hext⟩ := hrel
    obtain ⟨L, HL⟩ : ∃ L, Hid (O.length = L) := ⟨_, rfl⟩
    have HK : Hid (D.length = L) := HD.out.2.trans HL.out
    rw [HL.out] at hos
    have hLn : L ≤ n := by have := ord_len HD.out; have := HL.out; have := RdL.len HR.out; omega
    obtain ⟨w2, HW2⟩ : ∃ w2 : World, w2 = wr := ⟨_, rfl⟩
    subst HW2
    obtain ⟨A4, c4, rfl, _, hr4⟩ := RdL.of_own encI_len hod rfl
    obtain ⟨A3, c3, rfl, hc3, hr3⟩ := RdL.of_own encQ_len hos HL.out
    rw [HK.out] at hod hr4 ⊢
    have HOS := Lib.hid hos
    have HOD := Lib.hid hod
    have HR4 : Hid (RdI w2 A4 L D) := hr4
    have HR3 : Hid (RdQ w2 A3 L O) := hr3
    have Hext := Lib.hid hext
    clear hos hod hr4 hr3 hext
    by_cases hlt : L < n
    · go_wp2
      go_loopw [5, 6] (fun bv iv wr => ∃ (i : Nat) (b : Int), i ≤ n ∧ iv = .int .i64 i ∧ bv = .int .i64 b ∧ Hid (BestF cfJ l D i b) ∧ Ext w2 wr) (fun _ iv _ => n - (intOf iv).toNat)
      case atStart => exact ⟨0, -1, by omega, rfl, rfl, bestF_start l D, Ext.rfl'⟩
      case round =>
        obtain ⟨i, b, hin, rfl, rfl, HB, hext⟩ := hrel
        by_cases hi : i < n
        · obtain ⟨bb, off, y1, y2, y3, y4, rfl, hbb, hx, hd0, hd1, _, _⟩ := RdQ.cut HR.out (k := i) hi
          replace hd0 := hext.cell' (Hext.out.cell' hd0)
          replace hd1 := hext.cell' (Hext.out.cell' hd1)
          have HXi := Lib.hid hx
          have HR4i := Lib.hid (HR4.out.ext hext)
          have HXQ : Hid (∀ p, Ext w2 (wr.drewN p)) := fun p => below_drewN' hext p
          have hii0 : (0 : Int) ≤ (i : Int) := Int.natCast_nonneg _
          have hii1 : (i : Int) < (n : Int) := by omega
          have Hext3 := Lib.hid hext
          clear hx hext
          by_cases hc : (i : Int) ∈ D
          · have hv : decide ((i : Int) ∈ D) = true := decide_eq_true hc
            have HN := Lib.hid (bestF_skip HB.out (.inl hc))
            clear hc
            go_wp2_with fail
            refine (refHas5V hv A4 L c4 _ HR4i.out (by omega)).mono ?_
            rintro e w' ⟨rfl, rfl⟩
            go_wp2
            go_roundw
            case rel => exact ⟨i + 1, b, by omega, by go_num, rfl, HN, Hext3.out⟩
            case measure => simp [intOf]; omega
          · have hv : decide ((i : Int) ∈ D) = false := decide_eq_false hc
            have HC := Lib.hid hc
            clear hc
            rcases HB.out with ⟨e1, _⟩ | ⟨k, ⟨x1, x2, x3, x4⟩, e1, e2, e3, _⟩
            · have HN := Lib.hid (bestF_take order_j HB.out HXi.out HC.out (.inl (by omega)))
              subst e1
              go_wp2_with fail
              refine (refHas5V hv A4 L c4 _ HR4i.out (by omega)).mono ?_
              rintro e w' ⟨rfl, rfl⟩
              go_wp2
              go_quiet (fail)
              go_wp2
              go_roundw
              case rel => exact ⟨i + 1, (i : Int), by omega, by go_num, by go_num, HN, HXQ.out _⟩
              case measure => simp [intOf]; omega
            · obtain ⟨_, _, z1, z2, z3, z4, hA, _, hx', he0, he1, _, _⟩ := RdQ.cut HR.out (k := k) (by omega)
              injection hA with hA; injection hA with hA1 hA2 _; subst hA1; subst hA2
              replace he0 := Hext3.out.cell' (Hext.out.cell' he0)
              replace he1 := Hext3.out.cell' (Hext.out.cell' he1)
              rw [hx'] at e3; injection e3 with e3; injection e3 with q1 e3; injection e3 with q2 e3; injection e3 with q3 q4
              subst q1; subst q2; subst q3; subst q4
              have HXk := Lib.hid hx'
              have hk0 : decide ((k : Int) < 0) = false := by simp
              have hkk0 : (0 : Int) ≤ (k : Int) := Int.natCast_nonneg _
              have hkk1 : (k : Int) < (n : Int) := by omega
              by_cases h1 : z2 < y2
              · have HN := Lib.hid (bestF_take order_j HB.out HXi.out HC.out (.inr ⟨k, _, e1, HXk.out, (job_taken _ _).2 (.inl h1)⟩))
                have d1 : decide (z2 < y2) = true := decide_eq_true h1
                subst e1
                clear hx' e2 h1
                go_wp2_with fail
                refine (refHas5V hv A4 L c4 _ HR4i.out (by omega)).mono ?_
                rintro e w' ⟨rfl, rfl⟩
                go_wp2
                go_quiet (fail)
                go_wp2
                go_roundw
                case rel => exact ⟨i + 1, (i : Int), by omega, by go_num, by go_num, HN, HXQ.out _⟩
                case measure => simp [intOf]; omega
              · have d1 : decide (z2 < y2) = false := decide_eq_false h1
                by_cases h2 : y2 = z2
                · have d2 : (y2 == z2) = true := by simpa using h2
                  by_cases h3 : y1 < z1
                  · have HN := Lib.hid (bestF_take order_j HB.out HXi.out HC.out (.inr ⟨k, _, e1, HXk.out, (job_taken _ _).2 (.inr ⟨h2, h3⟩)⟩))
                    have d3 : decide (y1 < z1) = true := decide_eq_true h3
                    subst e1
                    clear hx' e2 h1 h2 h3
                    go_wp2_with fail
                    refine (refHas5V hv A4 L c4 _ HR4i.out (by omega)).mono ?_
                    rintro e w' ⟨rfl, rfl⟩
                    go_wp2
                    go_quiet (fail)
                    go_wp2
                    go_roundw
                    case rel => exact ⟨i + 1, (i : Int), by omega, by go_num, by go_num, HN, HXQ.out _⟩
                    case measure => simp [intOf]; omega
                  · have HN := Lib.hid (bestF_skip HB.out (.inr ⟨k, _, _, e1, HXk.out, HXi.out, fun h => by rcases (job_taken _ _).1 h with h | h; exact h1 h; exact h3 h.2⟩))
                    have d3 : decide (y1 < z1) = false := decide_eq_false h3
                    subst e1
                    clear hx' e2 h1 h2 h3
                    go_wp2_with fail
                    refine (refHas5V hv A4 L c4 _ HR4i.out (by omega)).mono ?_
                    rintro e w' ⟨rfl, rfl⟩
                    go_wp2
                    go_quiet (fail)
                    go_wp2
                    go_roundw
                    case rel => exact ⟨i + 1, (k : Int), by omega, by go_num, rfl, HN, HXQ.out _⟩
                    case measure => simp [intOf]; omega
                · have d2 : (y2 == z2) = false := by simpa using h2
                  have HN := Lib.hid (bestF_skip HB.out (.inr ⟨k, _, _, e1, HXk.out, HXi.out, fun h => by rcases (job_taken _ _).1 h with h | h; exact h1 h; exact h2 h.1⟩))
                  subst e1
                  clear hx' e2 h1 h2
                  go_wp2_with fail
                  refine (refHas5V hv A4 L c4 _ HR4i.out (by omega)).mono ?_
                  rintro e w' ⟨rfl, rfl⟩
                  go_wp2
                  go_quiet (fail)
                  go_wp2
                  go_roundw
                  case rel => exact ⟨i + 1, (k : Int), by omega, by go_num, rfl, HN, HXQ.out _⟩
                  case measure => simp [intOf]; omega
        · obtain rfl : i = n := by omega
          obtain ⟨k, x, e1, e2, hO⟩ := ord_next HD.out (by rw [HL.out, RdL.len HR.out]; exact hlt) (by rw [RdL.len HR.out]; exact HB.out)
          obtain ⟨x1, x2, x3, x4⟩ := x
          subst e1
          have hki : k < i := by have := (List.getElem?_eq_some_iff.1 e2).1; have := RdL.len HR.out; omega
          obtain ⟨bb, off, z1, z2, z3, z4, rfl, hbb, hx, hd0, hd1, hd2, hd3⟩ := RdQ.cut HR.out (k := k) hki
          rw [e2] at hx; injection hx with hx; injection hx with q1 hx; injection hx with q2 hx; injection hx with q3 q4
          subst q1; subst q2; subst q3; subst q4
          have HO := Lib.hid hO
          obtain ⟨w3, HW3⟩ : ∃ w3 : World, w3 = wr := ⟨_, rfl⟩
          subst HW3
          have HX3 := Lib.hid (Hext.out.trans' hext)
          replace hd0 := hext.cell' (Hext.out.cell' hd0)
          replace hd1 := hext.cell' (Hext.out.cell' hd1)
          replace hd2 := hext.cell' (Hext.out.cell' hd2)
          replace hd3 := hext.cell' (Hext.out.cell' hd3)
          have HOS3 := Lib.hid (own_ext HOS.out hext)
          have HOD3 := Lib.hid (own_ext HOD.out hext)
          obtain ⟨F, HF⟩ : ∃ F, Hid (flat encI D = F) := ⟨_, rfl⟩
          obtain ⟨G, HG⟩ : ∃ G, Hid (flat encQ O = G) := ⟨_, rfl⟩
          rw [HF.out] at HOD3
          rw [HG.out] at HOS3
          have HFD : Hid (flat encI (D ++ [(k : Int)]) = F ++ [.int .i64 k]) := by show _ = _; rw [← HF.out]; exact flat_append encI D [(k : Int)]
          have HGO : Hid (flat encQ (O ++ [(x1, x2, x3, x4)]) = G ++ [.int .i64 x1, .int .i64 x2, .int .i64 x3, .int .i64 x4]) := by show _ = _; rw [← HG.out]; exact flat_append encQ O [(x1, x2, x3, x4)]
          have hkk0 : (0 : Int) ≤ (k : Int) := Int.natCast_nonneg _
          have hkk1 : (k : Int) < (i : Int) := by omega
          have hbw : bb < w.heap.size := hbb
          clear hext e2 hO HB
          go_upto_region 12 with (at_builtin; refine wpList_append_lies _ rfl _ _ _ rfl w.heap.size 3 i0 _ 1 8 Try.underlying31 hi0 hz0 hz1 hz2 rfl (by omega) _ L F rfl (World.ownsRow.alloc HOD3.out _) ⟨w3.heap.size, 0, none⟩ 1 1 [.int .i64 k] rfl rfl (World.news_of_block (cs := #[.int .i64 k]) (t := 3) (fr := (0, 0)) (heap_alloc_new w3 _)) (by simp [Value.oneCell']) (by omega) (by simp only [maxLen]; omega) (by omega) (by have := HX3.out.size; simp; omega) (w3.heap.size + 1) (by simp) ?_; intro gg cap w4 hown1 hgrow hat hlt2; have Hown1 := Lib.hid hown1; have Hgrow := Lib.hid hgrow; clear hown1 hgrow hat)
          have HX4 : Hid (Ext w w4) := (HX3.out.alloc HX3.out.size _).grown Hgrow.out (by have := HX3.out.size; simp; omega) (fun z hz => (HOD3.out.lt z hz).1)
          have HOS4 : Hid (w4.ownsRow w.heap.size 45 4 (.slice A3 L c3) L G) := (HOS3.out.alloc _).kept Hgrow.out (own_apart HOS3.out HOD3.out (by decide))
          have HOD4 : Hid (w4.ownsRow w.heap.size 3 1 (.slice (some ⟨gg, 0, none⟩) (L + 1) cap) (D ++ [(k : Int)]).length (flat encI (D ++ [(k : Int)]))) := by
            show World.ownsRow _ _ _ _ _ _ _
            rw [HFD.out, List.length_append, HK.out]
            exact Hown1.out
          have HC4 : Hid (∀ (o : Nat) (v : Value), w3.cell? ⟨bb, o, none⟩ = some v → w4.cell? ⟨bb, o, none⟩ = some v) := fun o v h => by
            have h1 := Ext.cell' (show Ext w3 (w3.alloc (.cells #[.int .i64 k] 3)) from (Below.refl _ _).alloc (Nat.le_refl _) _) h
            rw [Hgrow.out.cell_far _ (World.block_lt_of_cell? _ _ h1) (fun e => by have h2 : w.heap.size ≤ bb := (HOD3.out.lt _ e.symm).1; omega)]
            exact h1
          replace hd0 := HC4.out _ _ hd0
          replace hd1 := HC4.out _ _ hd1
          replace hd2 := HC4.out _ _ hd2
          replace hd3 := HC4.out _ _ hd3
          have HDA := Hown1
          clear Hown1 Hgrow
          go_wp2_with (at_builtin; refine wpList_append_lies _ rfl _ _ _ rfl w.heap.size 45 i1 _ 4 32 Try.underlying23 hj0 hy0 hy1 hy2 rfl (by omega) _ L G rfl (World.ownsRow.alloc HOS4.out _) ⟨w4.heap.size, 0, none⟩ 1 1 [.int .i64 x1, .int .i64 x2, .int .i64 x3, .int .i64 x4] rfl rfl (World.news_of_block (cs := #[.int .i64 x1, .int .i64 x2, .int .i64 x3, .int .i64 x4]) (t := 45) (fr := (0, 0)) (heap_alloc_new w4 _)) (by simp [Value.oneCell']) (by omega) (by simp only [maxLen]; omega) (by omega) (by have := HX4.out.size; simp; omega) (w4.heap.size + 1) (by simp) ?_; intro g5 cap5 w5 hown1 hgrow hat hlt2; have Hown1 := Lib.hid hown1; have Hgrow := Lib.hid hgrow; clear hown1 hgrow hat)
          go_roundw
          case rel =>
            refine ⟨O ++ [(x1, x2, x3, x4)], D ++ [(k : Int)], ?_, ?_, HO, ?_⟩
            · rw [HGO.out, List.length_append, HL.out]
              exact Hown1.out
            · exact (HOD4.out.alloc _).kept Hgrow.out (own_apart HOD4.out HOS4.out (by decide))
            · exact (HX4.out.alloc HX4.out.size _).grown Hgrow.out (by have := HX4.out.size; simp; omega) (fun z hz => (HOS4.out.lt z hz).1)
          case measure => simp [slLen]; omega
    · have HF : Hid (O = orderJ l) := ord_end HD.out (by rw [HL.out, RdL.len HR.out]; exact hlt)
      have HLL : Hid (l.length = L) := by show _ = _; rw [← HL.out, HF.out, orderJ_len]
      go_wp2
      (try rw [Exit.noGoto_ret])
      go_ret
      exact ⟨A3, c3, by rw [HLL.out]; rfl, by rw [HLL.out, ← HF.out]; exact HR3.out, by rw [HLL.out]; exact hc3, Hext.out⟩
end Go.Proofs.Ytbcpjdjlgmhohaa
