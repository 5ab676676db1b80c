/-
  Walks: is a number among some, and steps tidied, by the document. Conditions: none.
-/
import Derived.Test.YtggfepphjaohiaaPTidy
import Derived.Test.YtggfepphjaohiaaWPushK
import Derived.Test.YtggfepphjaohiaaWTimes9
import Derived.Deep.DeepCutAuto
namespace Go.Proofs.Ytggfepphjaohiaa
open Go.RowKit
set_option linter.unusedVariables false
set_option linter.unusedSimpArgs false

set_option maxHeartbeats 1000000 in
theorem refHas9 (A : Option Addr) (n c : Nat) (L : List Int) (x : Int) (w : World) (hr : RdI w A n L) (hn : n ≤ 9223372036854775807) :
    Calls Try.prog 40 #[.slice A n c, .int .i64 x] w fun e w' => e = .returned (.bool (decide (x ∈ L))) ∧ w = w' := by
  have HR := Lib.hid hr; clear hr
  go_enter Try.func40, Try.ntmps40
  go_wp2
  go_loop [5] (fun i => ∃ k : Nat, k ≤ n ∧ i = .int .i64 k ∧ Hid (x ∉ L.take k)) (fun i => n - (intOf i).toNat)
  case atStart => exact ⟨0, by omega, rfl, (fun h => by simp at h)⟩
  case round =>
    obtain ⟨k, hk, rfl, HX⟩ := hrel
    by_cases hlt : k < n
    · obtain ⟨b, off, y, rfl, hb, hx, hd0⟩ := RdI.cut HR.out hlt
      have Hx := Lib.hid hx; clear hx
      by_cases hy : y = x
      · have dy : (y == x) = true := by simpa using hy
        have HE : Hid (decide (x ∈ L) = true) := decide_eq_true (by rw [← hy]; exact List.mem_of_getElem? Hx.out)
        clear hy
        go_wp2
        (try rw [Exit.noGoto_ret])
        go_ret
        exact ⟨by rw [HE.out]; rfl, rfl⟩
      · have dy : (y == x) = false := by simpa using hy
        have HN : Hid (x ∉ L.take (k + 1)) := fun h => by
          rw [take_snoc' Hx.out] at h
          rcases List.mem_append.1 h with h | h
          · exact HX.out h
          · simp at h; exact hy h.symm
        clear hy
        go_wp2
        go_round
        case rel => exact ⟨k + 1, by omega, by go_num, HN⟩
        case measure => simp [intOf]; omega
    · have HE : Hid (decide (x ∈ L) = false) := decide_eq_false (by have := HX.out; rwa [take_all' (RdL.len HR.out) (by omega)] at this)
      go_wp2
      (try rw [Exit.noGoto_ret])
      go_ret
      exact ⟨by rw [HE.out]; rfl, rfl⟩
theorem refHas9V {x : Int} {L : List Int} {v : Bool} (h : decide (x ∈ L) = v) (A : Option Addr) (n c : Nat) (w : World) (hr : RdI w A n L) (hn : n ≤ 9223372036854775807) :
    Calls Try.prog 40 #[.slice A n c, .int .i64 x] w fun e w' => e = .returned (.bool v) ∧ w = w' := by
  subst h; exact refHas9 A n c L x w hr hn

def GivesTidR (l : List Stp) (w : World) (e : Ending) (w' : World) : Prop := ∃ A c, e = .returned (.slice A (tidL l).length c) ∧ RdP w' A (tidL l).length (tidL l) ∧ (tidL l).length ≤ c ∧ Ext w w'
set_option maxRecDepth 100000 in
set_option maxHeartbeats 8000000 in
theorem refTidy (A : Option Addr) (n c : Nat) (l : List Stp) (w : World) (hr : RdP w A n l) (hn : n ≤ 100000) :
    Calls Try.prog 19 #[.slice A n c] w (GivesTidR l w) := by
  have HR := Lib.hid hr; clear hr
  obtain ⟨i0, hi0, hz0, hz1, hz2⟩ := info_parts Try.infoInt9
  obtain ⟨TT, HTT⟩ : ∃ TT, Hid (TT = rises (l.map (·.1))) := ⟨_, rfl⟩
  have HTL : Hid (TT.length ≤ n) := by
    show _ ≤ _
    have h1 := rises_len (l.map (·.1))
    rw [← HTT.out, List.length_map, RdL.len HR.out] at h1
    exact h1
  go_enter Try.func19, Try.ntmps19
  go_wp2
  go_loopw [3, 4] (fun s d wr => ∃ (q : Nat) (D : List Int), wr.ownsRow w.heap.size 48 2 s (tid (samp (lastW 0 l) (TT.take q))).length (flat encP (tid (samp (lastW 0 l) (TT.take q)))) ∧ wr.ownsRow w.heap.size 3 1 d D.length (flat encI D) ∧ Hid (DoneInv l (TT.take q) D) ∧ Ext w wr) (fun _ d _ => n - slLen d)
  case atStart => exact ⟨0, [], by simpa [flat, samp, tid] using World.ownsRow_nil _ _ _ _, by simpa [flat] using World.ownsRow_nil _ _ _ _, by rw [List.take_zero]; exact done_start l, Ext.rfl'⟩
  case round =>
    obtain ⟨q, D, hos, hod, HD, hext⟩ := hrel
    obtain ⟨O, HO⟩ : ∃ O, Hid (tid (samp (lastW 0 l) (TT.take q)) = O) := ⟨_, rfl⟩
    obtain ⟨L, HL⟩ : ∃ L, Hid (O.length = L) := ⟨_, rfl⟩
    obtain ⟨K, HK⟩ : ∃ K, Hid (D.length = K) := ⟨_, rfl⟩
    rw [HO.out, HL.out] at hos
    have hLn : L ≤ n := by
      have h1 := tid_len (samp (lastW 0 l) (TT.take q))
      rw [samp_len, HO.out, HL.out] at h1
      have h2 := List.length_take_le' q TT
      have := HTL.out
      omega
    have hKn : K ≤ n := by have := done_le HD.out; rw [HK.out, RdL.len HR.out] at this; exact this
    obtain ⟨w2, HW2⟩ : ∃ w2 : World, w2 = wr := ⟨_, rfl⟩
    subst HW2
    obtain ⟨A4, c4, rfl, _, hr4⟩ := RdL.of_own encI_len hod rfl
    rw [HK.out] at hod hr4 ⊢
    have HOS := Lib.hid hos
    have HOD := Lib.hid hod
    have HR4 : Hid (RdI w2 A4 K D) := hr4
    have Hext := Lib.hid hext
    clear hos hod hr4 hext
    by_cases hlt : K < n
    · have HDL : Hid (D.length < l.length) := by show _ < _; rw [HK.out, RdL.len HR.out]; exact hlt
      go_wp2
      go_loopw [5, 6] (fun bv iv wr => ∃ (i : Nat) (b : Int), i ≤ n ∧ iv = .int .i64 i ∧ bv = .int .i64 b ∧ Hid (BestInv l (TT.take q) i b) ∧ Ext w2 wr) (fun _ iv _ => n - (intOf iv).toNat)
      case atStart => exact ⟨0, -1, by omega, rfl, rfl, .inl ⟨rfl, fun j s _ h => by omega⟩, Ext.rfl'⟩
      case round =>
        obtain ⟨i, b, hin, rfl, rfl, HB, hext⟩ := hrel
        by_cases hi : i < n
        · obtain ⟨bb, off, a, u, rfl, hbb, hx, hd0, hd1⟩ := RdP.cut HR.out (k := i) hi
          replace hd0 := hext.cell' (Hext.out.cell' hd0)
          have HXi := Lib.hid hx
          have HR4q := Lib.hid (HR4.out.ext hext)
          have HXQ : Hid (∀ p, Ext w2 (wr.drewN p)) := fun p => below_drewN' hext p
          have hii0 : (0 : Int) ≤ (i : Int) := Int.natCast_nonneg _
          have hii1 : (i : Int) < (n : Int) := by omega
          have hmem := HD.out.mem i (a, u) hx
          simp only at hmem
          have Hext3 := Lib.hid hext
          clear hx hd1 hext
          by_cases hc : (i : Int) ∈ D
          · have hv : decide ((i : Int) ∈ D) = true := decide_eq_true hc
            have QH : Hid (∀ p, Calls Try.prog 40 #[.slice A4 K c4, .int .i64 i] (wr.drewN p) fun e w'' => e = .returned (.bool true) ∧ ∃ q, w'' = wr.drewN q) := fun p => quietL (refHas9V hv A4 K c4 _ (HR4q.out.drewN' _) (by omega))
            have HN := Lib.hid (best_skip HB.out HXi.out (.inl (hmem.1 hc)))
            clear hmem hc hv
            go_wp2
            go_quiet ((go_at_call 40; with_reducible exact QH.out _))
            go_wp2
            go_roundw
            case rel => exact ⟨i + 1, b, by omega, by go_num, rfl, HN, HXQ.out _⟩
            case measure => simp [intOf]; omega
          · have hv : decide ((i : Int) ∈ D) = false := decide_eq_false hc
            have QH : Hid (∀ p, Calls Try.prog 40 #[.slice A4 K c4, .int .i64 i] (wr.drewN p) fun e w'' => e = .returned (.bool false) ∧ ∃ q, w'' = wr.drewN q) := fun p => quietL (refHas9V hv A4 K c4 _ (HR4q.out.drewN' _) (by omega))
            have hna : a ∉ TT.take q := fun h => hc (hmem.2 h)
            clear hmem hc hv
            rcases HB.out with ⟨e1, _⟩ | ⟨k, x, e1, e2, e3, e4, _⟩
            · have HN := Lib.hid (best_take HB.out HXi.out hna (.inl (by omega)))
              subst e1
              clear hna
              go_wp2
              go_quiet ((go_at_call 40; with_reducible exact QH.out _))
              go_wp2
              go_roundw
              case rel => exact ⟨i + 1, (i : Int), by omega, by go_num, by go_num, HN, HXQ.out _⟩
              case measure => simp [intOf]; omega
            · obtain ⟨_, _, a', u', hA, _, hx', he0, _⟩ := RdP.cut HR.out (k := k) (by omega)
              injection hA with hA; injection hA with hA1 hA2 _; subst hA1; subst hA2
              replace he0 := Hext3.out.cell' (Hext.out.cell' he0)
              rw [hx'] at e3; injection e3 with e3; subst e3
              have HXk := Lib.hid hx'
              have hk0 : decide ((k : Int) < 0) = false := by simp
              have hkk0 : (0 : Int) ≤ (k : Int) := Int.natCast_nonneg _
              have hkk1 : (k : Int) < (n : Int) := by omega
              by_cases hlt2 : a < a'
              · have HN := Lib.hid (best_take HB.out HXi.out hna (.inr ⟨k, (a', u'), e1, HXk.out, hlt2⟩))
                have d1 : decide (a < a') = true := decide_eq_true hlt2
                subst e1
                clear hna hx' e4 e2
                go_wp2
                go_quiet ((go_at_call 40; with_reducible exact QH.out _))
                go_wp2
                go_roundw
                case rel => exact ⟨i + 1, (i : Int), by omega, by go_num, by go_num, HN, HXQ.out _⟩
                case measure => simp [intOf]; omega
              · have HN := Lib.hid (best_skip HB.out HXi.out (.inr ⟨k, (a', u'), e1, HXk.out, by simp only; omega⟩))
                have d1 : decide (a < a') = false := decide_eq_false hlt2
                subst e1
                clear hna hx' e4 e2
                go_wp2
                go_quiet ((go_at_call 40; with_reducible exact QH.out _))
                go_wp2
                go_roundw
                case rel => exact ⟨i + 1, (k : Int), by omega, by go_num, rfl, HN, HXQ.out _⟩
                case measure => simp [intOf]; omega
        · obtain rfl : i = n := by omega
          obtain ⟨k, u0, t, e1, e2, e3, e4⟩ := best_end HTT.out HD.out HDL.out (by rw [RdL.len HR.out]; exact HB.out)
          subst e1
          have hki : k < i := by have := (List.getElem?_eq_some_iff.1 e2).1; have := RdL.len HR.out; omega
          obtain ⟨bb, off, a, u, rfl, hbb, hx, hd0, hd1⟩ := RdP.cut HR.out (k := k) hki
          rw [e2] at hx; injection hx with hx; injection hx with hx1 hx2; subst hx1; subst hx2
          replace hd0 := hext.cell' (Hext.out.cell' hd0)
          replace hd1 := hext.cell' (Hext.out.cell' hd1)
          have HTq := Lib.hid e3
          have HTn := Lib.hid e4
          have HXk := Lib.hid e2
          obtain ⟨w3, HW3⟩ : ∃ w3 : World, w3 = wr := ⟨_, rfl⟩
          subst HW3
          have HOS3 := Lib.hid (own_ext HOS.out hext)
          have HOD3 := Lib.hid (own_ext HOD.out hext)
          have HX3 := Lib.hid (Hext.out.trans' hext)
          have hkk0 : (0 : Int) ≤ (k : Int) := Int.natCast_nonneg _
          have hkk1 : (k : Int) < (i : Int) := by omega
          clear hext e2 e3 e4 HB hlt
          go_wp2
          obtain ⟨w4, HW4⟩ : ∃ w4 : World, w3.alloc (.cells #[.int .i64 t, .int .i64 u0] 48) = w4 := ⟨_, rfl⟩
          rw [HW4]
          obtain ⟨Rb, HRb⟩ : ∃ Rb, Hid (w3.heap.size = Rb) := ⟨_, rfl⟩
          have HOR4 : Hid (w4.ownsRow w.heap.size 48 2 (.slice (some ⟨Rb, 0, none⟩) 1 1) 1 [.int .i64 t, .int .i64 u0]) := by
            show World.ownsRow _ _ _ _ _ _ _
            rw [← HW4]
            exact own_lit w3 w.heap.size 48 2 1 1 Rb _ _ HX3.out.size rfl (by simp only [maxLen]; omega) rfl HRb.out.symm rfl
          have HOS4 : Hid (w4.ownsRow w.heap.size 48 2 u3 L (flat encP O)) := by show World.ownsRow _ _ _ _ _ _ _; rw [← HW4]; exact HOS3.out.alloc _
          have HOD4 : Hid (w4.ownsRow w.heap.size 3 1 (.slice A4 K c4) K (flat encI D)) := by show World.ownsRow _ _ _ _ _ _ _; rw [← HW4]; exact HOD3.out.alloc _
          have HX4 : Hid (Ext w w4) := by show Ext _ _; rw [← HW4]; exact HX3.out.alloc HX3.out.size _
          have HNE : Hid (u3.ownBlock ≠ some Rb) := fun e => by have := (HOS3.out.lt _ e).2; have := HRb.out; omega
          have HRW : Hid (Rb < w4.heap.size) := (HOR4.out.lt Rb rfl).2
          rw [HRb.out]
          clear hd0 hd1 HW4
          go_loopw [4, 8] (fun d iv wr => ∃ (p : Nat) (D' : List Int) (v : Int), p ≤ i ∧ iv = .int .i64 p ∧ v = lastW u0 (l.take p) t ∧ wr.ownsRow w.heap.size 3 1 d D'.length (flat encI D') ∧ wr.ownsRow w.heap.size 48 2 (.slice (some ⟨Rb, 0, none⟩) 1 1) 1 [.int .i64 t, .int .i64 v] ∧ wr.ownsRow w.heap.size 48 2 u3 L (flat encP O) ∧ Hid (MoreInv l D t p D') ∧ Ext w wr) (fun _ iv _ => i - (intOf iv).toNat)
          case atStart => exact ⟨0, D, u0, by omega, rfl, rfl, by rw [HK.out]; exact HOD4.out, HOR4.out, HOS4.out, more_start D t, HX4.out⟩
          case round =>
            obtain ⟨p, D', v, hp, rfl, hv, hod, hor, hos, HM, hext⟩ := hrel
            obtain ⟨K', HK'⟩ : ∃ K', Hid (D'.length = K') := ⟨_, rfl⟩
            rw [HK'.out] at hod
            have hK'n : K' ≤ 2 * i := by have := more_le HM.out; have := HK.out; have := HK'.out; omega
            have r0 : wr.cell? ⟨Rb, 0, none⟩ = some (.int .i64 t) := by rw [hor.cellAt 0 (by omega)]; rfl
            have r1 : wr.cell? ⟨Rb, 1, none⟩ = some (.int .i64 v) := by rw [hor.cellAt 1 (by omega)]; rfl
            have z0 := hor.frozenAt 0
            have z1 := hor.frozenAt 1
            have hRw : Rb < wr.heap.size := (hor.lt Rb rfl).2
            have HV := Lib.hid hv
            by_cases hpi : p < i
            · obtain ⟨_, _, a, u, hA, _, hx, hd0, hd1⟩ := RdP.cut HR.out (k := p) hpi
              injection hA with hA; injection hA with hA1 hA2 _; subst hA1; subst hA2
              replace hd0 := hext.cell' hd0
              replace hd1 := hext.cell' hd1
              have hpp0 : (0 : Int) ≤ (p : Int) := Int.natCast_nonneg _
              have hpp1 : (p : Int) < (i : Int) := by omega
              by_cases ha : a = t
              · have dt : (a == t) = true := by simpa using ha
                have HN := Lib.hid (more_take HM.out hx ha)
                have HLW : Hid (u = lastW u0 (l.take (p + 1)) t) := by show _ = _; rw [take_snoc' hx, lastW_snoc, if_pos ha]
                have HFD : Hid (flat encI (D' ++ [(p : Int)]) = flat encI D' ++ [.int .i64 p]) := flat_append encI D' [(p : Int)]
                obtain ⟨F, HF⟩ : ∃ F, Hid (flat encI D' = F) := ⟨_, rfl⟩
                rw [HF.out] at hod
                -- what the two stores leave
                have HST : Hid (∀ q, (((wr.drewN q).setCell ⟨Rb, 0, none⟩ (.int .i64 a)).setCell ⟨Rb, 1, none⟩ (.int .i64 u)).ownsRow w.heap.size 48 2 (.slice (some ⟨Rb, 0, none⟩) 1 1) 1 [.int .i64 t, .int .i64 u]) := fun q => by
                  have h1 := (World.ownsRow.stored (show (wr.drewN q).ownsRow _ _ _ _ _ _ from hor) 0 (.int .i64 a)).1
                  have h2 := (h1.stored 1 (.int .i64 u)).1
                  rw [ha] at h2 ⊢
                  exact h2
                have HSD : Hid (∀ q, (((wr.drewN q).setCell ⟨Rb, 0, none⟩ (.int .i64 a)).setCell ⟨Rb, 1, none⟩ (.int .i64 u)).ownsRow w.heap.size 3 1 u4 K' F) := fun q => by
                  have g0 : (wr.drewN q).ownsRow w.heap.size 48 2 (.slice (some ⟨Rb, 0, none⟩) 1 1) 1 [.int .i64 t, .int .i64 v] := hor
                  have g1 : (wr.drewN q).ownsRow w.heap.size 3 1 u4 K' F := hod
                  have h1 := g1.kept (g0.stored 0 (.int .i64 a)).2 (own_apart g1 g0 (by decide))
                  have k1 := (g0.stored 0 (.int .i64 a)).1
                  exact h1.kept (k1.stored 1 (.int .i64 u)).2 (own_apart h1 k1 (by decide))
                have HSO : Hid (∀ q, (((wr.drewN q).setCell ⟨Rb, 0, none⟩ (.int .i64 a)).setCell ⟨Rb, 1, none⟩ (.int .i64 u)).ownsRow w.heap.size 48 2 u3 L (flat encP O)) := fun q => by
                  have g0 : (wr.drewN q).ownsRow w.heap.size 48 2 (.slice (some ⟨Rb, 0, none⟩) 1 1) 1 [.int .i64 t, .int .i64 v] := hor
                  have g1 : (wr.drewN q).ownsRow w.heap.size 48 2 u3 L (flat encP O) := hos
                  have h1 := g1.kept (g0.stored 0 (.int .i64 a)).2 (.inr HNE.out)
                  have k1 := (g0.stored 0 (.int .i64 a)).1
                  exact h1.kept (k1.stored 1 (.int .i64 u)).2 (.inr HNE.out)
                have HSX : Hid (∀ q, Ext w (((wr.drewN q).setCell ⟨Rb, 0, none⟩ (.int .i64 a)).setCell ⟨Rb, 1, none⟩ (.int .i64 u))) := fun q => ((below_drewN' hext q).setCell (hor.lt Rb rfl).1 _).setCell (hor.lt Rb rfl).1 _
                replace ha := Lib.hid ha
                clear hod hos hext hx HM
                go_wp2
                go_quiet (fail)
                go_upto_region 16 with fail
                generalize hw5 : World.setCell _ _ _ = w5
                have HST5 : Hid (w5.ownsRow w.heap.size 48 2 (.slice (some ⟨Rb, 0, none⟩) 1 1) 1 [.int .i64 t, .int .i64 u]) := by show World.ownsRow _ _ _ _ _ _ _; rw [← hw5]; exact HST.out _
                have HSD5 : Hid (w5.ownsRow w.heap.size 3 1 u4 K' F) := by show World.ownsRow _ _ _ _ _ _ _; rw [← hw5]; exact HSD.out _
                have HSO5 : Hid (w5.ownsRow w.heap.size 48 2 u3 L (flat encP O)) := by show World.ownsRow _ _ _ _ _ _ _; rw [← hw5]; exact HSO.out _
                have HSX5 : Hid (Ext w w5) := by show Ext _ _; rw [← hw5]; exact HSX.out _
                clear hw5 HST HSD HSO HSX r0 r1 z0 z1 hor hv
                go_wp2_with (at_builtin; refine wpList_append_lies _ rfl _ _ _ rfl w.heap.size 3 i0 _ 1 8 Try.underlying52 hi0 hz0 hz1 hz2 rfl (by omega) _ (K') F rfl (World.ownsRow.alloc HSD5.out _) ⟨w5.heap.size, 0, none⟩ 1 1 [.int .i64 p] rfl rfl (World.news_of_block (cs := #[.int .i64 p]) (t := 3) (fr := (0, 0)) (heap_alloc_new w5 _)) (by simp [Value.oneCell']) (by omega) (by simp only [maxLen]; omega) (by omega) (by have := HSX5.out.size; simp; omega) (w5.heap.size + 1) (by simp) ?_; intro gg cap w6 hown1 hgrow hat hlt2; have Hown1 := Lib.hid hown1; have Hgrow := Lib.hid hgrow; clear hown1 hgrow hat)
                go_roundw
                case rel =>
                  refine ⟨p + 1, D' ++ [(p : Int)], u, by omega, by go_num, HLW.out, ?_, ?_, ?_, HN, ?_⟩
                  · rw [List.length_append, HK'.out, HFD.out, HF.out]
                    exact Hown1.out
                  · exact (HST5.out.alloc _).kept Hgrow.out (own_apart HST5.out HSD5.out (by decide))
                  · exact (HSO5.out.alloc _).kept Hgrow.out (own_apart HSO5.out HSD5.out (by decide))
                  · exact (HSX5.out.alloc HSX5.out.size _).grown Hgrow.out (by have := HSX5.out.size; simp; omega) (fun z hz => (HSD5.out.lt z hz).1)
                case measure => simp [intOf]; omega
              · have dt : (a == t) = false := by simpa using ha
                have HN := Lib.hid (more_skip HM.out hx ha)
                have HLW : Hid (v = lastW u0 (l.take (p + 1)) t) := by show _ = _; rw [take_snoc' hx, lastW_snoc, if_neg ha]; exact hv
                have HQ1 : Hid (∀ q, (wr.drewN q).ownsRow w.heap.size 3 1 u4 D'.length (flat encI D')) := fun q => by rw [HK'.out]; exact hod
                have HQ2 : Hid (∀ q, (wr.drewN q).ownsRow w.heap.size 48 2 (.slice (some ⟨Rb, 0, none⟩) 1 1) 1 [.int .i64 t, .int .i64 v]) := fun q => hor
                have HQ3 : Hid (∀ q, (wr.drewN q).ownsRow w.heap.size 48 2 u3 L (flat encP O)) := fun q => hos
                have HQ4 : Hid (∀ q, Ext w (wr.drewN q)) := fun q => below_drewN' hext q
                clear hod hos hor hext hx HM hv ha
                go_wp2
                go_quiet (fail)
                go_wp2
                go_roundw
                case rel => exact ⟨p + 1, D', v, by omega, by go_num, HLW.out, HQ1.out _, HQ2.out _, HQ3.out _, HN, HQ4.out _⟩
                case measure => simp [intOf]; omega
            · obtain rfl : p = i := by omega
              obtain ⟨hdd, hlt2⟩ := more_end HD.out (by rw [RdL.len HR.out]; exact HM.out) HTq.out HTn.out ⟨_, List.mem_of_getElem? HXk.out, rfl⟩
              have HVL : Hid (v = lastW 0 l t) := by
                show _ = _
                rw [hv, take_all' (RdL.len HR.out) (Nat.le_refl _)]
                exact lastW_some ⟨_, List.mem_of_getElem? HXk.out, rfl⟩ _ _
              have HDD := Lib.hid hdd
              have HOD5 := Lib.hid hod
              have HOS5 := Lib.hid hos
              have HX5 := Lib.hid hext
              have HNX : Hid (tid (samp (lastW 0 l) (TT.take (q + 1))) = pushT O (t, v)) := by
                show _ = _
                rw [take_snoc' HTq.out, samp_snoc, tid_snoc, HO.out, HVL.out]
              have HK'K : Hid (K < K') := by show _ < _; rw [← HK.out, ← HK'.out]; exact hlt2
              clear hod hos hext hdd hlt2 hv
              go_wp2_with fail
              refine (refPushK w.heap.size _ L O t v _ HOS5.out HL.out (by omega) HX5.out.size).mono ?_
              rintro e w6 ⟨v', rfl, hown6, hb6, hk6⟩
              have HOS6 := Lib.hid hown6
              have HX6 : Hid (Ext w w6) := hb6 _ HX5.out
              have HOD6 := Lib.hid (hk6 _ _ _ _ _ _ (by decide) HOD5.out)
              clear hown6 hb6 hk6
              go_wp2
              go_roundw
              case rel => exact ⟨q + 1, D', by rw [HNX.out]; exact HOS6.out, by rw [HK'.out]; exact HOD6.out, HDD, HX6.out⟩
              case measure =>
                have h1 := HK'K.out
                have h2 : slLen u4 = K' := by
                  obtain ⟨_, _, h3, _⟩ := Rd.own HOD5.out
                  rw [h3]; rfl
                have h3 := done_le HDD.out
                have h4 := HK'.out
                have h5 := RdL.len HR.out
                simp [slLen] at *
                omega
    · have HE : Hid (TT.take q = TT) := done_end HTT.out HD.out (by rw [HK.out, RdL.len HR.out]; exact hlt)
      have HF : Hid (O = tidL l) := by show _ = _; rw [← HO.out, HE.out, HTT.out]; rfl
      obtain ⟨A3, c3, rfl, hc3, hr3⟩ := RdL.of_own encP_len HOS.out HL.out
      have HR3 : Hid (RdP w2 A3 L O) := hr3
      have HLT : Hid ((tidL l).length = L) := by show _ = _; rw [← HF.out]; exact HL.out
      clear hr3
      go_wp2
      (try rw [Exit.noGoto_ret])
      go_ret
      exact ⟨A3, c3, by rw [HLT.out]; rfl, by rw [HLT.out, ← HF.out]; exact HR3.out, by rw [HLT.out]; exact hc3, Hext.out⟩
end Go.Proofs.Ytggfepphjaohiaa
