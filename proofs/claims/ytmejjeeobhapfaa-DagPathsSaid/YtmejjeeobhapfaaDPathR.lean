/-
  Walk: the document's way. Conditions: none.
-/
import Derived.Test.YtmejjeeobhapfaaDTabP
import Derived.Test.YtmejjeeobhapfaaDRight
import Derived.Test.YtmejjeeobhapfaaDBareR
namespace Go.Proofs.Ytmejjeeobhapfaa
open Go.RowKit
set_option linter.unusedVariables false
set_option linter.unusedSimpArgs false

set_option maxRecDepth 100000 in
set_option maxHeartbeats 4000000 in
theorem refPathW (A : Option Addr) (n c : Nat) (ls : List (List Int)) (v u : Int) (w : World) (hr : RdLL (fun _ => True) w A n ls) (hn : n ≤ 100) (hl : ∀ l ∈ ls, l.length ≤ 1000000) (hin : inRg ls.length ls = true) :
    Calls Try.prog 26 #[.slice A n c, .int .i64 v, .int .i64 u] w (GivesI (pathT ls v u) w) := by
  obtain ⟨i0, hi0, hz0, hz1, hz2⟩ := info_parts Try.infoIntD
  obtain ⟨i1, hj0, hy0, hy1, hy2⟩ := info_parts Try.infoBD
  obtain ⟨i2, hk0', hv0, hv1, hv2⟩ := info_parts Try.infoBSD
  have HR := Lib.hid hr
  have HL := Lib.hid hl
  have HLN : Hid (ls.length = n) := hr.len
  have HIN := Lib.hid hin
  clear hr hl hin
  by_cases hvu : ¬ ((0 ≤ v ∧ v < n) ∧ 0 ≤ u ∧ u < n)
  case pos =>
    have HNO : Hid (pathT ls v u = []) := by show _ = _; rw [pathT, HLN.out, if_neg hvu]
    by_cases h0 : v < 0
    · have d0 : decide (v < 0) = true := decide_eq_true h0
      clear hvu
      go_enter Try.func26, Try.ntmps26
      go_wp2
      (try rw [Exit.noGoto_ret])
      go_ret
      exact ⟨.slice none 0 0, rfl, by rw [HNO.out]; exact OI.nil _ _, Ext.rfl'⟩
    have d0 : decide (v < 0) = false := decide_eq_false h0
    by_cases h1 : v ≥ (n : Int)
    · have d1 : decide (v ≥ (n : Int)) = true := decide_eq_true h1
      clear hvu
      go_enter Try.func26, Try.ntmps26
      go_wp2
      (try rw [Exit.noGoto_ret])
      go_ret
      exact ⟨.slice none 0 0, rfl, by rw [HNO.out]; exact OI.nil _ _, Ext.rfl'⟩
    have d1 : decide (v ≥ (n : Int)) = false := decide_eq_false h1
    by_cases h2 : u < 0
    · have d2 : decide (u < 0) = true := decide_eq_true h2
      clear hvu
      go_enter Try.func26, Try.ntmps26
      go_wp2
      (try rw [Exit.noGoto_ret])
      go_ret
      exact ⟨.slice none 0 0, rfl, by rw [HNO.out]; exact OI.nil _ _, Ext.rfl'⟩
    have d2 : decide (u < 0) = false := decide_eq_false h2
    by_cases h3 : u ≥ (n : Int)
    · have d3 : decide (u ≥ (n : Int)) = true := decide_eq_true h3
      clear hvu
      go_enter Try.func26, Try.ntmps26
      go_wp2
      (try rw [Exit.noGoto_ret])
      go_ret
      exact ⟨.slice none 0 0, rfl, by rw [HNO.out]; exact OI.nil _ _, Ext.rfl'⟩
    exact absurd ⟨⟨by omega, by omega⟩, by omega, by omega⟩ hvu
  replace hvu := Classical.not_not.1 hvu
  obtain ⟨V, rfl⟩ : ∃ V : Nat, v = (V : Int) := ⟨v.toNat, by omega⟩
  obtain ⟨W, rfl⟩ : ∃ W : Nat, u = (W : Int) := ⟨u.toNat, by omega⟩
  have hVn : V < n := by omega
  have hWn : W < n := by omega
  have hVn2 : (V : Int) < (n : Int) := by omega
  have hWn2 : (W : Int) < (n : Int) := by omega
  have hV0 : (0 : Int) ≤ (V : Int) := by omega
  have hW0 : (0 : Int) ≤ (W : Int) := by omega
  have d0 : decide ((V : Int) < 0) = false := decide_eq_false (by omega)
  have d1 : decide ((V : Int) ≥ (n : Int)) = false := decide_eq_false (by omega)
  have d2 : decide ((W : Int) < 0) = false := decide_eq_false (by omega)
  have d3 : decide ((W : Int) ≥ (n : Int)) = false := decide_eq_false (by omega)
  have HN0 : Hid (0 < n) := by show _ < _; omega
  clear hvu
  go_enter Try.func26, Try.ntmps26
  go_upto_region 4 with fail
  have HRW : Hid (∀ wm : World, wm.ownsRow w.heap.size 4 1 (.slice (some ⟨w.heap.size, 0, none⟩) n n) n (madeCells (Value.bool false).cells (n * 1)).toList → OV wm w.heap.size (.slice (some ⟨w.heap.size, 0, none⟩) n n) (List.replicate n false)) := fun wm h2 => by
    refine OV.of_n (n := n) ?_ (by simp)
    rw [flat_encB, List.map_replicate]
    simpa [Value.cells, toList_madeCells_one] using h2
  go_wp2_with (at_make; refine wpList_make_full w rfl _ _ 39 rfl w.heap.size 4 i1 (.bool false) 1 Try.underlying39 hj0 hy0 hy1 .i64 .i64 _ _ n rfl rfl rfl rfl (by rw [hy2]; omega) (by simp only [maxLen]; omega) (Nat.le_refl _) ?_; intro wm hown hgrow; have HM0 : Hid (Ext w wm) := (Ext.rfl' (w := w)).grown hgrow (Nat.le_refl _) (fun k hk => by cases hk); have HOm0 := Lib.hid hown; clear hown hgrow; have hcz := (fun o => (((HRW.out wm HOm0.out).ext (Ext.rfl'.alloc (Nat.le_refl _) o)).cells2).1 W false (by rw [List.getElem?_replicate, if_pos hWn])); have hfz := (fun o => (((HRW.out wm HOm0.out).ext (Ext.rfl'.alloc (Nat.le_refl _) o)).cells2).2 W))
  have HS0 : Hid (OutB w ((wm.alloc (.cells #[.slice (some ⟨w.heap.size, 0, none⟩) n n] 39)).setCell ⟨w.heap.size, W, none⟩ (.bool true)) (.slice (some ⟨wm.heap.size, 0, none⟩) 1 1) [(.slice (some ⟨w.heap.size, 0, none⟩) n n, rowC ls W n 0)]) := by
    have h0 := HRW.out wm HOm0.out
    have hlt : w.heap.size < wm.heap.size := h0.lt_ (g := w.heap.size) rfl
    have hxa : Ext wm (wm.alloc (.cells #[.slice (some ⟨w.heap.size, 0, none⟩) n n] 39)) := Ext.rfl'.alloc (Nat.le_refl _) _
    have h1 := (h0.ext hxa).store2 (by simp) W true
    rw [rowC_zero hWn] at h1
    have h2 := own_lit wm w.heap.size 39 1 1 1 wm.heap.size #[.slice (some ⟨w.heap.size, 0, none⟩) n n] [.slice (some ⟨w.heap.size, 0, none⟩) n n] (Nat.le_of_lt hlt) rfl (by simp only [maxLen]; omega) rfl rfl rfl
    have hm : Mod [w.heap.size] (wm.alloc (.cells #[.slice (some ⟨w.heap.size, 0, none⟩) n n] 39)) ((wm.alloc (.cells #[.slice (some ⟨w.heap.size, 0, none⟩) n n] 39)).setCell ⟨w.heap.size, W, none⟩ (.bool true)) := (Mod.refl _ _).setCell (.inl (by simp)) _
    refine ⟨⟨fun r hr => ?_, by simp⟩, hm.own h2 (fun s hs e => ?_), (HM0.out.trans' hxa).setCell (Nat.le_refl _) _⟩
    · obtain rfl : r = (.slice (some ⟨w.heap.size, 0, none⟩) n n, rowC ls W n 0) := by simpa using hr
      exact h1
    · have e1 : wm.heap.size = s := by injection hs
      have e2 : s = w.heap.size := by simpa using e
      omega
  clear hcz hfz
  have hw0 : (0 : Int) ≤ (n : Int) := Int.natCast_nonneg _
  go_loopw [8, 9] (fun o i wr => ∃ k : Nat, k ≤ n ∧ i = .int .i64 k ∧ Hid (∃ Or, OutB w wr o Or ∧ Or.length = k + 1 ∧ Or.map (·.2) = canT ls W n k) ∧ Hid (∀ j, j < k → canK ls W j V = false)) (fun _ i _ => n - (intOf i).toNat)
  case atStart => exact ⟨0, by omega, rfl, ⟨_, HS0.out, rfl, rfl⟩, fun j hj => absurd hj (by omega)⟩
  case round =>
    obtain ⟨k, hk, rfl, HS, HNK⟩ := hrel
    obtain ⟨Or, hS, hlen, hmap⟩ := HS.out
    clear HS
    have HS := Lib.hid hS
    have HLEN := Lib.hid hlen
    have HMAP := Lib.hid hmap
    obtain ⟨g4, c4, gv, cv, hv4, hq4, -, hrow, hcells⟩ := hS.rowK hlen (by rw [hmap]; exact canT_at (Nat.le_refl k)) (rowC_len ls W n k) HN0.out
    subst hv4
    have hcV := hcells V _ (rowC_at hVn)
    obtain ⟨cV, HCV⟩ : ∃ cV, Hid (canK ls W k V = cV) := ⟨_, rfl⟩
    rw [HCV.out] at hcV
    have hk0 : (0 : Int) ≤ (k : Int) := Int.natCast_nonneg _
    have hkk : (k : Int) < ((k + 1 : Nat) : Int) := by omega
    have HCE : Hid (∀ j x, (rowC ls W n k)[j]? = some x → wr.cell? ⟨gv, j, none⟩ = some (.bool x)) := hcells
    clear hS hlen hmap hcells
    by_cases hlt : k < n
    · have hkn : (k : Int) < (n : Int) := by omega
      cases cV with
      | false =>
        have HNK2 : Hid (∀ j, j < k + 1 → canK ls W j V = false) := fun j hj => by
          rcases Nat.lt_or_ge j k with h | h
          · exact HNK.out j h
          · obtain rfl : j = k := by omega
            exact HCV.out
        obtain ⟨wa, HWA⟩ : ∃ wa, wa = wr := ⟨_, rfl⟩
        subst HWA
        have HROWC := Lib.hid hrow
        have HOO : Hid (wa.ownsRow w.heap.size 39 1 (.slice (some ⟨g4, 0, none⟩) (k + 1) c4) (k + 1) (Or.map (·.1))) := by have := HS.out.oo; rwa [HLEN.out] at this
        go_wp2_with (at_make; refine wpList_make_full wa rfl _ _ 39 rfl wa.heap.size 4 i1 (.bool false) 1 Try.underlying39 hj0 hy0 hy1 .i64 .i64 _ _ n rfl rfl rfl rfl (by rw [hy2]; omega) (by simp only [maxLen]; omega) (Nat.le_refl _) ?_; intro wb hown hgrow; have HM1 : Hid (Ext wa wb) := (Ext.rfl' (w := wa)).grown hgrow (Nat.le_refl _) (fun k hk => by cases hk); have HOm1 := Lib.hid hown; clear hown hgrow)
        obtain ⟨R0, HR0⟩ : ∃ R0, Hid (wa.heap.size = R0) := ⟨_, rfl⟩
        have HROW2 : Hid (OV wb wa.heap.size (.slice (some ⟨R0, 0, none⟩) n n) (rowA (canK ls W k) ls n 0 0)) := by
          rw [← HR0.out]
          refine OV.of_n (n := n) ?_ (rowA_len _ _ _ _ _)
          have h2 := HOm1.out
          rw [rowA_zero, flat_encB, List.map_replicate]
          simpa [Value.cells, toList_madeCells_one] using h2
        rw [HR0.out]
        clear hrow hcV HOm1
        go_loopw [11] (fun i wx => ∃ x : Nat, x ≤ n ∧ i = .int .i64 x ∧ Hid (OV wx wa.heap.size (.slice (some ⟨R0, 0, none⟩) n n) (rowA (canK ls W k) ls n x 0)) ∧ Hid (Ext wa wx)) (fun i _ => n - (intOf i).toNat)
        case atStart => exact ⟨0, by omega, rfl, HROW2.out, HM1.out⟩
        case round =>
          obtain ⟨x, hx, rfl, HV, HX⟩ := hrel
          by_cases hxn : x < n
          · have hxn2 : (x : Int) < (n : Int) := by omega
            have hx0 : (0 : Int) ≤ (x : Int) := Int.natCast_nonneg _
            obtain ⟨cx, HCX⟩ : ∃ cx, Hid (canK ls W k x = cx) := ⟨_, rfl⟩
            go_wp2
            go_loopw [12] (fun i wx => ∃ j : Nat, j ≤ n ∧ i = .int .i64 j ∧ Hid (OV wx wa.heap.size (.slice (some ⟨R0, 0, none⟩) n n) (rowA (canK ls W k) ls n x j)) ∧ Hid (Ext wa wx)) (fun i _ => n - (intOf i).toNat)
            case atStart => exact ⟨0, by omega, rfl, HV.out, HX.out⟩
            case round =>
              obtain ⟨j, hj, rfl, HV2, HX2⟩ := hrel
              by_cases hjn : j < n
              · have hjn2 : (j : Int) < (n : Int) := by omega
                have hj0 : (0 : Int) ≤ (j : Int) := Int.natCast_nonneg _
                have hrow2 := HX2.out.cell' HROWC.out
                have hcx2 := HX2.out.cell' (HCE.out x _ (rowC_at hxn))
                rw [HCX.out] at hcx2
                obtain ⟨b, off, A', c', l, rfl, -, hl2, hcl, -, hrl, -, -⟩ := (HR.out.ext (HS.out.ex.trans' HX2.out)).at_ hxn
                obtain ⟨m, HM5⟩ : ∃ m, Hid (l.length = m) := ⟨_, rfl⟩
                have hm := HL.out l (List.mem_of_getElem? hl2)
                rw [HM5.out] at hcl hrl hm
                have hgd : ls.getD x [] = l := RdLL.getD_ hl2
                obtain ⟨z, HZ⟩ : ∃ z, Hid (decide ((j : Int) ∈ l) = z) := ⟨_, rfl⟩
                have HAS := Lib.hid (refHas5V HZ.out A' m c' wr hrl (by omega))
                have HCZ : Hid ((canK ls W k x && decide ((j : Int) ∈ ls.getD x [])) = (cx && z)) := by show _ = _; rw [HCX.out, hgd, HZ.out]
                have hcy := (HV2.out.cells2).1 j _ (List.getElem?_eq_getElem (by rw [rowA_len]; exact hjn))
                have hfy := (HV2.out.cells2).2 j
                have HST := Lib.hid (OV.store2 HV2.out (rowA_len _ _ _ _ _) j true)
                have HX3 : Hid (Ext wa (wr.setCell ⟨R0, j, none⟩ (.bool true))) := HX2.out.setCell (by have := (own_obj HV2.out (g := R0) rfl).1; exact this) _
                clear hl2 hrl hm hgd
                cases cx with
                | false =>
                  have HKP : Hid (rowA (canK ls W k) ls n x j = rowA (canK ls W k) ls n x (j + 1)) := rowA_keep (by rw [HCZ.out]; rfl)
                  go_wp2
                  go_roundw
                  case rel => exact ⟨j + 1, by omega, by go_num, by rw [← HKP.out]; exact HV2.out, HX2.out⟩
                  case measure => simp [intOf]; omega
                | true =>
                  cases z with
                  | false =>
                    have HKP : Hid (rowA (canK ls W k) ls n x j = rowA (canK ls W k) ls n x (j + 1)) := rowA_keep (by rw [HCZ.out]; rfl)
                    go_wp2_with fail
                    refine HAS.out.mono ?_
                    rintro e w9 ⟨rfl, rfl⟩
                    go_wp2
                    go_roundw
                    case rel => exact ⟨j + 1, by omega, by go_num, by rw [← HKP.out]; exact HV2.out, HX2.out⟩
                    case measure => simp [intOf]; omega
                  | true =>
                    have HKP : Hid ((rowA (canK ls W k) ls n x j).set j true = rowA (canK ls W k) ls n x (j + 1)) := rowA_set hjn (by rw [HCZ.out]; rfl)
                    go_wp2_with fail
                    refine HAS.out.mono ?_
                    rintro e w9 ⟨rfl, rfl⟩
                    go_wp2
                    go_roundw
                    case rel => exact ⟨j + 1, by omega, by go_num, by rw [← HKP.out]; exact HST.out, HX3.out⟩
                    case measure => simp [intOf]; omega
              · have hjn2 : ¬ (j : Int) < (n : Int) := by omega
                obtain rfl : n = j := by omega
                have HNX : Hid (rowA (canK ls W k) ls n x n = rowA (canK ls W k) ls n (x + 1) 0) := rowA_next _ _ _ _
                go_wp2
                go_roundw
                case rel => exact ⟨x + 1, by omega, by go_num, by rw [← HNX.out]; exact HV2.out, HX2.out⟩
                case measure => simp [intOf]; omega
          · have hxn2 : ¬ (x : Int) < (n : Int) := by omega
            obtain rfl : n = x := by omega
            have HV4 : Hid (OV wr wa.heap.size (.slice (some ⟨R0, 0, none⟩) n n) (rowC ls W n (k + 1))) := by
              have h1 := rowA_all ls W k
              rw [HLN.out] at h1
              rw [← h1]; exact HV.out
            have HALL : Hid ((Or ++ [((.slice (some ⟨R0, 0, none⟩) n n, rowC ls W n (k + 1)) : RowB)]).map (·.2) = canT ls W n (k + 1)) := by
              show _ = _
              rw [List.map_append, HMAP.out, canT_succ]; rfl
            obtain ⟨FL, HF⟩ : ∃ FL, Hid (FL = Or.map (·.1)) := ⟨_, rfl⟩
            have hown : wr.ownsRow w.heap.size 39 1 (.slice (some ⟨g4, 0, none⟩) (k + 1) c4) (k + 1) FL := by rw [HF.out]; exact (Mod.of_ext (S := []) HX.out).own HOO.out (by simp)
            have HSZ : Hid (w.heap.size ≤ wr.heap.size) := (HS.out.ex.trans' HX.out).size
            have HADD : Hid (∀ w1 gg cap o, w1.ownsRow w.heap.size 39 1 (.slice (some ⟨gg, 0, none⟩) (k + 1 + 1) cap) (k + 1 + 1) (Or.map (·.1) ++ [.slice (some ⟨R0, 0, none⟩) n n]) → (wr.alloc o).grownBy w1 (some g4) → OutB w w1 (.slice (some ⟨gg, 0, none⟩) (k + 1 + 1) cap) (Or ++ [(.slice (some ⟨R0, 0, none⟩) n n, rowC ls W n (k + 1))])) := fun w1 gg cap o h1 h2 =>
              HS.out.add HLEN.out HV4.out HX.out (((Mod.refl _ wr).alloc o).grown h2 (fun j hj => .inl (by cases hj; simp [Value.ownBlock]))) h1
            have HLN1 : Hid ((Or ++ [((.slice (some ⟨R0, 0, none⟩) n n, rowC ls W n (k + 1)) : RowB)]).length = k + 1 + 1) := by show _ = _; rw [List.length_append, HLEN.out]; rfl
            go_wp2_with (at_builtin; refine wpList_append_lies _ rfl _ _ _ rfl w.heap.size 39 i2 _ 1 24 Try.underlying52 hk0' hv0 hv1 hv2 rfl (by omega) _ (k + 1) FL rfl (World.ownsRow.alloc hown _) ⟨wr.heap.size, 0, none⟩ 1 1 [.slice (some ⟨R0, 0, none⟩) n n] rfl rfl (World.news_of_block (cs := #[.slice (some ⟨R0, 0, none⟩) n n]) (t := 39) (fr := (0, 0)) (heap_alloc_new wr _)) (by simp [Value.oneCell']) (by omega) (by simp only [maxLen]; omega) (by omega) (by have := HSZ.out; first | (simp; done) | (simp; omega)) (wr.heap.size + 1) (by simp) ?_; intro gg cap w1 hown1 hgrow hat hlt2; have HX1 := Lib.hid (HADD.out w1 gg cap _ (by rw [← HF.out]; exact hown1) hgrow); clear hown1 hgrow hat)
            go_roundw
            case rel => exact ⟨k + 1, by omega, by go_num, ⟨_, HX1.out, HLN1.out, HALL.out⟩, HNK2.out⟩
            case measure => simp [intOf]; omega
      | true =>
        have HPP : Hid (pathT ls V W = (V : Int) :: restP ls W k V) := by
          show _ = _
          rw [pathT, HLN.out, if_pos ⟨⟨hV0, hVn2⟩, hW0, hWn2⟩, Int.toNat_natCast, Int.toNat_natCast, find_range (x := k) (by omega) HCV.out HNK.out]
        have HRWS : Hid (∀ i, i ≤ k → ∃ gi ci, wr.cell? ⟨g4, i, none⟩ = some (.slice (some ⟨gi, 0, none⟩) n ci) ∧ ∀ j x, (rowC ls W n i)[j]? = some x → wr.cell? ⟨gi, j, none⟩ = some (.bool x)) := fun i hi => by
          obtain ⟨g5, c5, gi, ci, h1, _, _, h2, h3⟩ := HS.out.rowK HLEN.out (by rw [HMAP.out]; exact canT_at hi) (rowC_len ls W n i) HN0.out
          injection h1 with h1
          injection h1 with h1
          injection h1 with h1
          subst h1
          exact ⟨gi, ci, h2, h3⟩
        have hwk : IntKind.i64.wrap (((k + 1 : Nat) : Int) - 1) = (k : Int) := by rw [IntKind.wrap_i64]; omega
        have hwk2 : IntKind.i64.wrap (k : Int) = (k : Int) := by rw [IntKind.wrap_i64]; omega
        obtain ⟨wc, HWC⟩ : ∃ wc, wc = wr := ⟨_, rfl⟩
        subst HWC
        have HXC : Hid (Ext w wc) := HS.out.ex
        have HXA : Hid (Ext wc (wc.alloc (.cells #[.int .i64 (V : Int)] 3))) := Ext.rfl'.alloc (Nat.le_refl _) _
        have HO0 : Hid (OI (wc.alloc (.cells #[.int .i64 (V : Int)] 3)) wc.heap.size (.slice (some ⟨wc.heap.size, 0, none⟩) 1 1) ([] ++ [(V : Int)])) := own_lit wc wc.heap.size 3 1 1 1 wc.heap.size #[.int .i64 (V : Int)] [.int .i64 (V : Int)] (Nat.le_refl _) rfl (by simp only [maxLen]; omega) rfl rfl rfl
        obtain ⟨PL, HPL⟩ : ∃ PL, Hid ((V : Int) :: restP ls W k V = PL) := ⟨_, rfl⟩
        rw [HPL.out] at HPP
        have HPLN : Hid (PL.length = k + 1) := by show _ = _; rw [← HPL.out, List.length_cons, restP_len]
        go_wp2
        go_loopw [13, 14] (fun kk o wr => ∃ (p Y : Nat) (pre : List Int), kk = .int .i64 p ∧ p ≤ k ∧ Hid (canK ls W p Y = true) ∧ Hid (OI wr wc.heap.size o (pre ++ [(Y : Int)])) ∧ Hid ((pre ++ [(Y : Int)]) ++ restP ls W p Y = PL) ∧ Hid (Ext wc wr)) (fun kk _ _ => (intOf kk).toNat)
        case atStart => exact ⟨k, V, [], rfl, Nat.le_refl _, HCV.out, HO0.out, HPL.out, HXA.out⟩
        case round =>
          obtain ⟨p, Y, pre, rfl, hpk, HCY, HO, HPR, HX⟩ := hrel
          obtain ⟨q, HQ⟩ : ∃ q, Hid ((pre ++ [(Y : Int)]).length = q) := ⟨_, rfl⟩
          have hq100 : q ≤ 1000 := by
            have h1 := HPLN.out
            rw [← HPR.out, List.length_append, HQ.out, restP_len] at h1
            omega
          obtain ⟨A4, cO, hvO, hqO, -⟩ := HO.out.slice
          rw [HQ.out] at hvO hqO
          subst hvO
          by_cases hp : p = 0
          · subst hp
            have HO9 : Hid (OI wr w.heap.size (.slice A4 q cO) PL) := by
              have h1 := HPR.out
              rw [restP, List.append_nil] at h1
              rw [← h1]; exact HO.out.low HXC.out.size
            have HX9 : Hid (Ext w wr) := HXC.out.trans' HX.out
            go_wp2
            (try rw [Exit.noGoto_ret])
            go_ret
            exact ⟨.slice A4 q cO, rfl, by rw [HPP.out]; exact HO9.out, HX9.out⟩
          · obtain ⟨p, rfl⟩ : ∃ p', p = p' + 1 := ⟨p - 1, by omega⟩
            have hwp : IntKind.i64.wrap (((p + 1 : Nat) : Int) - 1) = (p : Int) := by rw [IntKind.wrap_i64]; omega
            have hwp2 : IntKind.i64.wrap (p : Int) = (p : Int) := by rw [IntKind.wrap_i64]; omega
            have hpp : (0 : Int) < ((p + 1 : Nat) : Int) := by omega
            obtain ⟨S, HSS⟩ : ∃ S, Hid (stp ls W p Y = S) := ⟨_, rfl⟩
            have HSO : Hid (S < n ∧ canK ls W p S = true ∧ (Y : Int) ∈ ls.getD S []) := by have := stp_ok HCY.out; rwa [HSS.out, HLN.out] at this
            have HSM : Hid (∀ y, y < S → ¬ (canK ls W p y = true ∧ (Y : Int) ∈ ls.getD y [])) := fun y hy => stp_min (by rw [HSS.out]; exact hy) HCY.out
            obtain ⟨gi, ci, hri, hci⟩ := HRWS.out p (by omega)
            have HRI := Lib.hid hri
            have HCI := Lib.hid hci
            obtain ⟨gO, cO2, hvO2, -, -, -, -, hcO, -⟩ := HO.out.at_ (i := pre.length) (by simp)
            injection hvO2 with e1 e2 e3
            subst e1
            have hcY := hcO pre.length (Y : Int) (by rw [List.getElem?_append_right (Nat.le_refl _), Nat.sub_self]; rfl)
            have HCYO := Lib.hid hcY
            obtain ⟨r, hr⟩ : ∃ r, r = pre.length := ⟨_, rfl⟩
            have hrq : q = r + 1 := by have := HQ.out; rw [List.length_append] at this; simp at this; omega
            rw [← hr] at HCYO
            have hwr : IntKind.i64.wrap ((q : Int) - 1) = (r : Int) := by rw [IntKind.wrap_i64]; omega
            have hrq2 : (r : Int) < (q : Int) := by omega
            have hr0 : (0 : Int) ≤ (r : Int) := Int.natCast_nonneg _
            have hpk2 : (p : Int) < ((k + 1 : Nat) : Int) := by omega
            have hp0 : (0 : Int) ≤ (p : Int) := Int.natCast_nonneg _
            have hSn : S < n := HSO.out.1
            obtain ⟨wd, HWD⟩ : ∃ wd, wd = wr := ⟨_, rfl⟩
            subst HWD
            clear hri hci hcO hcY e2 e3 hr hrq
            go_wp2
            go_loopw [15] (fun i wr => ∃ x : Nat, x ≤ S ∧ i = .int .i64 x ∧ Hid (Ext wd wr)) (fun i _ => S - (intOf i).toNat)
            case atStart => exact ⟨0, by omega, rfl, Ext.rfl'⟩
            case round =>
              obtain ⟨x, hx, rfl, HXX⟩ := hrel
              have hxn : x < n := by omega
              have hxn2 : (x : Int) < (n : Int) := by omega
              have hx0 : (0 : Int) ≤ (x : Int) := Int.natCast_nonneg _
              obtain ⟨cx, HCX⟩ : ∃ cx, Hid (canK ls W p x = cx) := ⟨_, rfl⟩
              have hr1 := (HX.out.trans' HXX.out).cell' HRI.out
              have hr2 := (HX.out.trans' HXX.out).cell' (HCI.out x _ (rowC_at hxn))
              rw [HCX.out] at hr2
              have hr3 := HXX.out.cell' HCYO.out
              obtain ⟨b, off, A', c', l, hAe, -, hl2, hcl, -, hrl, -, -⟩ := (HR.out.ext ((HXC.out.trans' HX.out).trans' HXX.out)).at_ hxn
              subst hAe
              obtain ⟨m, HM5⟩ : ∃ m, Hid (l.length = m) := ⟨_, rfl⟩
              have hm := HL.out l (List.mem_of_getElem? hl2)
              rw [HM5.out] at hcl hrl hm
              have hgd : ls.getD x [] = l := RdLL.getD_ hl2
              obtain ⟨z, HZ⟩ : ∃ z, Hid (decide ((Y : Int) ∈ l) = z) := ⟨_, rfl⟩
              have hrl2 := hrl
              have Q : Hid (∀ t, Calls Try.prog 28 #[.slice A' m c', .int .i64 (Y : Int)] (wr.drewN t) fun e w'' => e = .returned (.bool z) ∧ ∃ q, w'' = wr.drewN q) := fun t => quietL (refHas5V HZ.out A' m c' (wr.drewN t) (hrl2.ext (below_drewN' Ext.rfl' t)) (by omega))
              have HXD : Hid (∀ t, Ext wd (wr.drewN t)) := fun t => below_drewN' HXX.out t
              have HZZ : Hid (z = decide ((Y : Int) ∈ ls.getD x [])) := by show _ = _; rw [hgd]; exact HZ.out.symm
              clear hl2 hrl hrl2 hm hgd
              by_cases hxS : x = S
              · subst hxS
                have e1 : cx = true := by rw [← HCX.out]; exact HSO.out.2.1
                have e2 : z = true := by rw [HZZ.out]; exact decide_eq_true HSO.out.2.2
                subst e1; subst e2
                have HR2 : Hid (((pre ++ [(Y : Int)]) ++ [(x : Int)]) ++ restP ls W p x = PL) := by
                  show _ = _
                  rw [← HPR.out, List.append_assoc, restP, HSS.out]; rfl
                go_wp2
                go_quiet ((go_at_call 28; with_reducible exact Q.out _))
                obtain ⟨wD, HWD⟩ : ∃ wD, Hid (wr.drewN nq = wD) := ⟨_, rfl⟩
                have HXE : Hid (Ext wd wD) := by rw [← HWD.out]; exact HXD.out nq
                rw [HWD.out]
                obtain ⟨ol, HOLL⟩ : ∃ ol, Hid (pre ++ [(Y : Int)] = ol) := ⟨_, rfl⟩
                rw [HOLL.out] at HO HQ HR2
                have hown : wD.ownsRow wc.heap.size 3 1 (.slice (some ⟨gO, 0, none⟩) q cO) q (flat encI ol) := OI.n_ (HO.out.ext HXE.out) HQ.out
                have HSZ : Hid (wc.heap.size ≤ wD.heap.size) := (HX.out.trans' HXE.out).size
                obtain ⟨FLL, HF⟩ : ∃ FLL, Hid (FLL = flat encI ol) := ⟨_, rfl⟩
                rw [← HF.out] at hown
                have HADD : Hid (∀ w1 gg cap o, w1.ownsRow wc.heap.size 3 1 (.slice (some ⟨gg, 0, none⟩) (q + 1) cap) (q + 1) (flat encI ol ++ [.int .i64 (x : Int)]) → (wD.alloc o).grownBy w1 (Value.slice (some ⟨gO, 0, none⟩) q cO).ownBlock → ((Value.slice (some ⟨gO, 0, none⟩) q cO).ownBlock = some gg ∨ gg = wD.heap.size + 1) →
                    OI w1 wc.heap.size (.slice (some ⟨gg, 0, none⟩) (q + 1) cap) (ol ++ [(x : Int)]) ∧ Ext wc w1) := fun w1 gg cap o h1 h2 h3 => by
                  obtain ⟨a1, a2, _⟩ := app1 (HO.out.ext HXE.out) HQ.out h1 h2 h3
                  exact ⟨a1, ((Mod.of_ext (S := (Value.slice (some ⟨gO, 0, none⟩) q cO).ownBlock.toList) (HX.out.trans' HXE.out)).trans a2 (fun t ht => .inl ht)).ext (fun s hs => (HO.out.obj (g := s) (by simpa using hs)).1)⟩
                have HCX2 : Hid (canK ls W p x = true) := HCX.out
                clear hr1 hr2 hr3 hcl
                go_wp2_with (at_builtin; refine wpList_append_lies _ rfl _ _ _ rfl wc.heap.size 3 i0 _ 1 8 Try.underlying23 hi0 hz0 hz1 hz2 rfl (by omega) _ q FLL rfl (World.ownsRow.alloc hown _) ⟨wD.heap.size, 0, none⟩ 1 1 [.int .i64 (x : Int)] rfl rfl (World.news_of_block (cs := #[.int .i64 (x : Int)]) (t := 3) (fr := (0, 0)) (heap_alloc_new wD _)) (by simp [Value.oneCell']) (by omega) (by simp only [maxLen]; omega) (by omega) (by have := HSZ.out; first | (simp; done) | (simp; omega)) (wD.heap.size + 1) (by simp) ?_; intro gg cap w1 hown1 hgrow hat hlt2; have HXX9 := Lib.hid (HADD.out w1 gg cap _ (by rw [← HF.out]; exact hown1) hgrow hat); clear hown1 hgrow hat)
                go_roundw
                case rel => exact ⟨p, x, ol, rfl, by omega, HCX2.out, HXX9.out.1, HR2.out, HXX9.out.2⟩
                case measure => simp [intOf]
              · have hlt : x < S := by omega
                have hno := HSM.out x hlt
                cases cx with
                | false =>
                  go_wp2
                  go_quiet ((go_at_call 28; with_reducible exact Q.out _))
                  go_wp2
                  go_roundw
                  case rel => exact ⟨x + 1, by omega, by go_num, HXD.out _⟩
                  case measure => simp [intOf]; omega
                | true =>
                  have e2 : z = false := by
                    rw [HZZ.out, decide_eq_false_iff_not]
                    exact fun h => hno ⟨HCX.out, h⟩
                  subst e2
                  clear hno
                  go_wp2
                  go_quiet ((go_at_call 28; with_reducible exact Q.out _))
                  go_wp2
                  go_roundw
                  case rel => exact ⟨x + 1, by omega, by go_num, HXD.out _⟩
                  case measure => simp [intOf]; omega
    · have hkn : ¬ (k : Int) < (n : Int) := by omega
      cases cV with
      | false =>
        have HNO : Hid (pathT ls V W = []) := by
          show _ = _
          have e : (List.range (ls.length + 1)).find? (fun k => canK ls W k V) = none := by
            rw [List.find?_eq_none]
            intro j hj
            rw [List.mem_range, HLN.out] at hj
            rcases Nat.lt_or_ge j k with h | h
            · rw [HNK.out j h]; simp
            · obtain rfl : j = k := by omega
              rw [HCV.out]; simp
          rw [pathT, HLN.out, if_pos ⟨⟨hV0, hVn2⟩, hW0, hWn2⟩, Int.toNat_natCast, Int.toNat_natCast]
          rw [HLN.out] at e
          rw [e]
        have HX9 : Hid (Ext w wr) := HS.out.ex
        have hwk : IntKind.i64.wrap (((k + 1 : Nat) : Int) - 1) = (k : Int) := by rw [IntKind.wrap_i64]; omega
        have hwk2 : IntKind.i64.wrap (k : Int) = (k : Int) := by rw [IntKind.wrap_i64]; omega
        go_wp2
        (try rw [Exit.noGoto_ret])
        go_ret
        exact ⟨.slice none 0 0, rfl, by rw [HNO.out]; exact OI.nil _ _, HX9.out⟩
      | true =>
        have HPP : Hid (pathT ls V W = (V : Int) :: restP ls W k V) := by
          show _ = _
          rw [pathT, HLN.out, if_pos ⟨⟨hV0, hVn2⟩, hW0, hWn2⟩, Int.toNat_natCast, Int.toNat_natCast, find_range (x := k) (by omega) HCV.out HNK.out]
        have HRWS : Hid (∀ i, i ≤ k → ∃ gi ci, wr.cell? ⟨g4, i, none⟩ = some (.slice (some ⟨gi, 0, none⟩) n ci) ∧ ∀ j x, (rowC ls W n i)[j]? = some x → wr.cell? ⟨gi, j, none⟩ = some (.bool x)) := fun i hi => by
          obtain ⟨g5, c5, gi, ci, h1, _, _, h2, h3⟩ := HS.out.rowK HLEN.out (by rw [HMAP.out]; exact canT_at hi) (rowC_len ls W n i) HN0.out
          injection h1 with h1
          injection h1 with h1
          injection h1 with h1
          subst h1
          exact ⟨gi, ci, h2, h3⟩
        have hwk : IntKind.i64.wrap (((k + 1 : Nat) : Int) - 1) = (k : Int) := by rw [IntKind.wrap_i64]; omega
        have hwk2 : IntKind.i64.wrap (k : Int) = (k : Int) := by rw [IntKind.wrap_i64]; omega
        obtain ⟨wc, HWC⟩ : ∃ wc, wc = wr := ⟨_, rfl⟩
        subst HWC
        have HXC : Hid (Ext w wc) := HS.out.ex
        have HXA : Hid (Ext wc (wc.alloc (.cells #[.int .i64 (V : Int)] 3))) := Ext.rfl'.alloc (Nat.le_refl _) _
        have HO0 : Hid (OI (wc.alloc (.cells #[.int .i64 (V : Int)] 3)) wc.heap.size (.slice (some ⟨wc.heap.size, 0, none⟩) 1 1) ([] ++ [(V : Int)])) := own_lit wc wc.heap.size 3 1 1 1 wc.heap.size #[.int .i64 (V : Int)] [.int .i64 (V : Int)] (Nat.le_refl _) rfl (by simp only [maxLen]; omega) rfl rfl rfl
        obtain ⟨PL, HPL⟩ : ∃ PL, Hid ((V : Int) :: restP ls W k V = PL) := ⟨_, rfl⟩
        rw [HPL.out] at HPP
        have HPLN : Hid (PL.length = k + 1) := by show _ = _; rw [← HPL.out, List.length_cons, restP_len]
        go_wp2
        go_loopw [13, 14] (fun kk o wr => ∃ (p Y : Nat) (pre : List Int), kk = .int .i64 p ∧ p ≤ k ∧ Hid (canK ls W p Y = true) ∧ Hid (OI wr wc.heap.size o (pre ++ [(Y : Int)])) ∧ Hid ((pre ++ [(Y : Int)]) ++ restP ls W p Y = PL) ∧ Hid (Ext wc wr)) (fun kk _ _ => (intOf kk).toNat)
        case atStart => exact ⟨k, V, [], rfl, Nat.le_refl _, HCV.out, HO0.out, HPL.out, HXA.out⟩
        case round =>
          obtain ⟨p, Y, pre, rfl, hpk, HCY, HO, HPR, HX⟩ := hrel
          obtain ⟨q, HQ⟩ : ∃ q, Hid ((pre ++ [(Y : Int)]).length = q) := ⟨_, rfl⟩
          have hq100 : q ≤ 1000 := by
            have h1 := HPLN.out
            rw [← HPR.out, List.length_append, HQ.out, restP_len] at h1
            omega
          obtain ⟨A4, cO, hvO, hqO, -⟩ := HO.out.slice
          rw [HQ.out] at hvO hqO
          subst hvO
          by_cases hp : p = 0
          · subst hp
            have HO9 : Hid (OI wr w.heap.size (.slice A4 q cO) PL) := by
              have h1 := HPR.out
              rw [restP, List.append_nil] at h1
              rw [← h1]; exact HO.out.low HXC.out.size
            have HX9 : Hid (Ext w wr) := HXC.out.trans' HX.out
            go_wp2
            (try rw [Exit.noGoto_ret])
            go_ret
            exact ⟨.slice A4 q cO, rfl, by rw [HPP.out]; exact HO9.out, HX9.out⟩
          · obtain ⟨p, rfl⟩ : ∃ p', p = p' + 1 := ⟨p - 1, by omega⟩
            have hwp : IntKind.i64.wrap (((p + 1 : Nat) : Int) - 1) = (p : Int) := by rw [IntKind.wrap_i64]; omega
            have hwp2 : IntKind.i64.wrap (p : Int) = (p : Int) := by rw [IntKind.wrap_i64]; omega
            have hpp : (0 : Int) < ((p + 1 : Nat) : Int) := by omega
            obtain ⟨S, HSS⟩ : ∃ S, Hid (stp ls W p Y = S) := ⟨_, rfl⟩
            have HSO : Hid (S < n ∧ canK ls W p S = true ∧ (Y : Int) ∈ ls.getD S []) := by have := stp_ok HCY.out; rwa [HSS.out, HLN.out] at this
            have HSM : Hid (∀ y, y < S → ¬ (canK ls W p y = true ∧ (Y : Int) ∈ ls.getD y [])) := fun y hy => stp_min (by rw [HSS.out]; exact hy) HCY.out
            obtain ⟨gi, ci, hri, hci⟩ := HRWS.out p (by omega)
            have HRI := Lib.hid hri
            have HCI := Lib.hid hci
            obtain ⟨gO, cO2, hvO2, -, -, -, -, hcO, -⟩ := HO.out.at_ (i := pre.length) (by simp)
            injection hvO2 with e1 e2 e3
            subst e1
            have hcY := hcO pre.length (Y : Int) (by rw [List.getElem?_append_right (Nat.le_refl _), Nat.sub_self]; rfl)
            have HCYO := Lib.hid hcY
            obtain ⟨r, hr⟩ : ∃ r, r = pre.length := ⟨_, rfl⟩
            have hrq : q = r + 1 := by have := HQ.out; rw [List.length_append] at this; simp at this; omega
            rw [← hr] at HCYO
            have hwr : IntKind.i64.wrap ((q : Int) - 1) = (r : Int) := by rw [IntKind.wrap_i64]; omega
            have hrq2 : (r : Int) < (q : Int) := by omega
            have hr0 : (0 : Int) ≤ (r : Int) := Int.natCast_nonneg _
            have hpk2 : (p : Int) < ((k + 1 : Nat) : Int) := by omega
            have hp0 : (0 : Int) ≤ (p : Int) := Int.natCast_nonneg _
            have hSn : S < n := HSO.out.1
            obtain ⟨wd, HWD⟩ : ∃ wd, wd = wr := ⟨_, rfl⟩
            subst HWD
            clear hri hci hcO hcY e2 e3 hr hrq
            go_wp2
            go_loopw [15] (fun i wr => ∃ x : Nat, x ≤ S ∧ i = .int .i64 x ∧ Hid (Ext wd wr)) (fun i _ => S - (intOf i).toNat)
            case atStart => exact ⟨0, by omega, rfl, Ext.rfl'⟩
            case round =>
              obtain ⟨x, hx, rfl, HXX⟩ := hrel
              have hxn : x < n := by omega
              have hxn2 : (x : Int) < (n : Int) := by omega
              have hx0 : (0 : Int) ≤ (x : Int) := Int.natCast_nonneg _
              obtain ⟨cx, HCX⟩ : ∃ cx, Hid (canK ls W p x = cx) := ⟨_, rfl⟩
              have hr1 := (HX.out.trans' HXX.out).cell' HRI.out
              have hr2 := (HX.out.trans' HXX.out).cell' (HCI.out x _ (rowC_at hxn))
              rw [HCX.out] at hr2
              have hr3 := HXX.out.cell' HCYO.out
              obtain ⟨b, off, A', c', l, hAe, -, hl2, hcl, -, hrl, -, -⟩ := (HR.out.ext ((HXC.out.trans' HX.out).trans' HXX.out)).at_ hxn
              subst hAe
              obtain ⟨m, HM5⟩ : ∃ m, Hid (l.length = m) := ⟨_, rfl⟩
              have hm := HL.out l (List.mem_of_getElem? hl2)
              rw [HM5.out] at hcl hrl hm
              have hgd : ls.getD x [] = l := RdLL.getD_ hl2
              obtain ⟨z, HZ⟩ : ∃ z, Hid (decide ((Y : Int) ∈ l) = z) := ⟨_, rfl⟩
              have hrl2 := hrl
              have Q : Hid (∀ t, Calls Try.prog 28 #[.slice A' m c', .int .i64 (Y : Int)] (wr.drewN t) fun e w'' => e = .returned (.bool z) ∧ ∃ q, w'' = wr.drewN q) := fun t => quietL (refHas5V HZ.out A' m c' (wr.drewN t) (hrl2.ext (below_drewN' Ext.rfl' t)) (by omega))
              have HXD : Hid (∀ t, Ext wd (wr.drewN t)) := fun t => below_drewN' HXX.out t
              have HZZ : Hid (z = decide ((Y : Int) ∈ ls.getD x [])) := by show _ = _; rw [hgd]; exact HZ.out.symm
              clear hl2 hrl hrl2 hm hgd
              by_cases hxS : x = S
              · subst hxS
                have e1 : cx = true := by rw [← HCX.out]; exact HSO.out.2.1
                have e2 : z = true := by rw [HZZ.out]; exact decide_eq_true HSO.out.2.2
                subst e1; subst e2
                have HR2 : Hid (((pre ++ [(Y : Int)]) ++ [(x : Int)]) ++ restP ls W p x = PL) := by
                  show _ = _
                  rw [← HPR.out, List.append_assoc, restP, HSS.out]; rfl
                go_wp2
                go_quiet ((go_at_call 28; with_reducible exact Q.out _))
                obtain ⟨wD, HWD⟩ : ∃ wD, Hid (wr.drewN nq = wD) := ⟨_, rfl⟩
                have HXE : Hid (Ext wd wD) := by rw [← HWD.out]; exact HXD.out nq
                rw [HWD.out]
                obtain ⟨ol, HOLL⟩ : ∃ ol, Hid (pre ++ [(Y : Int)] = ol) := ⟨_, rfl⟩
                rw [HOLL.out] at HO HQ HR2
                have hown : wD.ownsRow wc.heap.size 3 1 (.slice (some ⟨gO, 0, none⟩) q cO) q (flat encI ol) := OI.n_ (HO.out.ext HXE.out) HQ.out
                have HSZ : Hid (wc.heap.size ≤ wD.heap.size) := (HX.out.trans' HXE.out).size
                obtain ⟨FLL, HF⟩ : ∃ FLL, Hid (FLL = flat encI ol) := ⟨_, rfl⟩
                rw [← HF.out] at hown
                have HADD : Hid (∀ w1 gg cap o, w1.ownsRow wc.heap.size 3 1 (.slice (some ⟨gg, 0, none⟩) (q + 1) cap) (q + 1) (flat encI ol ++ [.int .i64 (x : Int)]) → (wD.alloc o).grownBy w1 (Value.slice (some ⟨gO, 0, none⟩) q cO).ownBlock → ((Value.slice (some ⟨gO, 0, none⟩) q cO).ownBlock = some gg ∨ gg = wD.heap.size + 1) →
                    OI w1 wc.heap.size (.slice (some ⟨gg, 0, none⟩) (q + 1) cap) (ol ++ [(x : Int)]) ∧ Ext wc w1) := fun w1 gg cap o h1 h2 h3 => by
                  obtain ⟨a1, a2, _⟩ := app1 (HO.out.ext HXE.out) HQ.out h1 h2 h3
                  exact ⟨a1, ((Mod.of_ext (S := (Value.slice (some ⟨gO, 0, none⟩) q cO).ownBlock.toList) (HX.out.trans' HXE.out)).trans a2 (fun t ht => .inl ht)).ext (fun s hs => (HO.out.obj (g := s) (by simpa using hs)).1)⟩
                have HCX2 : Hid (canK ls W p x = true) := HCX.out
                clear hr1 hr2 hr3 hcl
                go_wp2_with (at_builtin; refine wpList_append_lies _ rfl _ _ _ rfl wc.heap.size 3 i0 _ 1 8 Try.underlying23 hi0 hz0 hz1 hz2 rfl (by omega) _ q FLL rfl (World.ownsRow.alloc hown _) ⟨wD.heap.size, 0, none⟩ 1 1 [.int .i64 (x : Int)] rfl rfl (World.news_of_block (cs := #[.int .i64 (x : Int)]) (t := 3) (fr := (0, 0)) (heap_alloc_new wD _)) (by simp [Value.oneCell']) (by omega) (by simp only [maxLen]; omega) (by omega) (by have := HSZ.out; first | (simp; done) | (simp; omega)) (wD.heap.size + 1) (by simp) ?_; intro gg cap w1 hown1 hgrow hat hlt2; have HXX9 := Lib.hid (HADD.out w1 gg cap _ (by rw [← HF.out]; exact hown1) hgrow hat); clear hown1 hgrow hat)
                go_roundw
                case rel => exact ⟨p, x, ol, rfl, by omega, HCX2.out, HXX9.out.1, HR2.out, HXX9.out.2⟩
                case measure => simp [intOf]
              · have hlt : x < S := by omega
                have hno := HSM.out x hlt
                cases cx with
                | false =>
                  go_wp2
                  go_quiet ((go_at_call 28; with_reducible exact Q.out _))
                  go_wp2
                  go_roundw
                  case rel => exact ⟨x + 1, by omega, by go_num, HXD.out _⟩
                  case measure => simp [intOf]; omega
                | true =>
                  have e2 : z = false := by
                    rw [HZZ.out, decide_eq_false_iff_not]
                    exact fun h => hno ⟨HCX.out, h⟩
                  subst e2
                  clear hno
                  go_wp2
                  go_quiet ((go_at_call 28; with_reducible exact Q.out _))
                  go_wp2
                  go_roundw
                  case rel => exact ⟨x + 1, by omega, by go_num, HXD.out _⟩
                  case measure => simp [intOf]; omega
end Go.Proofs.Ytmejjeeobhapfaa
