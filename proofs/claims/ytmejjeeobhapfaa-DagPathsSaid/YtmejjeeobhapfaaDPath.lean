/-
  Walk: the way from one thing to another one. Conditions: none.
-/
import Derived.Test.YtmejjeeobhapfaaDQue
import Derived.Test.YtmejjeeobhapfaaDRep
import Derived.Test.YtmejjeeobhapfaaDClo
import Derived.Test.YtmejjeeobhapfaaDKnown
namespace Go.Proofs.Ytmejjeeobhapfaa
open Go.RowKit
set_option linter.unusedVariables false
set_option linter.unusedSimpArgs false

set_option maxRecDepth 100000 in
set_option maxHeartbeats 4000000 in
theorem pathW (gb n : Nat) (ls : List (List Int)) (v u : Int) (w : World) (hg : GAt w gb n (befG ls) (behG ls) (ordG ls)) (hok : okG ls) (ht : tot ls ≤ 100) (hln : ls.length = n) (hn : n ≤ 100)
    (hbe : ∀ l ∈ befG ls, l.length ≤ 100 ∧ Rng n l) (hhe : ∀ l ∈ behG ls, l.length ≤ 100 ∧ Rng n l) :
    Calls Try.prog 25 #[.pointer (some ⟨gb, 0, none⟩), .int .i64 v, .int .i64 u] w (GivesI (pathT ls v u) w) := by
  obtain ⟨i0, hi0, hz0, hz1, hz2⟩ := info_parts Try.infoIntD
  obtain ⟨B, cb, H, ch, A, c, g0, g1, g2, hB, hH, hr⟩ := hg.cells
  have HG0 := Lib.hid g0
  have HG1 := Lib.hid g1
  have HB := Lib.hid hB
  have HH := Lib.hid hH
  have HBE := Lib.hid hbe
  have HHE := Lib.hid hhe
  have HLN := Lib.hid hln
  have HST := Lib.hid (stands hok ht)
  have HIN : Hid (inRg ls.length ls = true) := hok.1
  have HOL0 : Hid ((ordG ls).length = ls.length) := hok.2
  have HHAS : Hid (∀ (v : Int) (w' : World), w'.cell? ⟨gb, 0, none⟩ = some (.slice B n cb) → Calls Try.prog 34 #[.pointer (some ⟨gb, 0, none⟩), .int .i64 v] w' fun e w'' => e = .returned (.bool (decide (0 ≤ v ∧ v < n))) ∧ w' = w'') := fun v w' h => hasG gb n cb B v w' h
  have HOUT : Hid (¬ ((0 ≤ v ∧ v < n) ∧ 0 ≤ u ∧ u < n) → pathT ls v u = []) := fun h => by rw [pathT, hln, if_neg h]
  clear hg hB hH hr g1 g2 hbe hhe hok ht
  by_cases hv : 0 ≤ v ∧ v < n
  case neg =>
    have d0 : decide (0 ≤ v ∧ v < n) = false := decide_eq_false hv
    rw [HOUT.out (fun h => hv h.1)]
    go_enter Try.func25, Try.ntmps25
    go_wp2_with fail
    refine (HHAS.out v w g0).mono ?_
    rintro e w1 ⟨rfl, rfl⟩
    rw [d0]
    clear hv
    go_wp2
    (try rw [Exit.noGoto_ret])
    go_ret
    exact ⟨_, rfl, OI.nil _ _, Ext.rfl'⟩
  have d0 : decide (0 ≤ v ∧ v < n) = true := decide_eq_true hv
  by_cases hu : 0 ≤ u ∧ u < n
  case neg =>
    have d1 : decide (0 ≤ u ∧ u < n) = false := decide_eq_false hu
    rw [HOUT.out (fun h => hu h.2)]
    go_enter Try.func25, Try.ntmps25
    go_wp2_with fail
    refine (HHAS.out v w g0).mono ?_
    rintro e w1 ⟨rfl, rfl⟩
    rw [d0]
    clear hv hu
    go_wp2_with fail
    refine (HHAS.out u w g0).mono ?_
    rintro e w1 ⟨rfl, rfl⟩
    rw [d1]
    go_wp2
    (try rw [Exit.noGoto_ret])
    go_ret
    exact ⟨_, rfl, OI.nil _ _, Ext.rfl'⟩
  have d1 : decide (0 ≤ u ∧ u < n) = true := decide_eq_true hu
  obtain ⟨V, rfl⟩ : ∃ V : Nat, v = (V : Int) := ⟨v.toNat, by omega⟩
  obtain ⟨W, rfl⟩ : ∃ W : Nat, u = (W : Int) := ⟨u.toNat, by omega⟩
  have hVn : V < n := by omega
  have hWn : W < n := by omega
  have hVn2 : (V : Int) < (n : Int) := by omega
  have hWn2 : (W : Int) < (n : Int) := by omega
  have hV0 : (0 : Int) ≤ (V : Int) := by omega
  have hW0 : (0 : Int) ≤ (W : Int) := by omega
  go_enter Try.func25, Try.ntmps25
  go_wp2_with fail
  refine (HHAS.out V w g0).mono ?_
  rintro e w1 ⟨rfl, rfl⟩
  rw [d0]
  go_wp2_with fail
  refine (HHAS.out W w g0).mono ?_
  rintro e w1 ⟨rfl, rfl⟩
  rw [d1]
  clear hv hu d0 d1 HOUT
  have hxa : Ext w (w.alloc (.cells #[.int .i64 (-1)] 3)) := Ext.rfl'.alloc (Nat.le_refl _) _
  have hg1 := hxa.cell' g0
  go_wp2_with fail
  refine (repI (some ⟨w.heap.size, 0, none⟩) 1 n _ (rdI_lit w [-1] rfl rfl (by omega)) (by omega) hn).mono ?_
  rintro e w2 ⟨v7, rfl, ho7, hx7⟩
  have hlr : (List.replicate n (-1 : Int)).length = n := List.length_replicate
  obtain ⟨N, cF, hv7, -, -, hNw, -, -, -⟩ := ho7.at_ (i := 0) (by rw [hlr]; omega)
  subst hv7
  rw [hlr] at ho7 ⊢
  have HX2 : Hid (Ext w w2) := hxa.trans' hx7
  have HF2 : Hid (OI w2 w.heap.size (.slice (some ⟨N, 0, none⟩) n cF) (List.replicate n (-1))) := ho7.low hxa.size
  have hc7 := (HF2.out.cells2).1 W (-1) (by rw [List.getElem?_replicate, if_pos hWn])
  have hf7 := (HF2.out.cells2).2 W
  have hNb := (own_obj HF2.out (g := N) rfl).1
  have HS2 : Hid (PSt w ((w2.setCell ⟨N, W, none⟩ (.int .i64 0)).alloc (.cells #[.int .i64 (W : Int)] 3)) N cF n ((List.replicate n (-1)).set W 0) (.slice (some ⟨w2.heap.size, 0, none⟩) 1 1) [(W : Int)]) := by
    have e1 : (w2.setCell ⟨N, W, none⟩ (.int .i64 0)).heap.size = w2.heap.size := by simp
    have h1 : OI (w2.setCell ⟨N, W, none⟩ (.int .i64 0)) w.heap.size (.slice (some ⟨N, 0, none⟩) n cF) ((List.replicate n (-1)).set W 0) := HF2.out.store2 hlr W 0
    have hx1 : Ext (w2.setCell ⟨N, W, none⟩ (.int .i64 0)) ((w2.setCell ⟨N, W, none⟩ (.int .i64 0)).alloc (.cells #[.int .i64 (W : Int)] 3)) := Ext.rfl'.alloc (Nat.le_refl _) _
    have hx0 : Ext w (w2.setCell ⟨N, W, none⟩ (.int .i64 0)) := HX2.out.setCell hNb _
    have h2 := OQ.lit (w2.setCell ⟨N, W, none⟩ (.int .i64 0)) (base := w.heap.size) (N := N) (x := (W : Int)) (by rw [e1]; exact hNw) hx0.size
    rw [e1] at h2
    exact ⟨h1.ext hx1, by rw [List.length_set, hlr], h2, hx0.trans' hx1⟩
  have HBF0 : Hid (Bfs ls W ((List.replicate n (-1)).set W 0) [(W : Int)]) := by
    have := Bfs.start (ls := ls) (w := W) (by rw [HLN.out]; exact hWn); rwa [HLN.out] at this
  have HCN0 : Hid (((List.replicate n (-1 : Int)).set W 0).count (-1) + [(W : Int)].length ≤ n) := by
    show _ ≤ _
    have h1 := count_mark (F := List.replicate n (-1)) (u := W) (z := 0) (by rw [List.getD, List.getElem?_replicate, if_pos hWn]; rfl) (by omega)
    have h2 : (List.replicate n (-1 : Int)).count (-1) ≤ (List.replicate n (-1 : Int)).length := List.count_le_length
    rw [hlr] at h2
    simp only [List.length_cons, List.length_nil]
    omega
  clear ho7 hx7 hxa hg1 hlr HF2
  go_wp2
  clear hc7 hf7
  go_loopw [8] (fun t wr => ∃ F T, Hid (PSt w wr N cF n F t T) ∧ Hid (Bfs ls W F T) ∧ Hid (F.count (-1) + T.length ≤ n)) (fun t wr => cntM wr N n + slLenD t)
  case atStart => exact ⟨_, _, HS2.out, HBF0.out, HCN0.out⟩
  case round =>
    obtain ⟨F, T, HP, HBF, HCN⟩ := hrel
    cases T with
    | nil =>
      obtain ⟨g, off, cap, hv8, hbg, -, -, -⟩ := HP.out.oT.open_
      rw [List.length_nil] at hv8
      subst hv8
      have HPTH : Hid (pathT ls V W = if F.getD V 0 < 0 then [] else (V : Int) :: restP ls W (F.getD V 0).toNat V) := HBF.out.path HIN.out (by rw [HLN.out]; exact hWn) HST.out HOL0.out (by rw [HLN.out]; exact hVn)
      obtain ⟨fV, HFV⟩ : ∃ fV, Hid (F.getD V 0 = fV) := ⟨_, rfl⟩
      rw [HFV.out] at HPTH
      have hcV := (HP.out.oF.cells2).1 V _ (getD_some (by rw [HP.out.len]; exact hVn))
      rw [HFV.out] at hcV
      clear hbg
      by_cases hneg : fV < 0
      · have d2 : decide (fV < 0) = true := decide_eq_true hneg
        have HXE : Hid (Ext w wr) := HP.out.ex
        have HNIL : Hid (pathT ls V W = []) := by show _ = _; rw [HPTH.out, if_pos hneg]
        clear hneg
        go_wp2
        (try rw [Exit.noGoto_ret])
        go_ret
        exact ⟨.slice none 0 0, rfl, by rw [HNIL.out]; exact OI.nil _ _, HXE.out⟩
      · have d2 : decide (fV < 0) = false := decide_eq_false hneg
        obtain ⟨k0, rfl⟩ : ∃ k0 : Nat, fV = (k0 : Int) := ⟨fV.toNat, by omega⟩
        have hk0 : k0 ≤ 100 := by
          have h1 := HBF.out.le HIN.out HST.out HOL0.out (by rw [HLN.out]; exact hWn) (u := V) (by rw [HLN.out]; exact hVn)
          rw [HFV.out, HLN.out] at h1; omega
        have HPP : Hid (pathT ls V W = (V : Int) :: restP ls W k0 V) := by show _ = _; rw [HPTH.out, if_neg hneg, Int.toNat_natCast]
        obtain ⟨wc, HWC⟩ : ∃ wc, wc = wr := ⟨_, rfl⟩
        subst HWC
        have HXC : Hid (Ext w wc) := HP.out.ex
        have HOC : Hid (OI wc w.heap.size (.slice (some ⟨N, 0, none⟩) n cF) F) := HP.out.oF
        have HFL : Hid (F.length = n) := HP.out.len
        have hxa : Ext wc (wc.alloc (.cells #[.int .i64 (V : Int)] 3)) := Ext.rfl'.alloc (Nat.le_refl _) _
        have HXA := Lib.hid hxa
        have HO0 : Hid (OI (wc.alloc (.cells #[.int .i64 (V : Int)] 3)) wc.heap.size (.slice (some ⟨wc.heap.size, 0, none⟩) 1 1) [(V : Int)]) := own_lit wc wc.heap.size 3 1 1 1 wc.heap.size #[.int .i64 (V : Int)] [.int .i64 (V : Int)] (Nat.le_refl _) rfl (by simp only [maxLen]; omega) rfl rfl rfl
        obtain ⟨PL, HPL⟩ : ∃ PL, Hid ((V : Int) :: restP ls W k0 V = PL) := ⟨_, rfl⟩
        have HPLN : Hid (PL.length = k0 + 1) := by show _ = _; rw [← HPL.out, List.length_cons, restP_len]
        rw [HPL.out] at HPP
        clear hneg hxa HPTH
        go_wp2
        go_loopw [1, 11] (fun vv o wr => ∃ (k V' : Nat) (ol : List Int), vv = .int .i64 V' ∧ V' < n ∧ Hid (F.getD V' 0 = (k : Int)) ∧ Hid (OI wr wc.heap.size o ol) ∧ Hid (ol ++ restP ls W k V' = PL) ∧ Hid (Ext wc wr)) (fun vv _ _ => (F.getD (intOf vv).toNat 0).toNat)
        case atStart => exact ⟨k0, V, [(V : Int)], rfl, hVn, HFV.out, HO0.out, HPL.out, HXA.out⟩
        case round =>
          obtain ⟨k, Y, ol, rfl, hYn, HFY, HO, HR, HX⟩ := hrel
          have hYn2 : (Y : Int) < (n : Int) := by omega
          have hY0 : (0 : Int) ≤ (Y : Int) := Int.natCast_nonneg _
          obtain ⟨q, HQ⟩ : ∃ q, Hid (ol.length = q) := ⟨_, rfl⟩
          have HQK : Hid (q + k = k0 + 1) := by
            show _ = _
            rw [← HQ.out, ← HPLN.out, ← HR.out, List.length_append, restP_len]
          have hq100 : q ≤ 1000 := by have := HQK.out; omega
          obtain ⟨A4, c4, hv4, hq4, -⟩ := HO.out.slice
          rw [HQ.out] at hv4 hq4
          subst hv4
          have HFW : Hid (F.getD W 0 = 0) := HBF.out.zero
          by_cases hk : k = 0
          · subst hk
            have hYW : Y = W := by
              have h1 := HBF.out.snd Y (by rw [HLN.out]; exact hYn) (by rw [HFY.out]; exact Int.le_refl _)
              rw [HFY.out] at h1
              simpa [canK] using h1
            subst hYW
            have HRE : Hid (ol = PL) := by have := HR.out; rwa [restP, List.append_nil] at this
            have HO9 : Hid (OI wr w.heap.size (.slice A4 q c4) PL) := by rw [← HRE.out]; exact HO.out.low HXC.out.size
            have HX9 : Hid (Ext w wr) := HXC.out.trans' HX.out
            go_wp2
            (try rw [Exit.noGoto_ret])
            go_ret
            exact ⟨.slice A4 q c4, rfl, by rw [HPP.out]; exact HO9.out, HX9.out⟩
          · obtain ⟨k, rfl⟩ : ∃ k', k = k' + 1 := ⟨k - 1, by omega⟩
            have hYW : ¬ (Y : Int) = (W : Int) := fun e => by
              obtain rfl : Y = W := by omega
              have h1 := HFY.out
              rw [HFW.out] at h1
              omega
            have hYW2 : ¬ Y = W := by omega
            have hg1 := (HXC.out.trans' HX.out).cell' HG1.out
            obtain ⟨b, offB, A', c', l, rfl, -, hl2, hcl, -, hrl, -, -⟩ := HH.out.at_ hYn
            replace hcl := (HXC.out.trans' HX.out).cell' hcl
            obtain ⟨m, HM5⟩ : ∃ m, Hid (l.length = m) := ⟨_, rfl⟩
            have hm := (HHE.out l (List.mem_of_getElem? hl2)).1
            have HLR : Hid (Rng n l) := (HHE.out l (List.mem_of_getElem? hl2)).2
            rw [HM5.out] at hcl hrl hm
            have HRL := Lib.hid hrl
            have HLE : Hid (l = numsK (fun u => decide ((Y : Int) ∈ ls.getD u [])) n) := by
              have e : (behG ls).getD Y [] = l := RdLL.getD_ hl2
              show _ = _
              rw [← e, behG_at HIN.out (by rw [HLN.out]; exact hYn), HLN.out]
            have HCK : Hid (canK ls W (k + 1) Y = true) := by
              have h1 := HBF.out.snd Y (by rw [HLN.out]; exact hYn) (by rw [HFY.out]; omega)
              rw [HFY.out] at h1; exact h1
            have HSTP : Hid (stp ls W k Y < n ∧ canK ls W k (stp ls W k Y) = true ∧ (Y : Int) ∈ ls.getD (stp ls W k Y) []) := by
              have := stp_ok HCK.out; rwa [HLN.out] at this
            have HNEAR : Hid (∀ x, x < n → (Y : Int) ∈ ls.getD x [] → (F.getD x 0 = (k : Int) ↔ canK ls W k x = true)) := fun x hx hin =>
              HBF.out.near HIN.out (by rw [HLN.out]; exact hWn) (by rw [HLN.out]; exact hYn) (by rw [HFY.out]; omega) (by rw [HLN.out]; exact hx) hin
            have hcY := (HOC.out.cells2).1 Y _ (getD_some (by rw [HFL.out]; exact hYn))
            rw [HFY.out] at hcY
            obtain ⟨wd, HWD⟩ : ∃ wd, wd = wr := ⟨_, rfl⟩
            subst HWD
            have HCY : Hid (wc.cell? ⟨N, Y, none⟩ = some (.int .i64 ((k + 1 : Nat) : Int))) := hcY
            have hwk : IntKind.i64.wrap (((k + 1 : Nat) : Int) - 1) = (k : Int) := by have := HQK.out; rw [IntKind.wrap_i64]; omega
            have hwk2 : IntKind.i64.wrap (k : Int) = (k : Int) := by have := HQK.out; rw [IntKind.wrap_i64]; omega
            have hwk3 : IntKind.i64.wrap ((k : Int) + 1 - 1) = (k : Int) := by have := HQK.out; rw [IntKind.wrap_i64]; omega
            clear hl2 hrl hcY
            go_wp2
            go_loopw [1, 93] (fun vv i wr => ∃ j : Nat, j ≤ m ∧ i = .int .i64 j ∧ vv = .int .i64 Y ∧ Hid (∀ i x, i < j → l[i]? = some x → F.getD x.toNat 0 ≠ (k : Int)) ∧ Hid (Ext wd wr)) (fun _ i _ => m - (intOf i).toNat)
            case atStart => exact ⟨0, by omega, rfl, rfl, (fun i x hi => absurd hi (by omega)), Ext.rfl'⟩
            case round =>
              obtain ⟨j, hj, rfl, rfl, HNO, HXJ⟩ := hrel
              by_cases hjm : j < m
              · have hjm2 : (j : Int) < (m : Int) := by omega
                obtain ⟨b5, o5, y, rfl, -, hy, hd0⟩ := RdI.cut (HRL.out.ext ((HXC.out.trans' HX.out).trans' HXJ.out)) hjm
                obtain ⟨hy0, hyn⟩ := HLR.out y (List.mem_of_getElem? hy)
                obtain ⟨S, rfl⟩ : ∃ S : Nat, y = (S : Int) := ⟨y.toNat, by omega⟩
                have hSn : S < n := by omega
                have hSn2 : (S : Int) < (n : Int) := by omega
                have hS0 : (0 : Int) ≤ (S : Int) := Int.natCast_nonneg _
                obtain ⟨fS, HFS⟩ : ∃ fS, Hid (F.getD S 0 = fS) := ⟨_, rfl⟩
                have hcS := ((HOC.out.ext (HX.out.trans' HXJ.out)).cells2).1 S _ (getD_some (by rw [HFL.out]; exact hSn))
                rw [HFS.out] at hcS
                have hcY := (HX.out.trans' HXJ.out).cell' HCY.out
                have HY := Lib.hid hy
                clear hy hy0 hyn
                by_cases he : fS = (k : Int)
                · subst he
                  have d5 : ((k : Int) == (k : Int)) = true := by simp
                  have HIS : Hid ((Y : Int) ∈ ls.getD S []) := by
                    have h1 := List.mem_of_getElem? HY.out
                    rw [HLE.out, numsK_mem] at h1
                    obtain ⟨i, hi, _, h2⟩ := h1
                    obtain rfl : S = i := by omega
                    show (Y : Int) ∈ ls.getD S []
                    exact of_decide_eq_true h2
                  have HSE : Hid (stp ls W k Y = S) := by
                    refine stp_eq (by rw [HLN.out]; exact hSn) ((HNEAR.out S hSn HIS.out).1 HFS.out) HIS.out (fun z hz hh => ?_)
                    have hzn : z < n := by omega
                    have h1 : (z : Int) ∈ l := by rw [HLE.out, numsK_mem]; exact ⟨z, rfl, hzn, decide_eq_true hh.2⟩
                    obtain ⟨i, hi, hiz⟩ := List.getElem_of_mem h1
                    have h2 : l[i]? = some (z : Int) := by rw [List.getElem?_eq_getElem hi, hiz]
                    have h3 : F.getD z 0 = (k : Int) := (HNEAR.out z hzn hh.2).2 hh.1
                    have h4 : l.Pairwise (· < ·) := by rw [HLE.out]; exact numsK_asc _ _
                    have h5 : i < j := by
                      rcases Nat.lt_or_ge i j with h | h
                      · exact h
                      · exfalso
                        have hj2 := List.getElem?_eq_some_iff.1 HY.out
                        obtain ⟨hjl, hjy⟩ := hj2
                        rcases Nat.eq_or_lt_of_le h with e | e
                        · subst e; rw [hiz] at hjy; omega
                        · have := List.pairwise_iff_getElem.1 h4 j i hjl hi e
                          rw [hiz, hjy] at this; omega
                    exact HNO.out i _ h5 h2 (by rw [Int.toNat_natCast]; exact h3)
                  have HR2 : Hid ((ol ++ [(S : Int)]) ++ restP ls W k S = PL) := by
                    show _ = _
                    rw [← HR.out, List.append_assoc, restP, HSE.out]; rfl
                  go_wp2
                  go_quiet (fail)
                  obtain ⟨wD, HWD⟩ : ∃ wD, Hid (wr.drewN nq = wD) := ⟨_, rfl⟩
                  have HXD : Hid (Ext wd wD) := by rw [← HWD.out]; exact below_drewN' HXJ.out nq
                  rw [HWD.out]
                  have hown : wD.ownsRow wc.heap.size 3 1 (.slice A4 q c4) q (flat encI ol) := OI.n_ (HO.out.ext HXD.out) HQ.out
                  have HSZ : Hid (wc.heap.size ≤ wD.heap.size) := (HX.out.trans' HXD.out).size
                  obtain ⟨FLL, HF⟩ : ∃ FLL, Hid (FLL = flat encI ol) := ⟨_, rfl⟩
                  rw [← HF.out] at hown
                  have HADD : Hid (∀ w1 gg cap o, w1.ownsRow wc.heap.size 3 1 (.slice (some ⟨gg, 0, none⟩) (q + 1) cap) (q + 1) (flat encI ol ++ [.int .i64 (S : Int)]) → (wD.alloc o).grownBy w1 (Value.slice A4 q c4).ownBlock → ((Value.slice A4 q c4).ownBlock = some gg ∨ gg = wD.heap.size + 1) →
                      OI w1 wc.heap.size (.slice (some ⟨gg, 0, none⟩) (q + 1) cap) (ol ++ [(S : Int)]) ∧ Ext wc w1) := fun w1 gg cap o h1 h2 h3 => by
                    obtain ⟨a1, a2, _⟩ := app1 (HO.out.ext HXD.out) HQ.out h1 h2 h3
                    exact ⟨a1, ((Mod.of_ext (S := (Value.slice A4 q c4).ownBlock.toList) (HX.out.trans' HXD.out)).trans a2 (fun t ht => .inl ht)).ext (fun s hs => (HO.out.obj (g := s) (by simpa using hs)).1)⟩
                  clear hcS hcY hd0
                  go_wp2_with (at_builtin; refine wpList_append_lies _ rfl _ _ _ rfl wc.heap.size 3 i0 _ 1 8 Try.underlying23 hi0 hz0 hz1 hz2 rfl (by omega) _ q FLL rfl (World.ownsRow.alloc hown _) ⟨wD.heap.size, 0, none⟩ 1 1 [.int .i64 (S : Int)] rfl rfl (World.news_of_block (cs := #[.int .i64 (S : Int)]) (t := 3) (fr := (0, 0)) (heap_alloc_new wD _)) (by simp [Value.oneCell']) (by omega) (by simp only [maxLen]; omega) (by omega) (by have := HSZ.out; first | (simp; done) | (simp; omega)) (wD.heap.size + 1) (by simp) ?_; intro gg cap w1 hown1 hgrow hat hlt2; have HXX := Lib.hid (HADD.out w1 gg cap _ (by rw [← HF.out]; exact hown1) hgrow hat); clear hown1 hgrow hat)
                  go_roundw
                  case rel => exact ⟨k, S, ol ++ [(S : Int)], rfl, hSn, HFS.out, HXX.out.1, HR2.out, HXX.out.2⟩
                  case measure =>
                    show (F.getD (S : Int).toNat 0).toNat < (F.getD (Y : Int).toNat 0).toNat
                    rw [Int.toNat_natCast, Int.toNat_natCast, HFS.out, HFY.out]; omega
                · have d5 : (fS == (k : Int)) = false := by simpa using he
                  have HNO2 : Hid (∀ i x, i < j + 1 → l[i]? = some x → F.getD x.toNat 0 ≠ (k : Int)) := fun i x hi hx => by
                    rcases Nat.lt_or_ge i j with h | h
                    · exact HNO.out i x h hx
                    · obtain rfl : i = j := by omega
                      rw [HY.out] at hx
                      cases hx
                      rw [Int.toNat_natCast, HFS.out]; exact he
                  go_wp2
                  go_quiet (fail)
                  go_wp2
                  go_roundw
                  case rel => exact ⟨j + 1, by omega, by go_num, rfl, HNO2.out, below_drewN' HXJ.out _⟩
                  case measure => simp [intOf]; omega
              · exfalso
                obtain rfl : m = j := by omega
                have h1 : ((stp ls W k Y : Nat) : Int) ∈ l := by rw [HLE.out, numsK_mem]; exact ⟨_, rfl, HSTP.out.1, decide_eq_true HSTP.out.2.2⟩
                obtain ⟨i, hi, hiz⟩ := List.getElem_of_mem h1
                have h2 : l[i]? = some ((stp ls W k Y : Nat) : Int) := by rw [List.getElem?_eq_getElem hi, hiz]
                refine HNO.out i _ (by rw [← HM5.out]; exact hi) h2 ?_
                rw [Int.toNat_natCast]
                exact (HNEAR.out _ HSTP.out.1 HSTP.out.2.2).2 HSTP.out.2.1
    | cons x R =>
      obtain ⟨⟨hx0, hxn⟩, hxf⟩ := HBF.out.rg x (by simp)
      obtain ⟨X, rfl⟩ : ∃ X : Nat, x = (X : Int) := ⟨x.toNat, by omega⟩
      rw [HLN.out] at hxn
      rw [Int.toNat_natCast] at hxf
      have hXn : X < n := by omega
      obtain ⟨g, off, cap, hv8, hbg, hqc, hcs, hts⟩ := HP.out.oT.open_
      obtain ⟨q, HQ⟩ : ∃ q, Hid (((X : Int) :: R).length = q) := ⟨_, rfl⟩
      rw [HQ.out] at hv8 hqc
      subst hv8
      have hq1 : 1 ≤ q := by rw [← HQ.out]; simp
      have hqi0 : (0 : Int) < (q : Int) := by omega
      have hqi1 : 0 < q := by omega
      have dq0 : decide ((q : Int) > 0) = true := decide_eq_true (by omega)
      have hcX := hcs 0 (X : Int) rfl
      rw [Nat.add_zero] at hcX
      have hg0 := HP.out.ex.cell' HG0.out
      obtain ⟨b, offB, A', c', l, rfl, -, hl2, hcl, -, hrl, -, -⟩ := HB.out.at_ hXn
      replace hcl := HP.out.ex.cell' hcl
      obtain ⟨m, HM5⟩ : ∃ m, Hid (l.length = m) := ⟨_, rfl⟩
      have hm := (HBE.out l (List.mem_of_getElem? hl2)).1
      have HLR : Hid (Rng n l) := (HBE.out l (List.mem_of_getElem? hl2)).2
      rw [HM5.out] at hcl hrl hm
      have HRL := Lib.hid hrl
      have HMEM : Hid (∀ y, y ∈ l ↔ y ∈ ls.getD X []) := fun y => by
        have e : (befG ls).getD X [] = l := RdLL.getD_ hl2
        rw [← e, befG_getD]; exact (tidyI_ok _).2 y
      have hXn2 : (X : Int) < (n : Int) := by omega
      have hX0 : (0 : Int) ≤ (X : Int) := Int.natCast_nonneg _
      obtain ⟨wa, HWA⟩ : ∃ wa, wa = wr := ⟨_, rfl⟩
      subst HWA
      have HPA : Hid (∀ z, PSt w (wa.drewN z) N cF n F (.slice (some ⟨g, off, none⟩) q cap) ((X : Int) :: R)) := fun z => HP.out.ext (below_drewN' Ext.rfl' z)
      obtain ⟨fX, HFX⟩ : ∃ fX, Hid (F.getD X 0 = fX) := ⟨_, rfl⟩
      have hfX0 : 0 ≤ fX := by rw [← HFX.out]; exact hxf
      have hfXn : fX ≤ 100 := by
        have h1 := HBF.out.le HIN.out HST.out HOL0.out (by rw [HLN.out]; exact hWn) (u := X) (by rw [HLN.out]; exact hXn)
        rw [HFX.out, HLN.out] at h1; omega
      obtain ⟨M0, HM0⟩ : ∃ M0, Hid (F.count (-1) + q = M0) := ⟨_, rfl⟩
      have HQM : Hid (M0 ≤ 100) := by show _ ≤ _; have h1 := HCN.out; have h2 := HM0.out; have h3 := HQ.out; omega
      have HQN : Hid (M0 ≤ n) := by show _ ≤ _; have h1 := HCN.out; have h2 := HM0.out; have h3 := HQ.out; omega
      have HCW : Hid (cntM wa N n = F.count (-1)) := cntM_eq HP.out.len (HP.out.oF.cells2).1
      clear hcs hts hl2 hrl hxf hx0 hxn hqc hq1
      go_wp2
      go_quiet (fail)
      obtain ⟨wb, HWB⟩ : ∃ wb, Hid (wa.drewN nq = wb) := ⟨_, rfl⟩
      have HPB : Hid (PSt w wb N cF n F (.slice (some ⟨g, off, none⟩) q cap) ((X : Int) :: R)) := by rw [← HWB.out]; exact HPA.out nq
      have HXB : Hid (Ext w wb) := HPB.out.ex
      rw [HWB.out]
      clear hcX hg0 hcl
      go_wp2
      go_loopw [8, 51] (fun t i wr => ∃ (j : Nat) (F' R' : List Int), j ≤ m ∧ i = .int .i64 j ∧ Hid (PSt w wr N cF n F' t ((X : Int) :: R')) ∧ Hid (Bfs ls W F' ((X : Int) :: R')) ∧ Hid (∀ y ∈ l.take j, 0 ≤ F'.getD y.toNat 0 ∧ F'.getD y.toNat 0 ≤ fX + 1) ∧ Hid (F'.getD X 0 = fX ∧ F'.count (-1) + ((X : Int) :: R').length = M0)) (fun _ i _ => m - (intOf i).toNat)
      case atStart => exact ⟨0, F, R, by omega, rfl, HPB.out, HBF.out, (fun y hy => by simp at hy), HFX.out, by rw [HQ.out]; exact HM0.out⟩
      case round =>
        obtain ⟨j, F', R', hj, rfl, HP2, HB2, HPT, HC2⟩ := hrel
        obtain ⟨q2, HQ2⟩ : ∃ q2, Hid (((X : Int) :: R').length = q2) := ⟨_, rfl⟩
        obtain ⟨g2, off2, cap2, hv9, hbg2, hqc2, -, -⟩ := HP2.out.oT.open_
        rw [HQ2.out] at hv9 hqc2
        subst hv9
        have hq21 : 1 ≤ q2 := by rw [← HQ2.out]; simp
        have hR2 : ((X : Int) :: R').length = q2 := HQ2.out
        have hqn : q2 ≤ 100 := by
          have h1 := HC2.out.2
          have h2 := HM0.out
          have h3 : F.count (-1) ≤ F.length := List.count_le_length
          have h4 := HP.out.len
          rw [hR2] at h1
          have h5 := HQM.out
          omega
        clear hR2
        by_cases hjm : j < m
        · have hjm2 : (j : Int) < (m : Int) := by omega
          obtain ⟨b5, o5, y, rfl, -, hy, hd0⟩ := RdI.cut (HRL.out.ext HP2.out.ex) hjm
          obtain ⟨hy0, hyn⟩ := HLR.out y (List.mem_of_getElem? hy)
          obtain ⟨U, rfl⟩ : ∃ U : Nat, y = (U : Int) := ⟨y.toNat, by omega⟩
          have hUn : U < n := by omega
          have hUn2 : (U : Int) < (n : Int) := by omega
          have hU0 : (0 : Int) ≤ (U : Int) := Int.natCast_nonneg _
          have hlen : F'.length = n := HP2.out.len
          obtain ⟨fU, HFU⟩ : ∃ fU, Hid (F'.getD U 0 = fU) := ⟨_, rfl⟩
          have hcU := (HP2.out.oF.cells2).1 U _ (getD_some (by rw [hlen]; exact hUn))
          have hfU := (HP2.out.oF.cells2).2 U
          have hcF := (HP2.out.oF.cells2).1 X _ (getD_some (by rw [hlen]; exact hXn))
          rw [HFU.out] at hcU
          rw [HC2.out.1] at hcF
          have hcX := (HP2.out.oT.cells).2.2.1 0 (X : Int) rfl
          rw [Nat.add_zero] at hcX
          have HIN2 : Hid ((U : Int) ∈ ls.getD X []) := (HMEM.out _).1 (List.mem_of_getElem? hy)
          have HTK : Hid (l.take (j + 1) = l.take j ++ [(U : Int)]) := take_snoc' hy
          clear hy hy0 hyn hlen
          by_cases hneg : fU < 0
          · have d2 : decide (fU < 0) = true := decide_eq_true hneg
            have hq20 : (0 : Int) < (q2 : Int) := by omega
            have hw9 : IntKind.i64.wrap (fX + 1) = fX + 1 := by rw [IntKind.wrap_i64]; omega
            have hmk := HB2.out.mark (U := U) (by rw [HLN.out]; exact hWn) (by rw [HLN.out]; exact hUn) HIN2.out (by rw [HFU.out]; exact hneg)
            rw [HC2.out.1] at hmk
            have HBM : Hid (Bfs ls W (F'.set U (fX + 1)) ((X : Int) :: (R' ++ [(U : Int)]))) := hmk.1
            have HXU : Hid (U ≠ X) := fun e => by
              subst e
              have h1 := HC2.out.1
              have h2 := HFU.out
              omega
            have HGS : Hid (∀ v, (F'.set U (fX + 1)).getD v 0 = if U = v then fX + 1 else F'.getD v 0) := fun v => getD_set' _ _ _ _ (by rw [HP2.out.len]; exact hUn)
            have HPM : Hid (∀ y ∈ l.take (j + 1), 0 ≤ (F'.set U (fX + 1)).getD y.toNat 0 ∧ (F'.set U (fX + 1)).getD y.toNat 0 ≤ fX + 1) := fun y hy => by
              rw [HTK.out] at hy
              rw [HGS.out]
              split
              · omega
              · rename_i hne
                rcases List.mem_append.1 hy with h | h
                · exact HPT.out y h
                · exfalso
                  rw [List.mem_singleton] at h
                  rw [h, Int.toNat_natCast] at hne
                  exact hne rfl
            have HCM : Hid ((F'.set U (fX + 1)).getD X 0 = fX ∧ (F'.set U (fX + 1)).count (-1) + ((X : Int) :: (R' ++ [(U : Int)])).length = M0) := by
              refine ⟨by rw [HGS.out, if_neg HXU.out]; exact HC2.out.1, ?_⟩
              have h1 := count_mark (z := fX + 1) hmk.2 (by omega)
              have h2 := HC2.out.2
              simp only [List.length_cons, List.length_append, List.length_nil] at h2 ⊢
              omega
            have HP3 := Lib.hid (HP2.out.mark U (fX + 1))
            obtain ⟨OLD, HOLD⟩ : ∃ OLD, Hid (((X : Int) :: R').map (Value.int .i64) = OLD) := ⟨_, rfl⟩
            clear hmk hneg
            go_upto_region 13 with fail
            obtain ⟨ws, HWS⟩ : ∃ ws, Hid (wr.setCell ⟨N, U, none⟩ (.int .i64 (fX + 1)) = ws) := ⟨_, rfl⟩
            rw [HWS.out] at HP3 ⊢
            have HP4 : Hid (PSt w (ws.alloc (.cells #[.int .i64 (U : Int)] 3)) N cF n (F'.set U (fX + 1)) (.slice (some ⟨g2, off2, none⟩) q2 cap2) ((X : Int) :: R')) := HP3.out.ext (Ext.rfl'.alloc (Nat.le_refl _) _)
            have HOL : Hid (OLD.length = q2 * 1) := by show _ = _; rw [← HOLD.out, List.length_map, HQ2.out, Nat.mul_one]
            have HOC : Hid (∀ j u, OLD[j]? = some u → (ws.alloc (.cells #[.int .i64 (U : Int)] 3)).cell? ⟨g2, off2 + j, none⟩ = some u) := fun j u hj => by
              rw [← HOLD.out, List.getElem?_map] at hj
              cases hh : ((X : Int) :: R')[j]? with
              | none => rw [hh] at hj; cases hj
              | some y => rw [hh] at hj; cases hj; exact HP4.out.oT.cells.2.2.1 j y hh
            have HSP : Hid (q2 + 1 ≤ cap2 → ∀ j, j < [Value.int .i64 (U : Int)].length → ((ws.alloc (.cells #[.int .i64 (U : Int)] 3)).cell? ⟨g2, off2 + q2 * 1 + j, none⟩).isSome = true ∧ (ws.alloc (.cells #[.int .i64 (U : Int)] 3)).frozen? ⟨g2, off2 + q2 * 1 + j, none⟩ = false) := fun hr j hj => by
              have := HP4.out.oT.cells.2.2.2 (q2 * 1 + j) (by simp at hj; omega)
              rwa [← Nat.add_assoc] at this
            have HROOM : Hid (q2 + 1 ≤ cap2 → PSt w ((ws.alloc (.cells #[.int .i64 (U : Int)] 3)).setCells g2 (off2 + q2) [.int .i64 (U : Int)]) N cF n (F'.set U (fX + 1)) (.slice (some ⟨g2, off2, none⟩) (q2 + 1) cap2) ((X : Int) :: (R' ++ [(U : Int)]))) := fun hr => by have := HP4.out.room (x := (U : Int)) HQ2.out hr; rwa [Nat.mul_one] at this
            have HGROW : Hid (∀ v9 w9, w9.ownsRow (ws.alloc (.cells #[.int .i64 (U : Int)] 3)).heap.size 3 1 v9 (q2 + 1) (OLD ++ [.int .i64 (U : Int)]) → (ws.alloc (.cells #[.int .i64 (U : Int)] 3)).grownBy w9 none → PSt w w9 N cF n (F'.set U (fX + 1)) v9 ((X : Int) :: (R' ++ [(U : Int)]))) := fun v9 w9 h1 h2 =>
              HP4.out.grow h1 (by have := HQ2.out; simp only [List.length_cons, List.length_append, List.length_nil] at this ⊢; omega) (by omega) (by rw [← HOLD.out]; simp) h2
            by_cases hroom : q2 + 1 ≤ cap2
            · skip
              go_wp2_with (at_builtin; refine wpList_append_arg _ rfl _ _ 23 rfl 3 i0 (.int .i64 0) 1 8 Try.underlying23 hi0 hz0 hz1 hz2 rfl (by omega) g2 off2 q2 cap2 OLD rfl HOL.out HOC.out ⟨ws.heap.size, 0, none⟩ 1 1 [.int .i64 (U : Int)] rfl rfl (World.news_of_block (cs := #[.int .i64 (U : Int)]) (t := 3) (fr := (0, 0)) (heap_alloc_new ws _)) (by simp [Value.oneCell']) HSP.out (by simp only [maxLen]; omega) (by omega) (fun _ => ?_) (fun h => absurd h (by omega)); have HS9 := Lib.hid (HROOM.out hroom))
              go_roundw
              case rel => exact ⟨j + 1, _, R' ++ [(U : Int)], by omega, by go_num, HS9.out, HBM.out, HPM.out, HCM.out⟩
              case measure => simp [intOf]; omega
            · skip
              go_wp2_with (at_builtin; refine wpList_append_arg _ rfl _ _ 23 rfl 3 i0 (.int .i64 0) 1 8 Try.underlying23 hi0 hz0 hz1 hz2 rfl (by omega) g2 off2 q2 cap2 OLD rfl HOL.out HOC.out ⟨ws.heap.size, 0, none⟩ 1 1 [.int .i64 (U : Int)] rfl rfl (World.news_of_block (cs := #[.int .i64 (U : Int)]) (t := 3) (fr := (0, 0)) (heap_alloc_new ws _)) (by simp [Value.oneCell']) HSP.out (by simp only [maxLen]; omega) (by omega) (fun h => absurd h (by omega)) (fun _ v9 w9 hown9 hgrow9 => ?_); have HS9 := Lib.hid (HGROW.out v9 w9 hown9 hgrow9); clear hown9 hgrow9)
              go_roundw
              case rel => exact ⟨j + 1, _, R' ++ [(U : Int)], by omega, by go_num, HS9.out, HBM.out, HPM.out, HCM.out⟩
              case measure => simp [intOf]; omega
          · have d2 : decide (fU < 0) = false := decide_eq_false hneg
            have HPM : Hid (∀ y ∈ l.take (j + 1), 0 ≤ F'.getD y.toNat 0 ∧ F'.getD y.toNat 0 ≤ fX + 1) := fun y hy => by
              rw [HTK.out] at hy
              rcases List.mem_append.1 hy with h | h
              · exact HPT.out y h
              · rw [List.mem_singleton] at h
                rw [h, Int.toNat_natCast, HFU.out]
                have h1 := HB2.out.top U (by rw [HLN.out]; exact hUn) (X : Int) (by simp)
                rw [Int.toNat_natCast, HFU.out, HC2.out.1] at h1
                omega
            clear hneg
            go_wp2
            go_roundw
            case rel => exact ⟨j + 1, F', R', by omega, by go_num, HP2.out, HB2.out, HPM.out, HC2.out⟩
            case measure => simp [intOf]; omega
        · have hjm2 : ¬ (j : Int) < (m : Int) := by omega
          obtain rfl : m = j := by omega
          have HDR : Hid (Bfs ls W F' R') := HB2.out.drop (fun y hy => by
            rw [HC2.out.1]
            exact HPT.out y (by rw [List.take_of_length_le (by rw [HM5.out]; exact Nat.le_refl _)]; exact (HMEM.out y).2 hy))
          have hq22 : q2 = R'.length + 1 := by rw [← HQ2.out]; rfl
          have HCE : Hid (F'.count (-1) + R'.length + 1 = M0) := by
            have h2 := HC2.out.2
            simp only [List.length_cons] at h2
            show _ = _
            omega
          have HCW2 : Hid (cntM wr N n = F'.count (-1)) := cntM_eq HP2.out.len (HP2.out.oF.cells2).1
          have HTL := Lib.hid HP2.out.tail
          have HCE2 : Hid (F'.count (-1) + R'.length ≤ n) := by show _ ≤ _; have h1 := HCE.out; have h2 := HQN.out; omega
          have HMS : Hid (cntM wr N n + (q2 - 1) < cntM wa N n + q) := by
            show _ < _
            rw [HCW2.out, HCW.out]
            have h1 := HCE.out; have h2 := HM0.out
            omega
          have hqi2 : (1 : Int) ≤ (q2 : Int) := by omega
          have hqc3 : (1 : Int) ≤ (cap2 : Int) := by omega
          have hqc4 : (q2 : Int) ≤ (cap2 : Int) := by omega
          clear hq22
          by_cases hc1 : cap2 = 1
          · subst hc1
            obtain rfl : q2 = 1 := by omega
            rw [if_pos rfl] at HTL
            go_wp2
            go_roundw
            case rel => exact ⟨F', R', HTL.out, HDR.out, HCE2.out⟩
            case measure => exact HMS.out
          · have hc2 : ¬ (cap2 : Int) = 1 := by omega
            rw [if_neg hc1] at HTL
            go_wp2
            go_roundw
            case rel => exact ⟨F', R', HTL.out, HDR.out, HCE2.out⟩
            case measure => exact HMS.out
end Go.Proofs.Ytmejjeeobhapfaa
