/-
  Walk: the law DagBare returns true. Conditions: none.
-/
import Derived.Test.YtmejjeeobhapfaaDBareR
import Derived.Test.YtmejjeeobhapfaaDLNear
import Derived.Test.YtmejjeeobhapfaaDFar
import Derived.Test.YtmejjeeobhapfaaDMisc
namespace Go.Proofs.Ytmejjeeobhapfaa
open Go.RowKit
set_option linter.unusedVariables false
set_option linter.unusedSimpArgs false

set_option maxRecDepth 100000 in
set_option maxHeartbeats 2000000 in
theorem walk_dagbare (A : Option Addr) (n c : Nat) (ls : List (List Int))  (w : World) (hr : RdLL (fun _ => True) w A n ls) (hn : n ≤ 140737488355328) (hl : ∀ l ∈ ls, l.length ≤ 140737488355328) :
    Calls Try.prog 6 #[.slice A n c] w fun e w' => e = .returned (.bool true) ∧ Ext w w' := by
  have HR := Lib.hid hr
  have HLN : Hid (ls.length = n) := hr.len
  have HLG := Lib.hid (longW A n c ls w hr hn hl)
  have HLF := Lib.hid (longB_false hl)
  clear hr hl
  cases hb : longB ls with
  | true =>
    rw [hb] at HLG
    clear hb HR
    go_enter Try.func6, Try.ntmps6
    go_wp2_with fail
    refine HLG.out.mono ?_
    rintro e w1 ⟨rfl, rfl⟩
    go_wp2_with fail
    refine (knownW w).mono ?_
    rintro e w9 ⟨rfl, hx9⟩
    have HX9 := Lib.hid hx9
    clear hx9
    go_wp2
    (try rw [Exit.noGoto_ret])
    go_ret
    exact ⟨rfl, HX9.out⟩
  | false =>
    rw [hb] at HLG
    obtain ⟨h30, h100⟩ := HLF.out hb
    rw [HLN.out] at h30
    have H100 := Lib.hid h100
    clear hb HLF h100
    go_enter Try.func6, Try.ntmps6
    go_wp2_with fail
    refine HLG.out.mono ?_
    rintro e w1 ⟨rfl, rfl⟩
    go_wp2_with fail
    refine (newW A n c ls w HR.out (by omega) H100.out).mono ?_
    rintro e w1 ⟨hx1, ⟨hin, rfl⟩ | ⟨hin, hcy, rfl⟩ | ⟨hok, gb, rfl, hg⟩⟩
    · have HX1 := Lib.hid hx1
      clear hx1 hin
      go_wp2_with fail
      refine (knownW w1).mono ?_
      rintro e w9 ⟨rfl, hx9⟩
      have HX9 := Lib.hid hx9
      clear hx9
      go_wp2
      (try rw [Exit.noGoto_ret])
      go_ret
      exact ⟨rfl, HX1.out.trans' (HX9.out)⟩
    · have HX1 := Lib.hid hx1
      clear hx1 hin hcy
      go_wp2_with fail
      refine (knownW w1).mono ?_
      rintro e w9 ⟨rfl, hx9⟩
      have HX9 := Lib.hid hx9
      clear hx9
      go_wp2
      (try rw [Exit.noGoto_ret])
      go_ret
      exact ⟨rfl, HX1.out.trans' (HX9.out)⟩
    · have HX1 := Lib.hid hx1
      have HIN : Hid (inRg ls.length ls = true) := hok.1
      have HOKG := Lib.hid hok
      rw [HLN.out] at hg
      have HG1 := Lib.hid hg
      clear hx1 hok hg
      have HL1 : Hid (∀ l ∈ ls, l.length ≤ 1000000) := fun l hl => by have := len_le_tot hl; have := H100.out; omega
      have HBE := Lib.hid (bef_ok H100.out HIN.out)
      have HHE := Lib.hid (beh_ok H100.out HIN.out)
      rw [HLN.out] at HBE HHE
      have HBL : Hid ((brs ls).length = n) := by show _ = _; rw [brs_len, HLN.out]
      have HBT : Hid (tot (brs ls) ≤ 100) := by
        show _ ≤ _
        have h1 := tot_bare (befG ls); have h2 := tot_bef ls; have h3 := H100.out
        show tot (bareG (befG ls)) ≤ 100
        omega
      have HBE1 : Hid (∀ l ∈ befG ls, l.length ≤ 100 ∧ Rng ls.length l) := bef_ok H100.out HIN.out
      have HBO : Hid (okG (brs ls)) := brs_ok HOKG.out H100.out
      have HBR : Hid (∀ l ∈ brs ls, l.length ≤ 1000000) := fun l hl => by have := len_le_tot hl; have := HBT.out; omega
      have HBEQ : Hid (bareR ls = brs ls) := (bare_eq HIN.out HBE1.out).symm
      have HTW : Hid (bareG (befG (brs ls)) = brs ls) := brs_twice HOKG.out H100.out HBE1.out
      have HFR : Hid (∀ l, cloG (befG (brs ls)) l = cloG (befG ls) l) := brs_far HOKG.out H100.out HBE1.out
      have HBE2 : Hid (∀ l ∈ befG (brs ls), l.length ≤ 100 ∧ Rng n l) := by
        have := bef_ok HBT.out (brs_rng HIN.out); rwa [HBL.out] at this
      go_wp2_with fail
      refine (bareW gb n _ _ _ w1 HG1.out (by omega) HBE.out).mono ?_
      rintro e w2 ⟨A2, c2, rfl, hr2, hx2⟩
      obtain ⟨bb, HBB⟩ : ∃ bb, Hid (brs ls = bb) := ⟨_, rfl⟩
      have hbb : bareG (befG ls) = bb := HBB.out
      rw [hbb] at hr2 ⊢
      rw [HBB.out] at HBL HBT HBO HBR HBEQ HTW HFR HBE2
      rw [HBL.out] at hr2 ⊢
      have HR2 := Lib.hid hr2
      have HX2 : Hid (Ext w w2) := HX1.out.trans' hx2
      have HG2 := Lib.hid (HG1.out.ext hx2)
      clear hbb hr2 hx2
      go_wp2_with fail
      refine (newW A2 n c2 bb w2 HR2.out (by omega) HBT.out).mono ?_
      rintro e w3 ⟨hx3, ⟨hin, -⟩ | ⟨-, hcy, -⟩ | ⟨-, gh, rfl, hg3⟩⟩
      · exact absurd HBO.out.1 (by rw [hin]; simp)
      · exact absurd HBO.out.2 hcy
      rw [HBL.out] at hg3
      have HX3 : Hid (Ext w w3) := HX2.out.trans' hx3
      have HG3 := Lib.hid (HG2.out.ext hx3)
      have HH3 := Lib.hid hg3
      replace HR2 := Lib.hid (HR2.out.ext hx3)
      clear hx3 hg3
      go_wp2_with fail
      refine (refBareW A n c ls w3 (HR.out.ext HX3.out) (by omega) HL1.out).mono ?_
      rintro e w4 ⟨A4, c4, rfl, hr4, hx4⟩
      rw [HBEQ.out] at hr4 ⊢
      rw [HBL.out] at hr4 ⊢
      have HR4 := Lib.hid hr4
      have HX4 : Hid (Ext w w4) := HX3.out.trans' hx4
      have HG4 := Lib.hid (HG3.out.ext hx4)
      have HH4 := Lib.hid (HH3.out.ext hx4)
      replace HR2 := Lib.hid (HR2.out.ext hx4)
      clear hr4 hx4
      go_wp2_with fail
      refine (refSameLT A2 A4 n c2 c4 bb w4 HR2.out HR4.out (by omega) HBR.out).mono ?_
      rintro e w5 ⟨rfl, hx5⟩
      have HX5 : Hid (Ext w w5) := HX4.out.trans' hx5
      have HG5 := Lib.hid (HG4.out.ext hx5)
      have HH5 := Lib.hid (HH4.out.ext hx5)
      replace HR2 := Lib.hid (HR2.out.ext hx5)
      clear hx5
      go_wp2
      go_loopw [8] (fun i wr => ∃ v : Nat, v ≤ n ∧ i = .int .i64 v ∧ Hid (Ext w5 wr)) (fun i _ => n - (intOf i).toNat)
      case atStart => exact ⟨0, by omega, rfl, Ext.rfl'⟩
      case round =>
        obtain ⟨V, hV, rfl, HXC⟩ := hrel
        by_cases hVn : V < n
        · have hVn2 : (V : Int) < (n : Int) := by omega
          have hV0 : (0 : Int) ≤ (V : Int) := Int.natCast_nonneg _
          go_wp2_with fail
          have hxa : Ext wr (wr.alloc (.cells #[.int .i64 (V : Int)] 3)) := Ext.rfl'.alloc (Nat.le_refl _) _
          refine (aboveG gh n 1 1 (some ⟨wr.heap.size, 0, none⟩) _ _ _ [(V : Int)] _ (HH5.out.ext (HXC.out.trans' hxa)) (rdI_lit wr [(V : Int)] rfl rfl (by omega)) (by omega) (by omega) HBE2.out).mono ?_
          rintro e wD ⟨v3, rfl, ho3, hx3⟩
          rw [HFR.out] at ho3
          obtain ⟨fs, HFS⟩ : ∃ fs, Hid (cloG (befG ls) [(V : Int)] = fs) := ⟨_, rfl⟩
          have HFL : Hid (fs.length ≤ 1000) := by
            show _ ≤ _
            rw [← HFS.out, cloG]
            have := numsK_len (fun i => (cloS (befG ls) [(V : Int)]).getD i false) (befG ls).length
            have h2 := befG_len ls; have h3 := HLN.out; omega
          rw [HFS.out] at ho3
          obtain ⟨p, HP⟩ : ∃ p, Hid (fs.length = p) := ⟨_, rfl⟩
          have hsl3 := ho3.slice
          rw [HP.out] at hsl3
          obtain ⟨A3, c3, rfl, _, hr3⟩ := hsl3
          have HR3 := Lib.hid hr3
          have HXD : Hid (Ext w5 wD) := HXC.out.trans' (hxa.trans' hx3)
          clear ho3 hr3 hx3 hxa
          go_wp2_with fail
          have hxa : Ext wD (wD.alloc (.cells #[.int .i64 (V : Int)] 3)) := Ext.rfl'.alloc (Nat.le_refl _) _
          refine (aboveG gb n 1 1 (some ⟨wD.heap.size, 0, none⟩) _ _ _ [(V : Int)] _ (HG5.out.ext (HXD.out.trans' hxa)) (rdI_lit wD [(V : Int)] rfl rfl (by omega)) (by omega) (by omega) HBE.out).mono ?_
          rintro e wE ⟨v4, rfl, ho4, hx4⟩
          rw [HFS.out] at ho4
          have hsl4 := ho4.slice
          rw [HP.out] at hsl4
          obtain ⟨A5, c5, rfl, _, hr5⟩ := hsl4
          have HR5 := Lib.hid hr5
          replace HR3 := Lib.hid (HR3.out.ext (hxa.trans' hx4))
          have HXE : Hid (Ext w5 wE) := HXD.out.trans' (hxa.trans' hx4)
          have hp1000 : p ≤ 1000 := by rw [← HP.out]; exact HFL.out
          clear ho4 hr5 hx4 hxa
          go_wp2_with fail
          refine (refSameIT A3 A5 p c3 p c5 fs wE HR3.out HR5.out (by omega) (by omega)).mono ?_
          rintro e wF ⟨rfl, hx6⟩
          have HXF : Hid (Ext w5 wF) := HXE.out.trans' hx6
          clear hx6
          go_wp2
          go_roundw
          case rel => exact ⟨V + 1, by omega, by go_num, HXF.out⟩
          case measure => simp [intOf]; omega
        · have hVn2 : ¬ (V : Int) < (n : Int) := by omega
          have HXG : Hid (Ext w wr) := HX5.out.trans' HXC.out
          have HHG := Lib.hid (HH5.out.ext HXC.out)
          replace HR2 := Lib.hid (HR2.out.ext HXC.out)
          go_wp2_with fail
          refine (bareW gh n _ _ _ wr HHG.out (by omega) HBE2.out).mono ?_
          rintro e w6 ⟨A6, c6, rfl, hr6, hx6⟩
          rw [HTW.out] at hr6 ⊢
          rw [HBL.out] at hr6 ⊢
          have HR6 := Lib.hid hr6
          have HX6 : Hid (Ext w w6) := HXG.out.trans' hx6
          replace HR2 := Lib.hid (HR2.out.ext hx6)
          clear hr6 hx6
          go_wp2_with fail
          refine (refSameLT A6 A2 n c6 c2 bb w6 HR6.out HR2.out (by omega) HBR.out).mono ?_
          rintro e w7 ⟨rfl, hx7⟩
          have HX7 : Hid (Ext w w7) := HX6.out.trans' hx7
          clear hx7
          go_wp2_with fail
          refine (knownW w7).mono ?_
          rintro e w9 ⟨rfl, hx9⟩
          have HX9 := Lib.hid hx9
          clear hx9
          go_wp2
          (try rw [Exit.noGoto_ret])
          go_ret
          exact ⟨rfl, HX7.out.trans' (HX9.out)⟩
end Go.Proofs.Ytmejjeeobhapfaa
