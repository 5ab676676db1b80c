/-
  Walk: the law DagBoth returns true. Conditions: none.
-/
import Derived.Test.YtmejjeeobhapfaaDBothP
import Derived.Test.YtmejjeeobhapfaaDPath
import Derived.Test.YtmejjeeobhapfaaDLNear
import Derived.Test.YtmejjeeobhapfaaDFar
import Derived.Test.YtmejjeeobhapfaaDMisc
namespace Go.Proofs.Ytmejjeeobhapfaa
open Go.RowKit
set_option linter.unusedVariables false
set_option linter.unusedSimpArgs false

set_option maxRecDepth 100000 in
set_option maxHeartbeats 2000000 in
theorem walk_dagboth (A : Option Addr) (n c : Nat) (ls : List (List Int)) (v u : Int) (w : World) (hr : RdLL (fun _ => True) w A n ls) (hn : n ≤ 140737488355328) (hl : ∀ l ∈ ls, l.length ≤ 140737488355328) :
    Calls Try.prog 8 #[.slice A n c, .int .i64 v, .int .i64 u] w fun e w' => e = .returned (.bool true) ∧ Ext w w' := by
  have HR := Lib.hid hr
  have HLN : Hid (ls.length = n) := hr.len
  have HLG := Lib.hid (longW A n c ls w hr hn hl)
  have HLF := Lib.hid (longB_false hl)
  clear hr hl
  cases hb : longB ls with
  | true =>
    rw [hb] at HLG
    clear hb HR
    go_enter Try.func8, Try.ntmps8
    go_wp2_with fail
    refine HLG.out.mono ?_
    rintro e w1 ⟨rfl, rfl⟩
    go_wp2_with fail
    refine (knownW w).mono ?_
    rintro e w9 ⟨rfl, hx9⟩
    have HX9 := Lib.hid hx9
    clear hx9
    go_wp2
    (try rw [Exit.noGoto_ret])
    go_ret
    exact ⟨rfl, HX9.out⟩
  | false =>
    rw [hb] at HLG
    obtain ⟨h30, h100⟩ := HLF.out hb
    rw [HLN.out] at h30
    have H100 := Lib.hid h100
    clear hb HLF h100
    go_enter Try.func8, Try.ntmps8
    go_wp2_with fail
    refine HLG.out.mono ?_
    rintro e w1 ⟨rfl, rfl⟩
    go_wp2_with fail
    refine (newW A n c ls w HR.out (by omega) H100.out).mono ?_
    rintro e w1 ⟨hx1, ⟨hin, rfl⟩ | ⟨hin, hcy, rfl⟩ | ⟨hok, gb, rfl, hg⟩⟩
    · have HX1 := Lib.hid hx1
      clear hx1 hin
      go_wp2_with fail
      refine (knownW w1).mono ?_
      rintro e w9 ⟨rfl, hx9⟩
      have HX9 := Lib.hid hx9
      clear hx9
      go_wp2
      (try rw [Exit.noGoto_ret])
      go_ret
      exact ⟨rfl, HX1.out.trans' (HX9.out)⟩
    · have HX1 := Lib.hid hx1
      clear hx1 hin hcy
      go_wp2_with fail
      refine (knownW w1).mono ?_
      rintro e w9 ⟨rfl, hx9⟩
      have HX9 := Lib.hid hx9
      clear hx9
      go_wp2
      (try rw [Exit.noGoto_ret])
      go_ret
      exact ⟨rfl, HX1.out.trans' (HX9.out)⟩
    · have HX1 := Lib.hid hx1
      have HIN : Hid (inRg ls.length ls = true) := hok.1
      have HOKG := Lib.hid hok
      rw [HLN.out] at hg
      have HG1 := Lib.hid hg
      clear hx1 hok hg
      have HL1 : Hid (∀ l ∈ ls, l.length ≤ 1000000) := fun l hl => by have := len_le_tot hl; have := H100.out; omega
      have HBE := Lib.hid (bef_ok H100.out HIN.out)
      have HHE := Lib.hid (beh_ok H100.out HIN.out)
      rw [HLN.out] at HBE HHE
      have HLB := Lib.hid HBE.out
      by_cases hv0 : v < 0
      · have d0 : decide (v < 0) = true := decide_eq_true hv0
        go_wp2_with fail
        refine (knownW w1).mono ?_
        rintro e w9 ⟨rfl, hx9⟩
        have HX9 := Lib.hid hx9
        clear hx9
        go_wp2
        (try rw [Exit.noGoto_ret])
        go_ret
        exact ⟨rfl, HX1.out.trans' (HX9.out)⟩
      have d0 : decide (v < 0) = false := decide_eq_false hv0
      by_cases hu0 : u < 0
      · have d1 : decide (u < 0) = true := decide_eq_true hu0
        go_wp2_with fail
        refine (knownW w1).mono ?_
        rintro e w9 ⟨rfl, hx9⟩
        have HX9 := Lib.hid hx9
        clear hx9
        go_wp2
        (try rw [Exit.noGoto_ret])
        go_ret
        exact ⟨rfl, HX1.out.trans' (HX9.out)⟩
      have d1 : decide (u < 0) = false := decide_eq_false hu0
      by_cases hvn : v ≥ (n : Int)
      · have d2 : decide (v ≥ (n : Int)) = true := decide_eq_true hvn
        go_wp2_with fail
        refine (knownW w1).mono ?_
        rintro e w9 ⟨rfl, hx9⟩
        have HX9 := Lib.hid hx9
        clear hx9
        go_wp2
        (try rw [Exit.noGoto_ret])
        go_ret
        exact ⟨rfl, HX1.out.trans' (HX9.out)⟩
      have d2 : decide (v ≥ (n : Int)) = false := decide_eq_false hvn
      by_cases hun : u ≥ (n : Int)
      · have d3 : decide (u ≥ (n : Int)) = true := decide_eq_true hun
        go_wp2_with fail
        refine (knownW w1).mono ?_
        rintro e w9 ⟨rfl, hx9⟩
        have HX9 := Lib.hid hx9
        clear hx9
        go_wp2
        (try rw [Exit.noGoto_ret])
        go_ret
        exact ⟨rfl, HX1.out.trans' (HX9.out)⟩
      have d3 : decide (u ≥ (n : Int)) = false := decide_eq_false hun
      obtain ⟨V, rfl⟩ : ∃ V : Nat, v = (V : Int) := ⟨v.toNat, by omega⟩
      obtain ⟨W, rfl⟩ : ∃ W : Nat, u = (W : Int) := ⟨u.toNat, by omega⟩
      have hVn : V < n := by omega
      have hWn : W < n := by omega
      clear hv0 hu0 hvn hun
      have HST := Lib.hid (stands HOKG.out H100.out)
      have HBE0 : Hid (∀ r ∈ befG ls, r.length ≤ 100 ∧ Rng ls.length r) := by rw [HLN.out]; exact HBE.out
      have HHE0 : Hid (∀ r ∈ behG ls, r.length ≤ 100 ∧ Rng ls.length r) := by rw [HLN.out]; exact HHE.out
      obtain ⟨a, HA⟩ : ∃ a, Hid (decide ((V : Int) ∈ cloG (befG ls) [(W : Int)]) = a) := ⟨_, rfl⟩
      have HAB : Hid (decide ((W : Int) ∈ cloG (behG ls) [(V : Int)]) = a) := by
        show _ = _
        rw [← HA.out, decide_eq_decide, above_iff HIN.out HBE0.out (by rw [HLN.out]; exact hVn) (by rw [HLN.out]; exact hWn), below_iff HIN.out HHE0.out (by rw [HLN.out]; exact hVn) (by rw [HLN.out]; exact hWn)]
      have HNS : Hid (decide ((V : Int) ∈ cloG (befG ls) [(V : Int)]) = false) := by
        show _ = _
        rw [decide_eq_false_iff_not, above_iff HIN.out HBE0.out (by rw [HLN.out]; exact hVn) (by rw [HLN.out]; exact hVn)]
        exact HST.out.no_self V
      obtain ⟨pl, HPL⟩ : ∃ pl, Hid (pathT ls V W = pl) := ⟨_, rfl⟩
      have HPF : Hid ((1 < pl.length ↔ a = true) ∧ (pl.length = 1 ↔ V = W) ∧ pl.length ≤ ls.length + 1) := by
        have h := path_len HIN.out HST.out HOKG.out.2 (v := V) (w := W) (by rw [HLN.out]; exact hVn) (by rw [HLN.out]; exact hWn)
        rw [HPL.out, ← above_iff HIN.out HBE0.out (by rw [HLN.out]; exact hVn) (by rw [HLN.out]; exact hWn)] at h
        exact ⟨by rw [h.1, ← HA.out, decide_eq_true_eq], h.2⟩
      obtain ⟨pn, HPN⟩ : ∃ pn, Hid (pl.length = pn) := ⟨_, rfl⟩
      rw [HPN.out] at HPF
      have dl1 : decide ((pn : Int) > 1) = a := by
        rw [Bool.eq_iff_iff, decide_eq_true_eq, ← HPF.out.1]; omega
      have dl2 : ((pn : Int) == 1) = decide (V = W) := by
        rw [Bool.eq_iff_iff, beq_iff_eq, decide_eq_true_eq, ← HPF.out.2.1]; omega
      have dl3 : ((V : Int) == (W : Int)) = decide (V = W) := by
        rw [Bool.eq_iff_iff, beq_iff_eq, decide_eq_true_eq]; omega
      obtain ⟨vw, HVW⟩ : ∃ vw, Hid (decide (V = W) = vw) := ⟨_, rfl⟩
      rw [HVW.out] at dl2 dl3
      have daa : (a == a) = true := by simp
      have dvv : (vw == vw) = true := by simp
      go_wp2_with fail
      have hxa : Ext w1 (w1.alloc (.cells #[.int .i64 (W : Int)] 3)) := Ext.rfl'.alloc (Nat.le_refl _) _
      refine (aboveG gb n 1 1 (some ⟨w1.heap.size, 0, none⟩) _ _ _ [(W : Int)] _ (HG1.out.ext hxa) (rdI_lit w1 [(W : Int)] rfl rfl (by omega)) (by omega) (by omega) HBE.out).mono ?_
      rintro e w2 ⟨v2, rfl, ho2, hx2⟩
      obtain ⟨p2, HP2⟩ : ∃ p, Hid ((cloG (befG ls) [(W : Int)]).length = p) := ⟨_, rfl⟩
      have hp2 : p2 ≤ 1000 := by
        rw [← HP2.out, cloG]
        have := numsK_len (fun i => (cloS (befG ls) [(W : Int)]).getD i false) (befG ls).length
        have h2 := befG_len ls; have h3 := HLN.out; omega
      have hsl2 := ho2.slice
      rw [HP2.out] at hsl2
      obtain ⟨A2, c2, rfl, _, hr2⟩ := hsl2
      have HR2 := Lib.hid hr2
      have HX2 := Lib.hid (hxa.trans' hx2)
      clear ho2 hr2 hx2 hxa
      have HX2' : Hid (Ext w w2) := HX1.out.trans' HX2.out
      have HG2 := Lib.hid (HG1.out.ext HX2.out)
      go_wp2_with fail
      refine (refHas5V HA.out A2 p2 c2 w2 HR2.out (by omega)).mono ?_
      rintro e w3 ⟨rfl, rfl⟩
      go_wp2_with fail
      have hxa : Ext w2 (w2.alloc (.cells #[.int .i64 (V : Int)] 3)) := Ext.rfl'.alloc (Nat.le_refl _) _
      refine (belowG gb n 1 1 (some ⟨w2.heap.size, 0, none⟩) _ _ _ [(V : Int)] _ (HG2.out.ext hxa) (rdI_lit w2 [(V : Int)] rfl rfl (by omega)) (by omega) (by omega) HHE.out).mono ?_
      rintro e w3 ⟨v3, rfl, ho3, hx3⟩
      obtain ⟨p3, HP3⟩ : ∃ p, Hid ((cloG (behG ls) [(V : Int)]).length = p) := ⟨_, rfl⟩
      have hp3 : p3 ≤ 1000 := by
        rw [← HP3.out, cloG]
        have := numsK_len (fun i => (cloS (behG ls) [(V : Int)]).getD i false) (behG ls).length
        have h2 := behG_len ls; have h3 := HLN.out; omega
      have hsl3 := ho3.slice
      rw [HP3.out] at hsl3
      obtain ⟨A3, c3, rfl, _, hr3⟩ := hsl3
      have HR3 := Lib.hid hr3
      have HX3 := Lib.hid (hxa.trans' hx3)
      clear ho3 hr3 hx3 hxa
      have HX3' : Hid (Ext w w3) := HX2'.out.trans' HX3.out
      have HG3 := Lib.hid (HG2.out.ext HX3.out)
      go_wp2_with fail
      refine (refHas5V HAB.out A3 p3 c3 w3 HR3.out (by omega)).mono ?_
      rintro e w4 ⟨rfl, rfl⟩
      go_wp2_with fail
      refine (pathW gb n ls V W w3 HG3.out HOKG.out H100.out HLN.out (by omega) HBE.out HHE.out).mono ?_
      rintro e w5 ⟨v5, rfl, ho5, hx5⟩
      rw [HPL.out] at ho5
      obtain ⟨A5, c5, hv5, _, _⟩ := ho5.slice
      rw [HPN.out] at hv5
      subst hv5
      have HX5' : Hid (Ext w w5) := HX3'.out.trans' hx5
      have HG5 := Lib.hid (HG3.out.ext hx5)
      clear ho5 hx5
      go_wp2_with fail
      have hxa : Ext w5 (w5.alloc (.cells #[.int .i64 (V : Int)] 3)) := Ext.rfl'.alloc (Nat.le_refl _) _
      refine (aboveG gb n 1 1 (some ⟨w5.heap.size, 0, none⟩) _ _ _ [(V : Int)] _ (HG5.out.ext hxa) (rdI_lit w5 [(V : Int)] rfl rfl (by omega)) (by omega) (by omega) HBE.out).mono ?_
      rintro e w6 ⟨v6, rfl, ho6, hx6⟩
      obtain ⟨p6, HP6⟩ : ∃ p, Hid ((cloG (befG ls) [(V : Int)]).length = p) := ⟨_, rfl⟩
      have hp6 : p6 ≤ 1000 := by
        rw [← HP6.out, cloG]
        have := numsK_len (fun i => (cloS (befG ls) [(V : Int)]).getD i false) (befG ls).length
        have h2 := befG_len ls; have h3 := HLN.out; omega
      have hsl6 := ho6.slice
      rw [HP6.out] at hsl6
      obtain ⟨A6, c6, rfl, _, hr6⟩ := hsl6
      have HR6 := Lib.hid hr6
      have HX6 := Lib.hid (hxa.trans' hx6)
      clear ho6 hr6 hx6 hxa
      have HX6' : Hid (Ext w w6) := HX5'.out.trans' HX6.out
      go_wp2_with fail
      refine (refHas5V HNS.out A6 p6 c6 w6 HR6.out (by omega)).mono ?_
      rintro e w7 ⟨rfl, rfl⟩
      go_wp2_with fail
      refine (knownW w6).mono ?_
      rintro e w9 ⟨rfl, hx9⟩
      have HX9 := Lib.hid hx9
      clear hx9
      go_wp2
      (try rw [Exit.noGoto_ret])
      go_ret
      exact ⟨rfl, HX6'.out.trans' (HX9.out)⟩
end Go.Proofs.Ytmejjeeobhapfaa
