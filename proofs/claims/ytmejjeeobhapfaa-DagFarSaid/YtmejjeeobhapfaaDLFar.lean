/-
  Walk: the law DagFar returns true. Conditions: none.
-/
import Derived.Test.YtmejjeeobhapfaaDFar
import Derived.Test.YtmejjeeobhapfaaDLNear
namespace Go.Proofs.Ytmejjeeobhapfaa
open Go.RowKit
set_option linter.unusedVariables false
set_option linter.unusedSimpArgs false

set_option maxRecDepth 100000 in
set_option maxHeartbeats 2000000 in
theorem walk_dagfar (A : Option Addr) (n c : Nat) (ls : List (List Int)) (L : Option Addr) (m cl : Nat) (l : List Int) (w : World) (hr : RdLL (fun _ => True) w A n ls) (hn : n ≤ 140737488355328) (hl : ∀ l ∈ ls, l.length ≤ 140737488355328) (hL : RdI w L m l) :
    Calls Try.prog 3 #[.slice A n c, .slice L m cl] w fun e w' => e = .returned (.bool true) ∧ Ext w w' := by
  have HR := Lib.hid hr
  have HLN : Hid (ls.length = n) := hr.len
  have HLG := Lib.hid (longW A n c ls w hr hn hl)
  have HLF := Lib.hid (longB_false hl)
  have HL := Lib.hid hL
  clear hr hl hL
  cases hb : longB ls with
  | true =>
    rw [hb] at HLG
    clear hb HR
    go_enter Try.func3, Try.ntmps3
    go_wp2_with fail
    refine HLG.out.mono ?_
    rintro e w1 ⟨rfl, rfl⟩
    go_wp2_with fail
    refine (knownW w).mono ?_
    rintro e w9 ⟨rfl, hx9⟩
    have HX9 := Lib.hid hx9
    clear hx9
    go_wp2
    (try rw [Exit.noGoto_ret])
    go_ret
    exact ⟨rfl, HX9.out⟩
  | false =>
    rw [hb] at HLG
    obtain ⟨h30, h100⟩ := HLF.out hb
    rw [HLN.out] at h30
    by_cases hm : m ≤ 30
    case neg =>
      have dm : decide ((m : Int) > 30) = true := decide_eq_true (by omega)
      clear hb HLF h100 h30 HR HL
      go_enter Try.func3, Try.ntmps3
      go_wp2_with fail
      refine HLG.out.mono ?_
      rintro e w1 ⟨rfl, rfl⟩
      go_wp2_with fail
      refine (knownW w).mono ?_
      rintro e w9 ⟨rfl, hx9⟩
      have HX9 := Lib.hid hx9
      clear hx9
      go_wp2
      (try rw [Exit.noGoto_ret])
      go_ret
      exact ⟨rfl, HX9.out⟩
    have dm : decide ((m : Int) > 30) = false := decide_eq_false (by omega)
    have H100 := Lib.hid h100
    clear hb HLF h100
    go_enter Try.func3, Try.ntmps3
    go_wp2_with fail
    refine HLG.out.mono ?_
    rintro e w1 ⟨rfl, rfl⟩
    go_wp2_with fail
    refine (newW A n c ls w HR.out (by omega) H100.out).mono ?_
    rintro e w1 ⟨hx1, ⟨hin, rfl⟩ | ⟨hin, hcy, rfl⟩ | ⟨hok, gb, rfl, hg⟩⟩
    · have HX1 := Lib.hid hx1
      clear hx1 hin
      go_wp2_with fail
      refine (knownW w1).mono ?_
      rintro e w9 ⟨rfl, hx9⟩
      have HX9 := Lib.hid hx9
      clear hx9
      go_wp2
      (try rw [Exit.noGoto_ret])
      go_ret
      exact ⟨rfl, HX1.out.trans' (HX9.out)⟩
    · have HX1 := Lib.hid hx1
      clear hx1 hin hcy
      go_wp2_with fail
      refine (knownW w1).mono ?_
      rintro e w9 ⟨rfl, hx9⟩
      have HX9 := Lib.hid hx9
      clear hx9
      go_wp2
      (try rw [Exit.noGoto_ret])
      go_ret
      exact ⟨rfl, HX1.out.trans' (HX9.out)⟩
    · have HX1 := Lib.hid hx1
      have HIN : Hid (inRg ls.length ls = true) := hok.1
      have HOKG := Lib.hid hok
      rw [HLN.out] at hg
      have HG1 := Lib.hid hg
      clear hx1 hok hg
      have HL1 : Hid (∀ l ∈ ls, l.length ≤ 1000000) := fun l hl => by have := len_le_tot hl; have := H100.out; omega
      have HBE := Lib.hid (bef_ok H100.out HIN.out)
      have HHE := Lib.hid (beh_ok H100.out HIN.out)
      rw [HLN.out] at HBE HHE
      have HF1 : Hid (cloG (befG ls) l = farT ls l true) := far_above HIN.out (by rw [HLN.out]; exact HBE.out) l
      have HF2 : Hid (cloG (behG ls) l = farT ls l false) := far_below HIN.out (by rw [HLN.out]; exact HHE.out) l
      have HQ : Hid (∀ b, (farT ls l b).length ≤ 1000) := fun b => by have := numsK_len (fun u => l.any (farQ ls b u)) ls.length; rw [farT_eq]; have := HLN.out; omega
      go_wp2_with fail
      refine (aboveG gb n m cl L _ _ _ l w1 HG1.out (HL.out.ext HX1.out) (by omega) (by omega) HBE.out).mono ?_
      rintro e w2 ⟨v2, rfl, ho2, hx2⟩
      rw [HF1.out] at ho2
      obtain ⟨A2, c2, rfl, _, hr2⟩ := ho2.slice
      have HR2 := Lib.hid hr2
      have HX2 : Hid (Ext w w2) := HX1.out.trans' hx2
      have HG2 := Lib.hid (HG1.out.ext hx2)
      clear ho2 hr2 hx2
      go_wp2_with fail
      refine (refFarW A L n c m cl ls l true w2 (HR.out.ext HX2.out) (HL.out.ext HX2.out) (by omega) (by omega) HL1.out).mono ?_
      rintro e w3 ⟨v3, rfl, ho3, hx3⟩
      obtain ⟨A3, c3, rfl, _, hr3⟩ := ho3.slice
      have HR3 := Lib.hid hr3
      replace HR2 := Lib.hid (HR2.out.ext hx3)
      have HX3 : Hid (Ext w w3) := HX2.out.trans' hx3
      have HG3 := Lib.hid (HG2.out.ext hx3)
      clear ho3 hr3 hx3
      go_wp2_with fail
      refine (refSameIT A2 A3 _ c2 _ c3 (farT ls l true) w3 HR2.out HR3.out (by have := HQ.out true; omega) (by have := HQ.out true; omega)).mono ?_
      rintro e w4 ⟨rfl, hx4⟩
      have HX4 : Hid (Ext w w4) := HX3.out.trans' hx4
      have HG4 := Lib.hid (HG3.out.ext hx4)
      clear hx4
      go_wp2_with fail
      refine (belowG gb n m cl L _ _ _ l w4 HG4.out (HL.out.ext HX4.out) (by omega) (by omega) HHE.out).mono ?_
      rintro e w5 ⟨v5, rfl, ho5, hx5⟩
      rw [HF2.out] at ho5
      obtain ⟨A5, c5, rfl, _, hr5⟩ := ho5.slice
      have HR5 := Lib.hid hr5
      have HX5 : Hid (Ext w w5) := HX4.out.trans' hx5
      clear ho5 hr5 hx5
      go_wp2_with fail
      refine (refFarW A L n c m cl ls l false w5 (HR.out.ext HX5.out) (HL.out.ext HX5.out) (by omega) (by omega) HL1.out).mono ?_
      rintro e w6 ⟨v6, rfl, ho6, hx6⟩
      obtain ⟨A6, c6, rfl, _, hr6⟩ := ho6.slice
      have HR6 := Lib.hid hr6
      replace HR5 := Lib.hid (HR5.out.ext hx6)
      have HX6 : Hid (Ext w w6) := HX5.out.trans' hx6
      clear ho6 hr6 hx6
      go_wp2_with fail
      refine (refSameIT A5 A6 _ c5 _ c6 (farT ls l false) w6 HR5.out HR6.out (by have := HQ.out false; omega) (by have := HQ.out false; omega)).mono ?_
      rintro e w7 ⟨rfl, hx7⟩
      have HX7 : Hid (Ext w w7) := HX6.out.trans' hx7
      clear hx7
      go_wp2_with fail
      refine (knownW w7).mono ?_
      rintro e w9 ⟨rfl, hx9⟩
      have HX9 := Lib.hid hx9
      clear hx9
      go_wp2
      (try rw [Exit.noGoto_ret])
      go_ret
      exact ⟨rfl, HX7.out.trans' (HX9.out)⟩
end Go.Proofs.Ytmejjeeobhapfaa
