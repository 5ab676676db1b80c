/-
  Walk: the law DagPaths returns true. Conditions: none.
-/
import Derived.Test.YtmejjeeobhapfaaDPathR
import Derived.Test.YtmejjeeobhapfaaDPath
import Derived.Test.YtmejjeeobhapfaaDLNear
import Derived.Test.YtmejjeeobhapfaaDMisc
import Derived.Test.YtmejjeeobhapfaaDSame
namespace Go.Proofs.Ytmejjeeobhapfaa
open Go.RowKit
set_option linter.unusedVariables false
set_option linter.unusedSimpArgs false

set_option maxRecDepth 100000 in
set_option maxHeartbeats 2000000 in
theorem walk_dagpaths (A : Option Addr) (n c : Nat) (ls : List (List Int)) (v u : Int) (w : World) (hr : RdLL (fun _ => True) w A n ls) (hn : n ≤ 140737488355328) (hl : ∀ l ∈ ls, l.length ≤ 140737488355328) :
    Calls Try.prog 7 #[.slice A n c, .int .i64 v, .int .i64 u] w fun e w' => e = .returned (.bool true) ∧ Ext w w' := by
  have HR := Lib.hid hr
  have HLN : Hid (ls.length = n) := hr.len
  have HLG := Lib.hid (longW A n c ls w hr hn hl)
  have HLF := Lib.hid (longB_false hl)
  clear hr hl
  cases hb : longB ls with
  | true =>
    rw [hb] at HLG
    clear hb HR
    go_enter Try.func7, Try.ntmps7
    go_wp2_with fail
    refine HLG.out.mono ?_
    rintro e w1 ⟨rfl, rfl⟩
    go_wp2_with fail
    refine (knownW w).mono ?_
    rintro e w9 ⟨rfl, hx9⟩
    have HX9 := Lib.hid hx9
    clear hx9
    go_wp2
    (try rw [Exit.noGoto_ret])
    go_ret
    exact ⟨rfl, HX9.out⟩
  | false =>
    rw [hb] at HLG
    obtain ⟨h30, h100⟩ := HLF.out hb
    rw [HLN.out] at h30
    have H100 := Lib.hid h100
    clear hb HLF h100
    go_enter Try.func7, Try.ntmps7
    go_wp2_with fail
    refine HLG.out.mono ?_
    rintro e w1 ⟨rfl, rfl⟩
    go_wp2_with fail
    refine (newW A n c ls w HR.out (by omega) H100.out).mono ?_
    rintro e w1 ⟨hx1, ⟨hin, rfl⟩ | ⟨hin, hcy, rfl⟩ | ⟨hok, gb, rfl, hg⟩⟩
    · have HX1 := Lib.hid hx1
      clear hx1 hin
      go_wp2_with fail
      refine (knownW w1).mono ?_
      rintro e w9 ⟨rfl, hx9⟩
      have HX9 := Lib.hid hx9
      clear hx9
      go_wp2
      (try rw [Exit.noGoto_ret])
      go_ret
      exact ⟨rfl, HX1.out.trans' (HX9.out)⟩
    · have HX1 := Lib.hid hx1
      clear hx1 hin hcy
      go_wp2_with fail
      refine (knownW w1).mono ?_
      rintro e w9 ⟨rfl, hx9⟩
      have HX9 := Lib.hid hx9
      clear hx9
      go_wp2
      (try rw [Exit.noGoto_ret])
      go_ret
      exact ⟨rfl, HX1.out.trans' (HX9.out)⟩
    · have HX1 := Lib.hid hx1
      have HIN : Hid (inRg ls.length ls = true) := hok.1
      have HOKG := Lib.hid hok
      rw [HLN.out] at hg
      have HG1 := Lib.hid hg
      clear hx1 hok hg
      have HL1 : Hid (∀ l ∈ ls, l.length ≤ 1000000) := fun l hl => by have := len_le_tot hl; have := H100.out; omega
      have HBE := Lib.hid (bef_ok H100.out HIN.out)
      have HHE := Lib.hid (beh_ok H100.out HIN.out)
      rw [HLN.out] at HBE HHE
      obtain ⟨pl, HPL⟩ : ∃ pl, Hid (pathT ls v u = pl) := ⟨_, rfl⟩
      have HPF : Hid (pl.length ≤ 1000) := by
        show _ ≤ _
        rw [← HPL.out, pathT]
        split
        · split
          · rename_i k hf
            have := List.mem_of_find?_eq_some hf
            rw [List.mem_range] at this
            rw [List.length_cons, restP_len]; have := HLN.out; omega
          · simp
        · simp
      obtain ⟨p, HP⟩ : ∃ p, Hid (pl.length = p) := ⟨_, rfl⟩
      have hp : p ≤ 1000 := by rw [← HP.out]; exact HPF.out
      have HRT : Hid (pl ≠ [] → RightL ls pl v u) := fun h => by rw [← HPL.out] at h ⊢; exact right_pathT h
      go_wp2_with fail
      refine (pathW gb n ls v u w1 HG1.out HOKG.out H100.out HLN.out (by omega) HBE.out HHE.out).mono ?_
      rintro e w2 ⟨v2, rfl, ho2, hx2⟩
      rw [HPL.out] at ho2
      have hsl2 := ho2.slice
      rw [HP.out] at hsl2
      obtain ⟨A2, c2, rfl, _, hr2⟩ := hsl2
      have HR2 := Lib.hid hr2
      have HX2 : Hid (Ext w w2) := HX1.out.trans' hx2
      clear ho2 hr2 hx2
      go_wp2_with fail
      refine (refPathW A n c ls v u w2 (HR.out.ext HX2.out) (by omega) HL1.out HIN.out).mono ?_
      rintro e w3 ⟨v3, rfl, ho3, hx3⟩
      rw [HPL.out] at ho3
      have hsl3 := ho3.slice
      rw [HP.out] at hsl3
      obtain ⟨A3, c3, rfl, _, hr3⟩ := hsl3
      have HR3 := Lib.hid hr3
      replace HR2 := Lib.hid (HR2.out.ext hx3)
      have HX3 : Hid (Ext w w3) := HX2.out.trans' hx3
      clear ho3 hr3 hx3
      go_wp2_with fail
      refine (refSameIT A2 A3 p c2 p c3 pl w3 HR2.out HR3.out (by omega) (by omega)).mono ?_
      rintro e w4 ⟨rfl, hx4⟩
      have HX4 : Hid (Ext w w4) := HX3.out.trans' hx4
      replace HR2 := Lib.hid (HR2.out.ext hx4)
      clear hx4
      by_cases hp0 : p = 0
      · subst hp0
        go_wp2_with fail
        refine (knownW w4).mono ?_
        rintro e w9 ⟨rfl, hx9⟩
        have HX9 := Lib.hid hx9
        clear hx9
        go_wp2
        (try rw [Exit.noGoto_ret])
        go_ret
        exact ⟨rfl, HX4.out.trans' (HX9.out)⟩
      · have dp : ((p : Int) == 0) = false := by simp; omega
        have hne : pl ≠ [] := fun e => hp0 (by rw [← HP.out, e]; rfl)
        have HRI := Lib.hid (HRT.out hne)
        clear hne
        go_wp2_with fail
        refine (refRightW A A2 n c p c2 ls pl v u w4 (HR.out.ext HX4.out) HR2.out (by omega) (by omega) (by omega) HL1.out HRI.out).mono ?_
        rintro e w5 ⟨rfl, hx5⟩
        have HX5 : Hid (Ext w w5) := HX4.out.trans' hx5
        clear hx5
        go_wp2_with fail
        refine (knownW w5).mono ?_
        rintro e w9 ⟨rfl, hx9⟩
        have HX9 := Lib.hid hx9
        clear hx9
        go_wp2
        (try rw [Exit.noGoto_ret])
        go_ret
        exact ⟨rfl, HX5.out.trans' (HX9.out)⟩
end Go.Proofs.Ytmejjeeobhapfaa
