/-
  Walk: the law DagNear returns true. Conditions: none.
-/
import Derived.Test.YtmejjeeobhapfaaDNear
import Derived.Test.YtmejjeeobhapfaaDKnown
namespace Go.Proofs.Ytmejjeeobhapfaa
open Go.RowKit
set_option linter.unusedVariables false
set_option linter.unusedSimpArgs false

theorem bef_len {ls : List (List Int)} (h : tot ls ≤ 100) : ∀ l ∈ befG ls, l.length ≤ 1000000 := fun l hl => by have := len_le_tot hl; have := tot_bef ls; omega
theorem bef_ok {ls : List (List Int)} (h : tot ls ≤ 100) (hin : inRg ls.length ls = true) : ∀ l ∈ befG ls, l.length ≤ 100 ∧ Rng ls.length l := fun l hl => by
  have h1 := len_le_tot hl
  have h2 := tot_bef ls
  obtain ⟨r, hr, rfl⟩ := List.mem_map.1 hl
  exact ⟨by omega, fun x hx => inRg_at hin hr x (tidyI_mem_sub hx)⟩
theorem beh_ok {ls : List (List Int)} (h : tot ls ≤ 100) (hin : inRg ls.length ls = true) : ∀ l ∈ behG ls, l.length ≤ 100 ∧ Rng ls.length l := fun l hl => by
  have h1 := behK_ok (befG ls) ls.length (by rw [befG, List.length_map]) ls.length (Nat.le_refl _) l hl
  have h2 := tot_take_le (befG ls) ls.length
  have h3 := tot_bef ls
  exact ⟨by omega, h1.2⟩

set_option maxRecDepth 100000 in
set_option maxHeartbeats 2000000 in
theorem walk_dagnear (A : Option Addr) (n c : Nat) (ls : List (List Int)) (v : Int) (w : World) (hr : RdLL (fun _ => True) w A n ls) (hn : n ≤ 140737488355328) (hl : ∀ l ∈ ls, l.length ≤ 140737488355328) :
    Calls Try.prog 4 #[.slice A n c, .int .i64 v] w fun e w' => e = .returned (.bool true) ∧ Ext w w' := by
  have HR := Lib.hid hr
  have HLN : Hid (ls.length = n) := hr.len
  have HLG := Lib.hid (longW A n c ls w hr hn hl)
  have HLF := Lib.hid (longB_false hl)
  clear hr hl
  cases hb : longB ls with
  | true =>
    rw [hb] at HLG
    clear hb HR
    go_enter Try.func4, Try.ntmps4
    go_wp2_with fail
    refine HLG.out.mono ?_
    rintro e w1 ⟨rfl, rfl⟩
    go_wp2_with fail
    refine (knownW w).mono ?_
    rintro e w9 ⟨rfl, hx9⟩
    have HX9 := Lib.hid hx9
    clear hx9
    go_wp2
    (try rw [Exit.noGoto_ret])
    go_ret
    exact ⟨rfl, HX9.out⟩
  | false =>
    rw [hb] at HLG
    obtain ⟨h30, h100⟩ := HLF.out hb
    rw [HLN.out] at h30
    have H100 := Lib.hid h100
    clear hb HLF h100
    go_enter Try.func4, Try.ntmps4
    go_wp2_with fail
    refine HLG.out.mono ?_
    rintro e w1 ⟨rfl, rfl⟩
    go_wp2_with fail
    refine (newW A n c ls w HR.out (by omega) H100.out).mono ?_
    rintro e w1 ⟨hx1, ⟨hin, rfl⟩ | ⟨hin, hcy, rfl⟩ | ⟨hok, gb, rfl, hg⟩⟩
    · have HX1 := Lib.hid hx1
      clear hx1 hin
      go_wp2_with fail
      refine (knownW w1).mono ?_
      rintro e w9 ⟨rfl, hx9⟩
      have HX9 := Lib.hid hx9
      clear hx9
      go_wp2
      (try rw [Exit.noGoto_ret])
      go_ret
      exact ⟨rfl, HX1.out.trans' (HX9.out)⟩
    · have HX1 := Lib.hid hx1
      clear hx1 hin hcy
      go_wp2_with fail
      refine (knownW w1).mono ?_
      rintro e w9 ⟨rfl, hx9⟩
      have HX9 := Lib.hid hx9
      clear hx9
      go_wp2
      (try rw [Exit.noGoto_ret])
      go_ret
      exact ⟨rfl, HX1.out.trans' (HX9.out)⟩
    · have HX1 := Lib.hid hx1
      have HIN : Hid (inRg ls.length ls = true) := hok.1
      rw [HLN.out] at hg
      have HG1 := Lib.hid hg
      clear hx1 hok hg
      have HBEF : Hid (∀ v : Int, (if 0 ≤ v ∧ v < n then (befG ls).getD v.toNat [] else []) = befR ls v) := fun v => by rw [← HLN.out]; exact before_near HIN.out v
      have HBEH : Hid (∀ v : Int, (if 0 ≤ v ∧ v < n then (behG ls).getD v.toNat [] else []) = behR ls v) := fun v => by rw [← HLN.out]; exact behind_near HIN.out v
      have HL1 : Hid (∀ l ∈ ls, l.length ≤ 1000000) := fun l hl => by have := len_le_tot hl; have := H100.out; omega
      have HQ1 : Hid ((befR ls v).length ≤ 1000) := by
        rw [befR]; split
        · have := numsK_len (fun u => decide ((u : Int) ∈ ls.getD v.toNat [])) ls.length; have := HLN.out; show _ ≤ _; omega
        · show 0 ≤ 1000; omega
      have HQ2 : Hid ((behR ls v).length ≤ 1000) := by
        rw [behR]; split
        · have := numsK_len (fun u => decide (v ∈ ls.getD u [])) ls.length; have := HLN.out; show _ ≤ _; omega
        · show 0 ≤ 1000; omega
      go_wp2_with fail
      refine (beforeG gb n _ _ _ v w1 HG1.out (bef_len H100.out)).mono ?_
      rintro e w2 ⟨v2, rfl, ho2, hx2⟩
      rw [HBEF.out v] at ho2
      obtain ⟨A2, c2, rfl, _, hr2⟩ := ho2.slice
      have HR2 := Lib.hid hr2
      have HX2 : Hid (Ext w w2) := HX1.out.trans' hx2
      have HG2 := Lib.hid (HG1.out.ext hx2)
      clear ho2 hr2 hx2
      go_wp2_with fail
      refine (refBefore5 A n c ls v w2 (HR.out.ext HX2.out) (by omega) HL1.out).mono ?_
      rintro e w3 ⟨v3, rfl, ho3, hx3⟩
      obtain ⟨A3, c3, rfl, _, hr3⟩ := ho3.slice
      have HR3 := Lib.hid hr3
      replace HR2 := Lib.hid (HR2.out.ext hx3)
      have HX3 : Hid (Ext w w3) := HX2.out.trans' hx3
      have HG3 := Lib.hid (HG2.out.ext hx3)
      clear ho3 hr3 hx3
      go_wp2_with fail
      refine (refSameIT A2 A3 _ c2 _ c3 (befR ls v) w3 HR2.out HR3.out (by have := HQ1.out; omega) (by have := HQ1.out; omega)).mono ?_
      rintro e w4 ⟨rfl, hx4⟩
      have HX4 : Hid (Ext w w4) := HX3.out.trans' hx4
      have HG4 := Lib.hid (HG3.out.ext hx4)
      clear hx4
      go_wp2_with fail
      refine (behindG gb n _ _ _ v w4 HG4.out (fun l hl => by have := (beh_ok H100.out HIN.out l hl).1; omega)).mono ?_
      rintro e w5 ⟨v5, rfl, ho5, hx5⟩
      rw [HBEH.out v] at ho5
      obtain ⟨A5, c5, rfl, _, hr5⟩ := ho5.slice
      have HR5 := Lib.hid hr5
      have HX5 : Hid (Ext w w5) := HX4.out.trans' hx5
      clear ho5 hr5 hx5
      go_wp2_with fail
      refine (refBehind5 A n c ls v w5 (HR.out.ext HX5.out) (by omega) HL1.out).mono ?_
      rintro e w6 ⟨v6, rfl, ho6, hx6⟩
      obtain ⟨A6, c6, rfl, _, hr6⟩ := ho6.slice
      have HR6 := Lib.hid hr6
      replace HR5 := Lib.hid (HR5.out.ext hx6)
      have HX6 : Hid (Ext w w6) := HX5.out.trans' hx6
      clear ho6 hr6 hx6
      go_wp2_with fail
      refine (refSameIT A5 A6 _ c5 _ c6 (behR ls v) w6 HR5.out HR6.out (by have := HQ2.out; omega) (by have := HQ2.out; omega)).mono ?_
      rintro e w7 ⟨rfl, hx7⟩
      have HX7 : Hid (Ext w w7) := HX6.out.trans' hx7
      clear hx7
      go_wp2_with fail
      refine (knownW w7).mono ?_
      rintro e w9 ⟨rfl, hx9⟩
      have HX9 := Lib.hid hx9
      clear hx9
      go_wp2
      (try rw [Exit.noGoto_ret])
      go_ret
      exact ⟨rfl, HX7.out.trans' (HX9.out)⟩
end Go.Proofs.Ytmejjeeobhapfaa
