/-
  Walk: the least number taken from the heap. Conditions: none.
-/
import Derived.Test.YtmejjeeobhapfaaDPush
namespace Go.Proofs.Ytmejjeeobhapfaa
open Go.RowKit
set_option linter.unusedVariables false
set_option linter.unusedSimpArgs false

def GivesPop (hb base g cap : Nat) (l : List Int) (w : World) (w' : World) : Prop :=
  OI w' base (.slice (some ⟨g, 0, none⟩) l.length cap) l ∧ w'.heap[hb]? = some (.cells #[.slice (some ⟨g, 0, none⟩) l.length cap] 60) ∧ Mod [hb, g] w w'
theorem hPopNil (hb c : Nat) (A : Option Addr) (w : World) (hobj : w.heap[hb]? = some (.cells #[.slice A 0 c] 60)) :
    Calls Try.prog 41 #[.pointer (some ⟨hb, 0, none⟩)] w fun e w' => e = .returned (.tuple #[.int .i64 0, .bool false]) ∧ Ext w w' := by
  have hc0 : w.cell? ⟨hb, 0, none⟩ = some (.slice A 0 c) := by rw [World.cell?, hobj]; simp
  clear hobj
  go_enter Try.func41, Try.ntmps41
  go_wp2
  (try rw [Exit.noGoto_ret])
  go_ret2
  exact ⟨rfl, Ext.rfl'⟩
set_option maxRecDepth 100000 in
set_option maxHeartbeats 2000000 in
theorem hPop (hb base g n cap : Nat) (l : List Int) (x : Int) (w : World) (ho : OI w base (.slice (some ⟨g, 0, none⟩) (n + 1) cap) l) (hl : l.length = n + 1) (hx : l[0]? = some x) (hobj : w.heap[hb]? = some (.cells #[.slice (some ⟨g, 0, none⟩) (n + 1) cap] 60)) (hn : n ≤ 1000000) :
    Calls Try.prog 41 #[.pointer (some ⟨hb, 0, none⟩)] w fun e w' => e = .returned (.tuple #[.int .i64 x, .bool true]) ∧ GivesPop hb base g cap (hpop l) w w' := by
  have hc0 : w.cell? ⟨hb, 0, none⟩ = some (.slice (some ⟨g, 0, none⟩) (n + 1) cap) := by rw [World.cell?, hobj]; simp
  have hf0 : w.frozen? ⟨hb, 0, none⟩ = false := frozen_of_row w hb 0 _ _ hobj
  have HO := Lib.hid ho
  have HOB := Lib.hid hobj
  have HL0 := Lib.hid hl
  have hoi := ho
  rw [← hl] at hoi
  obtain ⟨g', c', hv, hnc, hbg, hgl, _, hcl, hfr⟩ := hoi.at_ (i := 0) (by omega)
  injection hv with hv _ hv2
  injection hv with hv
  injection hv with hv
  subst hv
  subst hv2
  rw [hl] at hnc
  obtain ⟨z0, hz0⟩ : ∃ z, l[n]? = some z := ⟨_, List.getElem?_eq_getElem (by omega)⟩
  have cx := hcl _ _ hx
  have cz := hcl _ _ hz0
  have fx := hfr 0
  have hne : hb ≠ g := fun h => by
    obtain ⟨_, cur, hc⟩ := ho.obj rfl
    rw [← h, hobj] at hc
    injection hc with hc
    injection hc with _ h2 _
    cases h2
  have wn : IntKind.i64.wrap (n : Int) = (n : Int) := IntWalk.i64_in _ (by omega)
  have n0 : ¬ (n : Int) < 0 := by omega
  have b0 : (0 : Int) < (n : Int) + 1 := by omega
  have b1 : (n : Int) < (n : Int) + 1 := by omega
  have tn : (n : Int).toNat = n := by simp
  have cb : ∀ (q : Nat) (u : Value), ((w.drewN q).setCell ⟨g, 0, none⟩ u).cell? ⟨hb, 0, none⟩ = some (.slice (some ⟨g, 0, none⟩) (n + 1) cap) := fun q u => (World.cell?_setCell_other (w.drewN q) ⟨g, 0, none⟩ ⟨hb, 0, none⟩ u (by simp [Ne.symm hne])).trans hc0
  have Hx := Lib.hid hx
  have Hz0 := Lib.hid hz0
  have HW : Hid (∀ q, OI (((w.drewN q).setCell ⟨g, 0, none⟩ (.int .i64 z0)).setCell ⟨hb, 0, none⟩ (.slice (some ⟨g, 0, none⟩) n cap)) base (.slice (some ⟨g, 0, none⟩) n cap) ((l.set 0 z0).take n) ∧
      (((w.drewN q).setCell ⟨g, 0, none⟩ (.int .i64 z0)).setCell ⟨hb, 0, none⟩ (.slice (some ⟨g, 0, none⟩) n cap)).heap[hb]? = some (.cells #[.slice (some ⟨g, 0, none⟩) n cap] 60) ∧
      Mod [hb, g] w (((w.drewN q).setCell ⟨g, 0, none⟩ (.int .i64 z0)).setCell ⟨hb, 0, none⟩ (.slice (some ⟨g, 0, none⟩) n cap))) := fun q => by
    refine ⟨?_, ?_, ?_⟩
    · have h1 : OI ((w.drewN q).setCell ⟨g, 0, none⟩ (.int .i64 z0)) base (.slice (some ⟨g, 0, none⟩) (n + 1) cap) (l.set 0 z0) := OI.store2 HO.out HL0.out 0 z0
      have h2 := OI.take h1 (k := n) (by rw [List.length_set, HL0.out]; omega)
      exact Mod.own ((Mod.refl [hb] _).setCell (by simp) _) h2 (fun s hs => by cases hs; simp; exact fun h => hne h.symm)
    · have h3 := heap_setCell_same ((w.drewN q).setCell ⟨g, 0, none⟩ (.int .i64 z0)) hb 0 #[.slice (some ⟨g, 0, none⟩) (n + 1) cap] 60 (.slice (some ⟨g, 0, none⟩) n cap) (Mod.obj (S := [g]) (((Mod.refl _ w).drewN q).setCell (p := ⟨g, 0, none⟩) (by simp) _) HOB.out (by simpa using hne))
      rw [h3]; simp
    · exact (((Mod.refl _ w).drewN _).setCell (p := ⟨g, 0, none⟩) (.inl (by simp)) _).setCell (p := ⟨hb, 0, none⟩) (.inl (by simp)) _
  have HST : Hid (hpop l = downH (n + 1) ((l.set 0 z0).take n) 0) := by
    show _ = _
    rw [hpop, HL0.out]
    simp only [Nat.add_sub_cancel, List.getD, Hz0.out, Option.getD]
  have HTL : Hid (((l.set 0 z0).take n).length = n) := by show _ = _; rw [List.length_take, List.length_set, HL0.out]; omega
  clear hcl hfr ho hobj hl hx hz0 hoi
  go_enter Try.func41, Try.ntmps41
  go_wp2
  go_region
  go_wp2
  have H0 := HW.out 0
  obtain ⟨W0, HW0⟩ : ∃ W0, Hid (((w.setCell ⟨g, 0, none⟩ (.int .i64 z0)).setCell ⟨hb, 0, none⟩ (.slice (some ⟨g, 0, none⟩) n cap)).drew = W0) := ⟨_, rfl⟩
  have H1 : Hid (OI W0 base (.slice (some ⟨g, 0, none⟩) n cap) ((l.set 0 z0).take n) ∧ W0.heap[hb]? = some (.cells #[.slice (some ⟨g, 0, none⟩) n cap] 60) ∧ Mod [hb, g] w W0) := by
    rw [← HW0.out]
    exact ⟨H0.1, H0.2.1, H0.2.2.drew⟩
  rw [HW0.out]
  have HST2 : Hid (∃ f, ((l.set 0 z0).take n).length ≤ 0 + f ∧ downH f ((l.set 0 z0).take n) 0 = hpop l) := ⟨n + 1, by rw [HTL.out]; omega, HST.out.symm⟩
  obtain ⟨L0, HL0'⟩ : ∃ L0, Hid ((l.set 0 z0).take n = L0) := ⟨_, rfl⟩
  rw [HL0'.out] at H1 HTL HST2
  clear H0 HW HST HW0 cb cx cz fx hc0 hf0 HL0'
  go_loopw [6, 7] (fun v u wr => ∃ (i : Nat) (L : List Int), v = .int .i64 i ∧ i ≤ n ∧ Hid (L.length = n) ∧ Hid (OI wr base (.slice (some ⟨g, 0, none⟩) n cap) L) ∧ Hid (wr.heap[hb]? = some (.cells #[.slice (some ⟨g, 0, none⟩) n cap] 60)) ∧
    Hid (Mod [hb, g] w wr) ∧ Hid (∃ f, L.length ≤ i + f ∧ downH f L i = hpop l)) (fun v _ _ => n - (intOf v).toNat)
  case atStart => exact ⟨0, L0, by go_num, by omega, HTL, H1.out.1, H1.out.2.1, H1.out.2.2, HST2⟩
  case round =>
    obtain ⟨i, L, rfl, hin, HL, HOI, HOB, HM, HU⟩ := hrel
    have hcb : wr.cell? ⟨hb, 0, none⟩ = some (.slice (some ⟨g, 0, none⟩) n cap) := by rw [World.cell?, HOB.out]; simp
    have hD' : Hid (∀ q q', ¬ (2 * i + 1 < L.length ∧ ¬ L.getD i 0 ≤ L.getD (kidH L i) 0) → GivesPop hb base g cap (hpop l) w ((wr.drewN q).drewN q')) := fun q q' h => by
      obtain ⟨f, _, hf⟩ := HU.out
      rw [downH_stop h] at hf
      rw [← hf, GivesPop, HL.out]
      exact ⟨HOI.out, HOB.out, (HM.out.drewN q).drewN q'⟩
    have w2 : IntKind.i64.wrap (2 * (i : Int)) = 2 * (i : Int) := IntWalk.i64_in _ (by omega)
    obtain ⟨J, hJ⟩ : ∃ J, 2 * i + 1 = J := ⟨_, rfl⟩
    have w3 : IntKind.i64.wrap (2 * (i : Int) + 1) = (J : Int) := by rw [IntWalk.i64_in _ (by omega)]; omega
    have w4 : IntKind.i64.wrap ((J : Int) + 1) = (J : Int) + 1 := IntWalk.i64_in _ (by omega)
    have HJ := Lib.hid hJ
    clear hJ
    by_cases hlt : J < n
    · have g0 : (J : Int) < (n : Int) := by omega
      obtain ⟨y, hy⟩ : ∃ y, L[i]? = some y := ⟨_, List.getElem?_eq_getElem (by have := HL.out; have := HJ.out; omega)⟩
      obtain ⟨a, ha⟩ : ∃ y, L[J]? = some y := ⟨_, List.getElem?_eq_getElem (by have := HL.out; omega)⟩
      have hoi := HOI.out
      rw [← HL.out] at hoi
      obtain ⟨g', c', hv, _, _, _, _, hcl, hfr⟩ := hoi.at_ (i := 0) (by have := HL.out; omega)
      injection hv with hv _ hv2
      injection hv with hv
      injection hv with hv
      subst hv
      subst hv2
      have cy := hcl _ _ hy
      have fy := hfr i
      have ca := hcl _ _ ha
      have bi : (i : Int) < (n : Int) := by have := HJ.out; omega
      have Hy := Lib.hid hy
      have Ha := Lib.hid ha
      clear hy ha hoi
      by_cases hlt2 : J + 1 < n
      · have g1 : decide ((J : Int) + 1 < (n : Int)) = true := decide_eq_true (by omega)
        obtain ⟨b, hb2⟩ : ∃ y, L[J + 1]? = some y := ⟨_, List.getElem?_eq_getElem (by have := HL.out; omega)⟩
        have cb := hcl _ _ hb2
        have Hb := Lib.hid hb2
        have bJ1 : (J : Int) + 1 < (n : Int) := by omega
        by_cases hba : b < a
        · have g3 : decide (b < a) = true := decide_eq_true hba
          have HK : Hid (kidH L i = J + 1) := by
            show _ = _
            rw [kidH, if_pos ⟨by have := HL.out; have := HJ.out; omega, by rw [show 2 * i + 2 = J + 1 by have := HJ.out; omega, HJ.out]; simp only [List.getD, Ha.out, Hb.out, Option.getD]; exact hba⟩]
            have := HJ.out; omega
          clear hba hb2
          have fz := hfr (J + 1)
          have bK : (J : Int) + 1 < (n : Int) := by omega
          have c2 : ∀ (q : Nat) (u : Value), ((wr.drewN q).setCell ⟨g, i, none⟩ u).cell? ⟨g, J + 1, none⟩ = some (.int .i64 b) := fun q u => (World.cell?_setCell_other (wr.drewN q) ⟨g, i, none⟩ ⟨g, J + 1, none⟩ u (by simp; have := HJ.out; omega)).trans cb
          clear hcl hfr
          by_cases hyz : y ≤ b
          · have g2 : decide (y ≤ b) = true := decide_eq_true hyz
            have HYZ := Lib.hid hyz
            clear hyz
            go_wp2
            go_quiet (fail)
            go_wp2
            go_quiet (fail)
            go_wp2
            (try rw [Exit.noGoto_ret])
            go_ret2
            exact ⟨rfl, hD'.out _ _ (fun h => by
              have h2 := h.2
              rw [HK.out] at h2
              simp only [List.getD, Hy.out, Hb.out, Option.getD] at h2
              exact absurd HYZ.out (Int.not_le.2 h2))⟩
          · have g2 : decide (y ≤ b) = false := decide_eq_false hyz
            have g4 : ¬ y ≤ b := hyz
            have HYZ := Lib.hid hyz
            clear hyz
            go_wp2
            go_quiet (fail)
            go_wp2
            go_quiet (fail)
            go_wp2
            go_big_region
            go_wp2
            go_roundw
            case rel =>
              have e1 : L.getD (J + 1) 0 = b := by rw [List.getD, Hb.out]; rfl
              have e2 : L.getD i 0 = y := by rw [List.getD, Hy.out]; rfl
              obtain ⟨f, hf1, hf2⟩ := HU.out
              obtain ⟨f', hf3, hf4⟩ := downH_go (f := f) (l := L) (i := i) hf1 (by have := HL.out; have := HJ.out; omega) (by rw [HK.out, e1, e2]; have := HYZ.out; omega)
              rw [HK.out] at hf3 hf4
              have hs : swpI L i (J + 1) = (L.set i b).set (J + 1) y := by rw [swpI, e1, e2]
              have hst := OI.store2 (OI.store2 HOI.out HL.out i b) (by rw [List.length_set]; exact HL.out) (J + 1) y
              refine ⟨J + 1, swpI L i (J + 1), by go_num, by omega, by show _ = _; rw [swpI_len]; exact HL.out, by rw [hs]; exact hst, ?_, ?_, ⟨f', by rw [swpI_len]; exact hf3, by rw [← hf4]; exact hf2⟩⟩
              · exact Mod.obj (S := [g]) (((Mod.refl _ wr).setCell (p := ⟨g, i, none⟩) (by simp) _).setCell (p := ⟨g, J + 1, none⟩) (by simp) _) HOB.out (by simpa using hne)
              · exact ((HM.out.drewN _).setCell (p := ⟨g, i, none⟩) (.inl (by simp)) _).setCell (p := ⟨g, J + 1, none⟩) (.inl (by simp)) _
            case measure => simp [intOf]; have := HJ.out; omega
        · have g3 : decide (b < a) = false := decide_eq_false hba
          have HK : Hid (kidH L i = J) := by
            show _ = _
            rw [kidH, if_neg (fun h => hba (by
              have h2 := h.2
              rw [show 2 * i + 2 = J + 1 by have := HJ.out; omega, HJ.out] at h2
              simpa only [List.getD, Ha.out, Hb.out, Option.getD] using h2))]
            exact HJ.out
          clear hba hb2
          have fz := hfr (J)
          have bK : (J : Int) < (n : Int) := by omega
          have c2 : ∀ (q : Nat) (u : Value), ((wr.drewN q).setCell ⟨g, i, none⟩ u).cell? ⟨g, J, none⟩ = some (.int .i64 a) := fun q u => (World.cell?_setCell_other (wr.drewN q) ⟨g, i, none⟩ ⟨g, J, none⟩ u (by simp; have := HJ.out; omega)).trans ca
          clear hcl hfr
          by_cases hyz : y ≤ a
          · have g2 : decide (y ≤ a) = true := decide_eq_true hyz
            have HYZ := Lib.hid hyz
            clear hyz
            go_wp2
            go_quiet (fail)
            go_wp2
            go_quiet (fail)
            go_wp2
            (try rw [Exit.noGoto_ret])
            go_ret2
            exact ⟨rfl, hD'.out _ _ (fun h => by
              have h2 := h.2
              rw [HK.out] at h2
              simp only [List.getD, Hy.out, Ha.out, Option.getD] at h2
              exact absurd HYZ.out (Int.not_le.2 h2))⟩
          · have g2 : decide (y ≤ a) = false := decide_eq_false hyz
            have g4 : ¬ y ≤ a := hyz
            have HYZ := Lib.hid hyz
            clear hyz
            go_wp2
            go_quiet (fail)
            go_wp2
            go_quiet (fail)
            go_wp2
            go_big_region
            go_wp2
            go_roundw
            case rel =>
              have e1 : L.getD (J) 0 = a := by rw [List.getD, Ha.out]; rfl
              have e2 : L.getD i 0 = y := by rw [List.getD, Hy.out]; rfl
              obtain ⟨f, hf1, hf2⟩ := HU.out
              obtain ⟨f', hf3, hf4⟩ := downH_go (f := f) (l := L) (i := i) hf1 (by have := HL.out; have := HJ.out; omega) (by rw [HK.out, e1, e2]; have := HYZ.out; omega)
              rw [HK.out] at hf3 hf4
              have hs : swpI L i (J) = (L.set i a).set (J) y := by rw [swpI, e1, e2]
              have hst := OI.store2 (OI.store2 HOI.out HL.out i a) (by rw [List.length_set]; exact HL.out) (J) y
              refine ⟨J, swpI L i (J), by go_num, by omega, by show _ = _; rw [swpI_len]; exact HL.out, by rw [hs]; exact hst, ?_, ?_, ⟨f', by rw [swpI_len]; exact hf3, by rw [← hf4]; exact hf2⟩⟩
              · exact Mod.obj (S := [g]) (((Mod.refl _ wr).setCell (p := ⟨g, i, none⟩) (by simp) _).setCell (p := ⟨g, J, none⟩) (by simp) _) HOB.out (by simpa using hne)
              · exact ((HM.out.drewN _).setCell (p := ⟨g, i, none⟩) (.inl (by simp)) _).setCell (p := ⟨g, J, none⟩) (.inl (by simp)) _
            case measure => simp [intOf]; have := HJ.out; omega
      · have g1 : decide ((J : Int) + 1 < (n : Int)) = false := decide_eq_false (by omega)
        have HK : Hid (kidH L i = J) := by
          show _ = _
          rw [kidH, if_neg (fun h => by have := h.1; have := HL.out; have := HJ.out; omega)]
          exact HJ.out
        have fz := hfr (J)
        have bK : (J : Int) < (n : Int) := by omega
        have c2 : ∀ (q : Nat) (u : Value), ((wr.drewN q).setCell ⟨g, i, none⟩ u).cell? ⟨g, J, none⟩ = some (.int .i64 a) := fun q u => (World.cell?_setCell_other (wr.drewN q) ⟨g, i, none⟩ ⟨g, J, none⟩ u (by simp; have := HJ.out; omega)).trans ca
        clear hcl hfr
        by_cases hyz : y ≤ a
        · have g2 : decide (y ≤ a) = true := decide_eq_true hyz
          have HYZ := Lib.hid hyz
          clear hyz
          go_wp2
          go_quiet (fail)
          go_wp2
          go_quiet (fail)
          go_wp2
          (try rw [Exit.noGoto_ret])
          go_ret2
          exact ⟨rfl, hD'.out _ _ (fun h => by
            have h2 := h.2
            rw [HK.out] at h2
            simp only [List.getD, Hy.out, Ha.out, Option.getD] at h2
            exact absurd HYZ.out (Int.not_le.2 h2))⟩
        · have g2 : decide (y ≤ a) = false := decide_eq_false hyz
          have g4 : ¬ y ≤ a := hyz
          have HYZ := Lib.hid hyz
          clear hyz
          go_wp2
          go_quiet (fail)
          go_wp2
          go_quiet (fail)
          go_wp2
          go_big_region
          go_wp2
          go_roundw
          case rel =>
            have e1 : L.getD (J) 0 = a := by rw [List.getD, Ha.out]; rfl
            have e2 : L.getD i 0 = y := by rw [List.getD, Hy.out]; rfl
            obtain ⟨f, hf1, hf2⟩ := HU.out
            obtain ⟨f', hf3, hf4⟩ := downH_go (f := f) (l := L) (i := i) hf1 (by have := HL.out; have := HJ.out; omega) (by rw [HK.out, e1, e2]; have := HYZ.out; omega)
            rw [HK.out] at hf3 hf4
            have hs : swpI L i (J) = (L.set i a).set (J) y := by rw [swpI, e1, e2]
            have hst := OI.store2 (OI.store2 HOI.out HL.out i a) (by rw [List.length_set]; exact HL.out) (J) y
            refine ⟨J, swpI L i (J), by go_num, by omega, by show _ = _; rw [swpI_len]; exact HL.out, by rw [hs]; exact hst, ?_, ?_, ⟨f', by rw [swpI_len]; exact hf3, by rw [← hf4]; exact hf2⟩⟩
            · exact Mod.obj (S := [g]) (((Mod.refl _ wr).setCell (p := ⟨g, i, none⟩) (by simp) _).setCell (p := ⟨g, J, none⟩) (by simp) _) HOB.out (by simpa using hne)
            · exact ((HM.out.drewN _).setCell (p := ⟨g, i, none⟩) (.inl (by simp)) _).setCell (p := ⟨g, J, none⟩) (.inl (by simp)) _
          case measure => simp [intOf]; have := HJ.out; omega
    · have g0 : ¬ (J : Int) < (n : Int) := by omega
      go_wp2
      (try rw [Exit.noGoto_ret])
      go_ret2
      exact ⟨rfl, hD'.out 0 0 (fun h => by have := h.1; have := HL.out; have := HJ.out; omega)⟩
end Go.Proofs.Ytmejjeeobhapfaa
