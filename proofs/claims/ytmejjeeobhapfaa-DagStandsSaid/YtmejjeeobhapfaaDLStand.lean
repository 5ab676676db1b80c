/-
  Walk: the law DagStands returns true. Conditions: none.
-/
import Derived.Test.YtmejjeeobhapfaaDStandP
import Derived.Test.YtmejjeeobhapfaaDLNear
namespace Go.Proofs.Ytmejjeeobhapfaa
open Go.RowKit
set_option linter.unusedVariables false
set_option linter.unusedSimpArgs false

def atL (o : List Int) (n : Nat) : Nat → List Int
  | 0 => List.replicate n 0
  | i + 1 => (atL o n i).set (o.getD i 0).toNat ((i : Int) + 1)
theorem atL_len (o : List Int) (n : Nat) : ∀ i, (atL o n i).length = n
  | 0 => by simp [atL]
  | i + 1 => by rw [atL, List.length_set, atL_len o n i]
theorem posO_at {o : List Int} (nd : o.Nodup) {i : Nat} {X : Nat} (h : o[i]? = some (X : Int)) : posO o X = i := by
  have hm : (X : Int) ∈ o := List.mem_of_getElem? h
  have h1 : posO o X < o.length := List.idxOf_lt_length_of_mem hm
  have h2 : o[posO o X]? = some (X : Int) := by rw [List.getElem?_eq_getElem h1]; exact congrArg some (List.getElem_idxOf h1)
  exact nodup_at nd h2 h
theorem atL_get {o : List Int} {n : Nat} (nd : o.Nodup) (rg : Rng n o) (all : ∀ v, v < n → (v : Int) ∈ o) {V : Nat} (hV : V < n) : ∀ i, i ≤ o.length → (atL o n i).getD V 0 = if posO o V < i then (posO o V : Int) + 1 else 0
  | 0, _ => by rw [atL, List.getD, List.getElem?_replicate, if_pos hV, if_neg (by omega)]; rfl
  | i + 1, hi => by
    have hx : o[i]? = some o[i] := List.getElem?_eq_getElem (by omega)
    have hr := rg o[i] (List.getElem_mem (by omega))
    have hgd : o.getD i 0 = o[i] := by rw [List.getD, hx]; rfl
    have ih := atL_get nd rg all hV i (by omega)
    rw [atL, hgd]
    by_cases he : V = o[i].toNat
    · have hp : posO o V = i := posO_at nd (by rw [hx, he]; congr 1; omega)
      rw [← he, List.getD, List.getElem?_set_self (by rw [atL_len]; exact hV), if_pos (by omega), hp]; rfl
    · have hp : posO o V ≠ i := fun e => he (by
        have h1 : posO o V < o.length := by omega
        have h2 : o[posO o V]? = some (V : Int) := by rw [List.getElem?_eq_getElem h1]; exact congrArg some (List.getElem_idxOf h1)
        rw [e, hx] at h2; injection h2 with h2; omega)
      rw [List.getD, List.getElem?_set_ne (fun e => he e.symm), ← List.getD, ih]
      by_cases h1 : posO o V < i
      · rw [if_pos h1, if_pos (by omega)]
      · rw [if_neg h1, if_neg (by omega)]
theorem own_ext' {w w' : World} {base n size : Nat} {e : TypeId} {v : Value} {xs : List Value} (h : w.ownsRow base e size v n xs) (hx : Ext w w') : w'.ownsRow base e size v n xs := Mod.own (Mod.of_ext (S := []) hx) h (by simp)
def seenL (lv : List Int) (n k : Nat) (r : List Int) : List Bool := (List.range n).map fun (v : Nat) => decide ((lv.getD v 0).toNat < k) || decide ((v : Int) ∈ r)
theorem seenL_len (lv : List Int) (n k : Nat) (r : List Int) : (seenL lv n k r).length = n := by simp [seenL]
theorem seenL_at {lv : List Int} {n k : Nat} {r : List Int} {v : Nat} (hv : v < n) : (seenL lv n k r)[v]? = some (decide ((lv.getD v 0).toNat < k) || decide ((v : Int) ∈ r)) := by
  rw [seenL, List.getElem?_map, List.getElem?_range hv]; rfl
theorem seenL_zero (lv : List Int) (n : Nat) : seenL lv n 0 [] = List.replicate n false := by
  apply List.ext_getElem
  · simp [seenL]
  · intro i h1 h2; simp [seenL]
theorem seenL_set {lv : List Int} {n k X : Nat} {r : List Int} : (seenL lv n k r).set X true = seenL lv n k (r ++ [(X : Int)]) := by
  apply List.ext_getElem
  · simp [seenL]
  · intro i h1 h2
    rw [List.getElem_set]
    simp only [seenL, List.getElem_map, List.getElem_range, List.mem_append, List.mem_singleton]
    by_cases h : X = i
    · subst h; simp
    · rw [if_neg h]
      have : ¬ (i : Int) = (X : Int) := by omega
      simp [this]
theorem seenL_next (lv : List Int) (n k : Nat) : seenL lv n k (numsK (fun v => decide ((lv.getD v 0).toNat = k)) n) = seenL lv n (k + 1) [] := by
  apply List.map_congr_left
  intro v hv
  have hv' : v < n := by simpa using hv
  have : ((v : Int) ∈ numsK (fun v => decide ((lv.getD v 0).toNat = k)) n) ↔ (lv.getD v 0).toNat = k := by
    rw [numsK_mem]
    constructor
    · rintro ⟨i, hi, _, h⟩; obtain rfl : v = i := by omega
      simpa using h
    · intro h; exact ⟨v, rfl, hv', by simpa using h⟩
  simp only [this, List.not_mem_nil, decide_false, Bool.or_false]
  rw [Bool.eq_iff_iff]; simp; omega

set_option maxRecDepth 100000 in
set_option maxHeartbeats 2000000 in
theorem walk_dagstands (A : Option Addr) (n c : Nat) (ls : List (List Int))  (w : World) (hr : RdLL (fun _ => True) w A n ls) (hn : n ≤ 140737488355328) (hl : ∀ l ∈ ls, l.length ≤ 140737488355328) :
    Calls Try.prog 5 #[.slice A n c] w fun e w' => e = .returned (.bool true) ∧ Ext w w' := by
  have HR := Lib.hid hr
  have HLN : Hid (ls.length = n) := hr.len
  have HLG := Lib.hid (longW A n c ls w hr hn hl)
  have HLF := Lib.hid (longB_false hl)
  clear hr hl
  cases hb : longB ls with
  | true =>
    rw [hb] at HLG
    clear hb HR
    go_enter Try.func5, Try.ntmps5
    go_wp2_with fail
    refine HLG.out.mono ?_
    rintro e w1 ⟨rfl, rfl⟩
    go_wp2_with fail
    refine (knownW w).mono ?_
    rintro e w9 ⟨rfl, hx9⟩
    have HX9 := Lib.hid hx9
    clear hx9
    go_wp2
    (try rw [Exit.noGoto_ret])
    go_ret
    exact ⟨rfl, HX9.out⟩
  | false =>
    rw [hb] at HLG
    obtain ⟨h30, h100⟩ := HLF.out hb
    rw [HLN.out] at h30
    have H100 := Lib.hid h100
    clear hb HLF h100
    go_enter Try.func5, Try.ntmps5
    go_wp2_with fail
    refine HLG.out.mono ?_
    rintro e w1 ⟨rfl, rfl⟩
    go_wp2_with fail
    refine (newW A n c ls w HR.out (by omega) H100.out).mono ?_
    rintro e w1 ⟨hx1, ⟨hin, rfl⟩ | ⟨hin, hcy, rfl⟩ | ⟨hok, gb, rfl, hg⟩⟩
    · have HX1 := Lib.hid hx1
      clear hx1 hin
      go_wp2_with fail
      refine (knownW w1).mono ?_
      rintro e w9 ⟨rfl, hx9⟩
      have HX9 := Lib.hid hx9
      clear hx9
      go_wp2
      (try rw [Exit.noGoto_ret])
      go_ret
      exact ⟨rfl, HX1.out.trans' (HX9.out)⟩
    · have HX1 := Lib.hid hx1
      clear hx1 hin hcy
      go_wp2_with fail
      refine (knownW w1).mono ?_
      rintro e w9 ⟨rfl, hx9⟩
      have HX9 := Lib.hid hx9
      clear hx9
      go_wp2
      (try rw [Exit.noGoto_ret])
      go_ret
      exact ⟨rfl, HX1.out.trans' (HX9.out)⟩
    · have HX1 := Lib.hid hx1
      have HIN : Hid (inRg ls.length ls = true) := hok.1
      have HOKG := Lib.hid hok
      rw [HLN.out] at hg
      have HG1 := Lib.hid hg
      clear hx1 hok hg
      have HL1 : Hid (∀ l ∈ ls, l.length ≤ 1000000) := fun l hl => by have := len_le_tot hl; have := H100.out; omega
      have HBE := Lib.hid (bef_ok H100.out HIN.out)
      have HHE := Lib.hid (beh_ok H100.out HIN.out)
      rw [HLN.out] at HBE HHE
      have HST := Lib.hid (stands HOKG.out H100.out)
      obtain ⟨o, HOO⟩ : ∃ o, Hid (ordG ls = o) := ⟨_, rfl⟩
      have HOL : Hid (o.length = n) := by show _ = _; rw [← HOO.out, HOKG.out.2, HLN.out]
      have HND : Hid (o.Nodup) := by rw [← HOO.out]; exact HST.out.nd
      have HRO : Hid (Rng n o) := by rw [← HOO.out, ← HLN.out]; exact HST.out.rg
      have HAO : Hid (∀ v, v < n → (v : Int) ∈ o) := by rw [← HOO.out, ← HLN.out]; exact HST.out.all
      rw [HOO.out] at HG1
      go_wp2_with fail
      refine (orderG gb n _ _ _ w1 HG1.out (by rw [HOL.out]; omega)).mono ?_
      rintro e w2 ⟨v2, rfl, ho2, hx2⟩
      have hsl2 := ho2.slice
      rw [HOL.out] at hsl2
      obtain ⟨A2, c2, rfl, _, hr2⟩ := hsl2
      have HR2 := Lib.hid hr2
      have HX2 : Hid (Ext w w2) := HX1.out.trans' hx2
      have HG2 := Lib.hid (HG1.out.ext hx2)
      obtain ⟨i0, hi0, hz0, hz1, hz2⟩ := info_parts Try.infoIntD
      obtain ⟨i1, hj0, hy0, hy1, hy2⟩ := info_parts Try.infoBD
      clear ho2 hr2 hx2
      go_wp2_with (at_make; refine wpList_make_full w2 rfl _ _ 23 rfl w2.heap.size 3 i0 (.int .i64 0) 1 Try.underlying23 hi0 hz0 hz1 .i64 .i64 _ _ n rfl rfl rfl rfl (by rw [hz2]; omega) (by simp only [maxLen]; omega) (Nat.le_refl _) ?_; intro wmA hown hgrow; have HMA : Hid (Ext w2 wmA) := (Ext.rfl' (w := w2)).grown hgrow (Nat.le_refl _) (fun k hk => by cases hk); have HOmA := Lib.hid hown; clear hown hgrow)
      obtain ⟨N2, HN2⟩ : ∃ N2, Hid (w2.heap.size = N2) := ⟨_, rfl⟩
      have HAT0 : Hid (OI wmA w2.heap.size (.slice (some ⟨N2, 0, none⟩) n n) (atL o n 0)) := by
        rw [← HN2.out]
        refine OI.of_n (n := n) ?_ (atL_len o n 0)
        have h2 := HOmA.out
        rw [flat_encI, atL, List.map_replicate]
        simpa [Value.cells, toList_madeCells_one] using h2
      rw [HN2.out]
      clear HOmA
      go_loopw [7] (fun i wr => ∃ k : Nat, k ≤ n ∧ i = .int .i64 k ∧ Hid (OI wr w2.heap.size (.slice (some ⟨N2, 0, none⟩) n n) (atL o n k)) ∧ Hid (Ext w2 wr)) (fun i _ => n - (intOf i).toNat)
      case atStart => exact ⟨0, by omega, rfl, HAT0.out, HMA.out⟩
      case round =>
        obtain ⟨k, hk, rfl, HAT, HXA⟩ := hrel
        by_cases hlt : k < n
        · have hkn : (k : Int) < (n : Int) := by omega
          obtain ⟨b, off, x, rfl, -, hx, hd0⟩ := RdI.cut (HR2.out.ext HXA.out) hlt
          obtain ⟨hx0, hxn⟩ := HRO.out x (List.mem_of_getElem? hx)
          obtain ⟨X, rfl⟩ : ∃ X : Nat, x = (X : Int) := ⟨x.toNat, by omega⟩
          have hXn : X < n := by omega
          have hXn2 : (X : Int) < (n : Int) := by omega
          have d0 : decide ((X : Int) < 0) = false := decide_eq_false (by omega)
          have d1 : decide ((X : Int) ≥ (n : Int)) = false := decide_eq_false (by omega)
          have hpos : posO o X = k := posO_at HND.out hx
          have hz : (atL o n k)[X]? = some 0 := by
            have h1 := atL_get HND.out HRO.out HAO.out hXn k (by rw [HOL.out]; exact hk)
            rw [if_neg (by omega), List.getD, List.getElem?_eq_getElem (by rw [atL_len]; exact hXn), Option.getD] at h1
            rw [List.getElem?_eq_getElem (by rw [atL_len]; exact hXn), h1]
          have hcz := (HAT.out.cells2).1 X 0 hz
          have hfz := (HAT.out.cells2).2 X
          have HNX : Hid ((atL o n k).set X ((k : Int) + 1) = atL o n (k + 1)) := by show _ = _; rw [atL, List.getD, hx]; rfl
          have HSTO := Lib.hid (OI.store2 HAT.out (atL_len o n k) X ((k : Int) + 1))
          have HXB : Hid (Ext w2 (wr.setCell ⟨N2, X, none⟩ (.int .i64 ((k : Int) + 1)))) := HXA.out.setCell (own_obj HAT.out (g := N2) rfl).1 _
          clear hx hz hpos hx0 hxn
          go_wp2
          go_roundw
          case rel => exact ⟨k + 1, by omega, by go_num, by rw [← HNX.out]; exact HSTO.out, HXB.out⟩
          case measure => simp [intOf]; omega
        · have hkn : ¬ (k : Int) < (n : Int) := by omega
          obtain rfl : n = k := by omega
          obtain ⟨wB, HWB⟩ : ∃ wB, wB = wr := ⟨_, rfl⟩
          subst HWB
          have HAV : Hid (∀ V, V < n → (atL o n n)[V]? = some ((posO o V : Int) + 1)) := fun V hV => by
            have h1 := atL_get HND.out HRO.out HAO.out hV n (by rw [HOL.out]; exact Nat.le_refl _)
            have h2 : posO o V < n := by
              have := List.idxOf_lt_length_of_mem (HAO.out V hV); rw [HOL.out] at this; exact this
            rw [if_pos h2, List.getD, List.getElem?_eq_getElem (by rw [atL_len]; exact hV), Option.getD] at h1
            rw [List.getElem?_eq_getElem (by rw [atL_len]; exact hV), h1]
          have HXB : Hid (Ext w wB) := HX2.out.trans' HXA.out
          have HGB := Lib.hid (HG2.out.ext HXA.out)
          go_wp2
          go_loopw [8] (fun i wr => ∃ v : Nat, v ≤ n ∧ i = .int .i64 v ∧ Hid (Ext wB wr)) (fun i _ => n - (intOf i).toNat)
          case atStart => exact ⟨0, by omega, rfl, Ext.rfl'⟩
          case round =>
            obtain ⟨V, hV, rfl, HXC⟩ := hrel
            by_cases hVn : V < n
            · have hVn2 : (V : Int) < (n : Int) := by omega
              have hV0 : (0 : Int) ≤ (V : Int) := Int.natCast_nonneg _
              go_wp2_with fail
              have hxa : Ext wr (wr.alloc (.cells #[.int .i64 (V : Int)] 3)) := Ext.rfl'.alloc (Nat.le_refl _) _
              refine (aboveG gb n 1 1 (some ⟨wr.heap.size, 0, none⟩) _ _ _ [(V : Int)] _ (HGB.out.ext (HXC.out.trans' hxa)) (rdI_lit wr [(V : Int)] rfl rfl (by omega)) (by omega) (by omega) HBE.out).mono ?_
              rintro e wD ⟨v3, rfl, ho3, hx3⟩
              obtain ⟨p, HP⟩ : ∃ p, Hid ((cloG (befG ls) [(V : Int)]).length = p) := ⟨_, rfl⟩
              have hsl3 := ho3.slice
              rw [HP.out] at hsl3
              obtain ⟨A3, c3, rfl, _, hr3⟩ := hsl3
              have HR3 := Lib.hid hr3
              have HXD : Hid (Ext wB wD) := HXC.out.trans' (hxa.trans' hx3)
              have HFAR : Hid (∀ x ∈ cloG (befG ls) [(V : Int)], (0 ≤ x ∧ x < (n : Int)) ∧ posO o x.toNat < posO o V) := fun x hx => by
                rw [far_above HIN.out (by rw [HLN.out]; exact HBE.out), farT] at hx
                obtain ⟨i, rfl, hi, hp⟩ := (numsK_mem _ _ _).1 hx
                rw [List.any_cons, List.any_nil, Bool.or_false, Bool.and_eq_true, if_pos rfl, Int.toNat_natCast, reach_iff (by rw [HLN.out]; exact hVn) hi] at hp
                rw [HLN.out] at hi
                refine ⟨⟨by omega, by omega⟩, ?_⟩
                have := HST.out.way_lt hp.2
                rw [HOO.out] at this
                rw [Int.toNat_natCast]; exact this
              have hp1000 : p ≤ 1000 := by rw [← HP.out, cloG]; have := numsK_len (fun i => (cloS (befG ls) [(V : Int)]).getD i false) (befG ls).length; have h2 := befG_len ls; have h3 := HLN.out; omega
              clear ho3 hr3 hx3 hxa
              go_wp2
              go_loopw [10] (fun i wr => ∃ j : Nat, j ≤ p ∧ i = .int .i64 j ∧ Hid (Ext wD wr)) (fun i _ => p - (intOf i).toNat)
              case atStart => exact ⟨0, by omega, rfl, Ext.rfl'⟩
              case round =>
                obtain ⟨j, hj, rfl, HXE⟩ := hrel
                by_cases hjp : j < p
                · have hjp2 : (j : Int) < (p : Int) := by omega
                  have hj0 : (0 : Int) ≤ (j : Int) := Int.natCast_nonneg _
                  obtain ⟨b, off, x, rfl, -, hx, hd0⟩ := RdI.cut (HR3.out.ext HXE.out) hjp
                  obtain ⟨⟨hx0, hxn⟩, hps⟩ := HFAR.out x (List.mem_of_getElem? hx)
                  obtain ⟨X, rfl⟩ : ∃ X : Nat, x = (X : Int) := ⟨x.toNat, by omega⟩
                  rw [Int.toNat_natCast] at hps
                  have hXn : X < n := by omega
                  have hXn2 : (X : Int) < (n : Int) := by omega
                  have hX0 : (0 : Int) ≤ (X : Int) := Int.natCast_nonneg _
                  have hat := HAT.out.ext (HXD.out.trans' HXE.out)
                  have hcX := (hat.cells2).1 X _ (HAV.out X hXn)
                  have hcV := (hat.cells2).1 V _ (HAV.out V hVn)
                  have d0 : decide ((posO o X : Int) + 1 ≥ (posO o V : Int) + 1) = false := decide_eq_false (by omega)
                  have d1 : ((posO o X : Int) + 1 == 0) = false := by simp; omega
                  obtain ⟨pX, HPX⟩ : ∃ pX, Hid ((posO o X : Int) + 1 = pX) := ⟨_, rfl⟩
                  obtain ⟨pV, HPV⟩ : ∃ pV, Hid ((posO o V : Int) + 1 = pV) := ⟨_, rfl⟩
                  rw [HPX.out] at hcX d0 d1
                  rw [HPV.out] at hcV d0
                  clear hx hat hps hx0 hxn
                  go_wp2
                  go_quiet (fail)
                  go_wp2
                  go_roundw
                  case rel => exact ⟨j + 1, by omega, by go_num, below_drewN' HXE.out _⟩
                  case measure => simp [intOf]; omega
                · have hjp2 : ¬ (j : Int) < (p : Int) := by omega
                  have HXF : Hid (Ext wB wr) := HXD.out.trans' HXE.out
                  go_wp2
                  go_roundw
                  case rel => exact ⟨V + 1, by omega, by go_num, HXF.out⟩
                  case measure => simp [intOf]; omega
            · have hVn2 : ¬ (V : Int) < (n : Int) := by omega
              have HXG : Hid (Ext w wr) := HXB.out.trans' HXC.out
              have HGG := Lib.hid (HGB.out.ext HXC.out)
              go_wp2_with fail
              refine (levelsW gb n _ _ _ wr HGG.out (by omega) HBE.out HRO.out (by rw [HOL.out]; omega)).mono ?_
              rintro e w6 ⟨A6, c6, rfl, hr6, hx6⟩
              have HLT : Hid (levelsG (befG ls) o = lvlK (levT ls) n) := by show _ = _; rw [levelsG, ← HOO.out, befG_len, HLN.out]; rfl
              rw [HLT.out] at hr6 ⊢
              obtain ⟨lv, HLV⟩ : ∃ lv, Hid (levT ls = lv) := ⟨_, rfl⟩
              have hlvok := levs_ok (fun l hl => (HBE.out l hl).1) (ordG ls) (ordG ls).length (Nat.le_refl _)
              rw [List.take_length] at hlvok
              have HL0 : Hid (∀ x ∈ lv, 0 ≤ x) := fun x hx => by
                rw [← HLV.out] at hx
                exact (hlvok.1 x hx).1
              have HLLT : Hid (∀ (v : Nat), v < n → ∀ u ∈ ls.getD v [], lv.getD u.toNat 0 < lv.getD v 0) := fun v hv u hu => by
                rw [← HLV.out]
                exact levT_lt HST.out HIN.out (fun l hl => (HBE.out l hl).1) (by rw [HLN.out]; exact hv) hu
              have HROW : Hid (∀ k, (lvlK lv n).getD k [] = numsK (fun v => decide ((lv.getD v 0).toNat = k)) n) := fun k => lvlK_getD HL0.out k n
              have HTOT : Hid (tot (lvlK lv n) = n) := tot_lvlK lv n
              have HGN : Hid (∀ v : Nat, v < n → 0 ≤ lv.getD v 0) := fun v hv => by
                rw [List.getD]
                cases hh : lv[v]? with
                | none => simp
                | some x => exact HL0.out x (List.mem_of_getElem? hh)
              rw [HLV.out] at hr6 ⊢
              obtain ⟨K, HK⟩ : ∃ K, Hid ((lvlK lv n).length = K) := ⟨_, rfl⟩
              rw [HK.out] at hr6 ⊢
              obtain ⟨rows, HRW⟩ : ∃ rows, Hid (lvlK lv n = rows) := ⟨_, rfl⟩
              rw [HRW.out] at hr6 HROW HTOT HK
              have HR6 := Lib.hid hr6
              have HX6 : Hid (Ext w w6) := HXG.out.trans' hx6
              have HG6 := Lib.hid (HGG.out.ext hx6)
              have hK : K ≤ 100000 := by
                rw [← HK.out, ← HRW.out]
                have h1 := lvlK_ok (lv := lv) (T := 10000) (fun x hx => by
                  rw [← HLV.out] at hx
                  have h1 := hlvok.1 x hx
                  have h2 := HOKG.out.2
                  have h3 := HLN.out
                  omega) n
                omega
              clear hr6 hx6 hlvok
              go_wp2_with (at_make; refine wpList_make_full w6 rfl _ _ 39 rfl w6.heap.size 4 i1 (.bool false) 1 Try.underlying39 hj0 hy0 hy1 .i64 .i64 _ _ n rfl rfl rfl rfl (by rw [hy2]; omega) (by simp only [maxLen]; omega) (Nat.le_refl _) ?_; intro wmB hown hgrow; have HMB : Hid (Ext w6 wmB) := (Ext.rfl' (w := w6)).grown hgrow (Nat.le_refl _) (fun k hk => by cases hk); have HOmB := Lib.hid hown; clear hown hgrow)
              obtain ⟨N6, HN6⟩ : ∃ N6, Hid (w6.heap.size = N6) := ⟨_, rfl⟩
              have HSE0 : Hid (OB wmB w6.heap.size (.slice (some ⟨N6, 0, none⟩) n n) (seenL lv n 0 [])) := by
                rw [← HN6.out, seenL_zero]
                have h2 := HOmB.out
                show wmB.ownsRow _ _ _ _ (List.replicate n false).length ((List.replicate n false).map Value.bool)
                rw [List.length_replicate, List.map_replicate]
                simpa [Value.cells, toList_madeCells_one] using h2
              rw [HN6.out]
              clear HOmB
              go_loopw [13, 14] (fun s i wr => ∃ k : Nat, k ≤ K ∧ i = .int .i64 k ∧ s = .int .i64 (tot (rows.take k)) ∧ Hid (OB wr w6.heap.size (.slice (some ⟨N6, 0, none⟩) n n) (seenL lv n k [])) ∧ Hid (Ext w6 wr)) (fun _ i _ => K - (intOf i).toNat)
              case atStart => exact ⟨0, by omega, rfl, rfl, HSE0.out, HMB.out⟩
              case round =>
                obtain ⟨k, hk, rfl, rfl, HSE, HXH⟩ := hrel
                by_cases hlt : k < K
                · have hkK : (k : Int) < (K : Int) := by omega
                  obtain ⟨wE, HWE⟩ : ∃ wE, wE = wr := ⟨_, rfl⟩
                  subst HWE
                  obtain ⟨b, off, A', c', l, rfl, -, hl2, hcl, -, hrl, -, hin⟩ := HR6.out.at_ hlt
                  obtain ⟨m, HM⟩ : ∃ m, Hid (l.length = m) := ⟨_, rfl⟩
                  rw [HM.out] at hcl hrl
                  have HCL := Lib.hid hcl
                  have HRL := Lib.hid hrl
                  have HLE : Hid (l = numsK (fun v => decide ((lv.getD v 0).toNat = k)) n) := by show _ = _; rw [← HROW.out k, RdLL.getD_ hl2]
                  have HTK : Hid (tot (rows.take (k + 1)) = tot (rows.take k) + m) := by show _ = _; rw [take_snoc' hl2, tot_snoc, HM.out]
                  have htk := tot_take_le rows (k + 1)
                  obtain ⟨T0, HT0⟩ : ∃ T0, Hid (tot (rows.take k) = T0) := ⟨_, rfl⟩
                  rw [HT0.out] at HTK ⊢
                  have htn : T0 + m ≤ n := by have h1 := HTK.out; have h2 := HTOT.out; omega
                  clear hl2 hcl hrl hin htk
                  go_wp2
                  go_loopw [13, 15] (fun s i wr => ∃ j : Nat, j ≤ m ∧ i = .int .i64 j ∧ s = .int .i64 (T0 + j : Nat) ∧ Hid (Ext wE wr)) (fun _ i _ => m - (intOf i).toNat)
                  case atStart => exact ⟨0, by omega, rfl, by simp, Ext.rfl'⟩
                  case round =>
                    obtain ⟨j, hj, rfl, rfl, HXI⟩ := hrel
                    have hcl := (HXH.out.trans' HXI.out).cell' HCL.out
                    by_cases hjm : j < m
                    · have hjm2 : (j : Int) < (m : Int) := by omega
                      obtain ⟨b5, o5, x, rfl, -, hx, hd0⟩ := RdI.cut (HRL.out.ext (HXH.out.trans' HXI.out)) hjm
                      have hxm := List.mem_of_getElem? hx
                      rw [HLE.out] at hxm
                      obtain ⟨X, rfl, hXn, hXk⟩ := (numsK_mem _ _ _).1 hxm
                      have hXk2 : (lv.getD X 0).toNat = k := by simpa using hXk
                      obtain ⟨q, HQ⟩ : ∃ q, Hid ((tidyI (ls.getD X [])).length = q) := ⟨_, rfl⟩
                      have HEQ : Hid ((if 0 ≤ (X : Int) ∧ (X : Int) < n then (befG ls).getD (X : Int).toNat [] else []) = tidyI (ls.getD X [])) := by
                        show _ = _
                        rw [if_pos ⟨by omega, by omega⟩, Int.toNat_natCast, befG_getD]
                      have HBEL : Hid (∀ u ∈ tidyI (ls.getD X []), (0 ≤ u ∧ u < (n : Int)) ∧ (lv.getD u.toNat 0).toNat < k) := fun u hu => by
                        have hu' := ((tidyI_ok _).2 u).1 hu
                        have h1 := getD_rng HIN.out X u hu'
                        rw [HLN.out] at h1
                        have h2 := HLLT.out X hXn u hu'
                        have h3 := HGN.out u.toNat (by omega)
                        exact ⟨h1, by omega⟩
                      have HBG := Lib.hid (beforeG gb n _ _ _ (X : Int) wr (HG6.out.ext (HXH.out.trans' HXI.out)) (bef_len H100.out))
                      rw [HEQ.out] at HBG
                      have hq1000 : q ≤ 1000 := by
                        rw [← HQ.out]
                        have h1 := tidyI_len (ls.getD X [])
                        have h2 : (ls.getD X []).length ≤ tot ls := by
                          rw [List.getD]
                          cases hh : ls[X]? with
                          | none => simp
                          | some l => exact len_le_tot (List.mem_of_getElem? hh)
                        have := H100.out; omega
                      clear hx hxm hXk
                      go_wp2_with fail
                      refine HBG.out.mono ?_
                      rintro e wF ⟨v7, rfl, ho7, hx7⟩
                      have hsl7 := ho7.slice
                      rw [HQ.out] at hsl7
                      obtain ⟨A7, c7, rfl, _, hr7⟩ := hsl7
                      have HR7 := Lib.hid hr7
                      have HXJ : Hid (Ext wE wF) := HXI.out.trans' hx7
                      clear ho7 hr7 hx7 hcl hd0
                      go_wp2
                      go_loopw [17] (fun i wr => ∃ y : Nat, y ≤ q ∧ i = .int .i64 y ∧ Hid (wF = wr)) (fun i _ => q - (intOf i).toNat)
                      case atStart => exact ⟨0, by omega, rfl, rfl⟩
                      case round =>
                        obtain ⟨y, hy, rfl, HWF⟩ := hrel
                        have hwf := HWF.out
                        subst hwf
                        by_cases hyq : y < q
                        · have hyq2 : (y : Int) < (q : Int) := by omega
                          obtain ⟨b8, o8, u, rfl, -, hu, hd8⟩ := RdI.cut HR7.out hyq
                          obtain ⟨⟨hu0, hun⟩, huk⟩ := HBEL.out u (List.mem_of_getElem? hu)
                          obtain ⟨U, rfl⟩ : ∃ U : Nat, u = (U : Int) := ⟨u.toNat, by omega⟩
                          rw [Int.toNat_natCast] at huk
                          have hUn : U < n := by omega
                          have hUn2 : (U : Int) < (n : Int) := by omega
                          have hsE := (OB.cells2 (own_ext' HSE.out HXJ.out)).1 U true (by rw [seenL_at hUn, decide_eq_true huk]; rfl)
                          clear hu hu0 hun huk
                          go_wp2
                          go_roundw
                          case rel => exact ⟨y + 1, by omega, by go_num, (by first | exact rfl | exact True.intro)⟩
                          case measure => simp [intOf]; omega
                        · have hyq2 : ¬ (y : Int) < (q : Int) := by omega
                          go_wp2
                          go_roundw
                          case rel => exact ⟨j + 1, by omega, by go_num, by go_num, HXJ.out⟩
                          case measure => simp [intOf]; omega
                    · have hjm2 : ¬ (j : Int) < (m : Int) := by omega
                      obtain rfl : m = j := by omega
                      have HSEI := Lib.hid (own_ext' HSE.out HXI.out)
                      have HXK : Hid (Ext w6 wr) := HXH.out.trans' HXI.out
                      go_wp2
                      go_loopw [18] (fun i wr => ∃ j : Nat, j ≤ m ∧ i = .int .i64 j ∧ Hid (OB wr w6.heap.size (.slice (some ⟨N6, 0, none⟩) n n) (seenL lv n k (l.take j))) ∧ Hid (Ext w6 wr)) (fun i _ => m - (intOf i).toNat)
                      case atStart => exact ⟨0, by omega, rfl, HSEI.out, HXK.out⟩
                      case round =>
                        obtain ⟨j, hj, rfl, HSJ, HXL⟩ := hrel
                        have hcl := HXL.out.cell' HCL.out
                        by_cases hjm : j < m
                        · have hjm3 : (j : Int) < (m : Int) := by omega
                          obtain ⟨b5, o5, x, rfl, -, hx, hd0⟩ := RdI.cut (HRL.out.ext HXL.out) hjm
                          have hxm := List.mem_of_getElem? hx
                          rw [HLE.out] at hxm
                          obtain ⟨X, rfl, hXn, hXk⟩ := (numsK_mem _ _ _).1 hxm
                          have hXn2 : (X : Int) < (n : Int) := by omega
                          obtain ⟨y, hy⟩ : ∃ y, (seenL lv n k (l.take j))[X]? = some y := ⟨_, seenL_at hXn⟩
                          have hcy := (HSJ.out.cells2).1 X y hy
                          have hfy := (HSJ.out.cells2).2 X
                          have HNX : Hid ((seenL lv n k (l.take j)).set X true = seenL lv n k (l.take (j + 1))) := by show _ = _; rw [seenL_set, take_snoc' hx]
                          have HSTO := Lib.hid (OB.store HSJ.out (seenL_len _ _ _ _) X true)
                          have HXM : Hid (Ext w6 (wr.setCell ⟨N6, X, none⟩ (.bool true))) := HXL.out.setCell (own_obj HSJ.out (g := N6) rfl).1 _
                          clear hx hxm hXk hy
                          go_wp2
                          go_roundw
                          case rel => exact ⟨j + 1, by omega, by go_num, by rw [← HNX.out]; exact HSTO.out, HXM.out⟩
                          case measure => simp [intOf]; omega
                        · have hjm3 : ¬ (j : Int) < (m : Int) := by omega
                          obtain rfl : m = j := by omega
                          have HNX : Hid (seenL lv n k (l.take m) = seenL lv n (k + 1) []) := by
                            show _ = _
                            rw [List.take_of_length_le (by rw [HM.out]; exact Nat.le_refl _), HLE.out, seenL_next]
                          rw [HNX.out] at HSJ
                          go_wp2
                          go_roundw
                          case rel => exact ⟨k + 1, by omega, by go_num, (by rw [HTK.out]; first | go_num | (simp; done)), HSJ.out, HXL.out⟩
                          case measure => simp [intOf]; omega
                · have hkK : ¬ (k : Int) < (K : Int) := by omega
                  obtain rfl : K = k := by omega
                  have HTN : Hid (tot (rows.take K) = n) := by show _ = _; rw [List.take_of_length_le (by rw [HK.out]; exact Nat.le_refl _), HTOT.out]
                  rw [HTN.out]
                  have HXN : Hid (Ext w wr) := HX6.out.trans' HXH.out
                  have dnn : ((n : Int) == (n : Int)) = true := by simp
                  go_wp2_with fail
                  refine (knownW wr).mono ?_
                  rintro e w9 ⟨rfl, hx9⟩
                  have HX9 := Lib.hid hx9
                  clear hx9
                  go_wp2
                  (try rw [Exit.noGoto_ret])
                  go_ret
                  exact ⟨rfl, HXN.out.trans' HX9.out⟩
end Go.Proofs.Ytmejjeeobhapfaa
