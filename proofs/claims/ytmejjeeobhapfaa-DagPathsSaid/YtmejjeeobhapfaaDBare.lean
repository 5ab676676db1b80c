/-
  Walk: without what one waits for over others. Conditions: none.
-/
import Derived.Test.YtmejjeeobhapfaaDBareP
namespace Go.Proofs.Ytmejjeeobhapfaa
open Go.RowKit
set_option linter.unusedVariables false
set_option linter.unusedSimpArgs false

theorem bsearchI (A : Option Addr) (n c : Nat) (l : List Int) (x : Int) (w : World) (hr : RdI w A n l) (hn : n ≤ 1000000) (hs : l.Pairwise (· ≤ ·)) :
    Calls Try.prog 36 #[.slice A n c, .int .i64 x] w fun e w' => ∃ pos : Int, e = .returned (.tuple #[.int .i64 pos, .bool (decide (x ∈ l))]) ∧ Ext w w' := by
  have hl := RdL.len hr
  rcases Nat.eq_zero_or_pos n with h0 | h0
  · subst h0
    obtain rfl : l = [] := List.length_eq_zero_iff.1 hl
    exact (Try.slices_BinarySearch_int_empty A c x w).mono fun e w' ⟨h1, h2⟩ => ⟨0, by rw [h1]; simp, by rw [h2]; exact Ext.rfl'⟩
  · rcases hr.2.2.2 with h | ⟨b, off, hA, _, hc⟩
    · omega
    subst hA
    refine (Try.slices_BinarySearch_int b off n c l x w (by omega) (by omega) (fun j hj => ?_) (by rw [List.take_of_length_le (by omega)]; exact hs)).mono fun e w' ⟨h1, q, h2⟩ => ⟨_, h1.trans (by rw [show (l.take n).contains x = decide (x ∈ l) by rw [List.take_of_length_le (by omega), Bool.eq_iff_iff]; simp]), by rw [h2]; exact below_drewN' Ext.rfl' q⟩
    refine hc j _ ?_
    rw [flat_encI, List.getElem?_map, List.getElem?_eq_getElem hj]
    simp [List.getD, hj]
theorem rdI_notN {w w' : World} {base N n : Nat} {e : TypeId} {xs : List Value} (ho : w.ownsRow base e 1 (.slice (some ⟨N, 0, none⟩) n n) n xs) (hx : ∀ x ∈ xs, ∃ A m c, x = .slice A m c) {A : Option Addr} {m : Nat} {l : List Int} (hr : RdI w A m l) (hm : Mod [N] w w') : RdI w' A m l := by
  refine ⟨hr.1, hr.2.1, hr.2.2.1, ?_⟩
  rcases hr.2.2.2 with h0 | ⟨b, off, hA, hb, hc⟩
  · exact .inl h0
  rcases Nat.eq_zero_or_pos m with h0 | h0
  · exact .inl h0
  have hne : b ≠ N := fun e => by
    subst e
    have hl := RdL.len hr
    obtain ⟨x, hx0⟩ : ∃ x, l[0]? = some x := ⟨_, List.getElem?_eq_getElem (by omega)⟩
    have h1 := hc 0 (.int .i64 x) (by rw [flat_encI, List.getElem?_map, hx0]; rfl)
    rcases ho.2 with ⟨h2, _⟩ | ⟨g, cap, cur, hv, _, hg, _, _, hs, ht⟩
    · cases h2
    · injection hv with hv _ hcap
      injection hv with hv
      injection hv with hv
      subst hv
      rw [cell_of_row w b (off + 0) cur _ (0, 0) hg] at h1
      have h3 : xs[off + 0]? = some (.int .i64 x) := by
        rw [← ht, List.getElem?_take, if_pos (by have := (Array.getElem?_eq_some_iff.1 h1).1; omega), Array.getElem?_toList]; exact h1
      obtain ⟨A', m', c', h4⟩ := hx _ (List.mem_of_getElem? h3)
      cases h4
  exact .inr ⟨b, off, hA, Nat.lt_of_lt_of_le hb hm.size, fun j u hu => (hm.cell hb (by simpa using hne)).trans (hc j u hu)⟩
def barK (bs : List (List Int)) (n k : Nat) : List (List Int) := (List.range n).map fun v => if v < k then bareRow bs v else []
theorem barK_len (bs : List (List Int)) (n k : Nat) : (barK bs n k).length = n := by simp [barK]
theorem barK_zero (bs : List (List Int)) (n : Nat) : barK bs n 0 = List.replicate n [] := by
  apply List.ext_getElem
  · simp [barK]
  · intro i h1 h2; simp [barK]
theorem barK_all (bs : List (List Int)) (n : Nat) (hn : bs.length = n) : barK bs n n = bareG bs := by
  subst hn
  exact List.map_congr_left (fun v hv => if_pos (by simpa using hv))
theorem barK_at {bs : List (List Int)} {n k : Nat} (hk : k < n) : (barK bs n k)[k]? = some [] := by
  rw [barK, List.getElem?_map, List.getElem?_range hk]; simp
theorem barK_set {bs : List (List Int)} {n k : Nat} (hk : k < n) : (barK bs n k).set k (bareRow bs k) = barK bs n (k + 1) := by
  apply List.ext_getElem
  · simp [barK]
  · intro i h1 h2
    rw [List.getElem_set]
    simp only [barK, List.getElem_map, List.getElem_range]
    by_cases h : k = i
    · subst h; simp
    · rw [if_neg h]
      by_cases h3 : i < k
      · rw [if_pos h3, if_pos (by omega)]
      · rw [if_neg h3, if_neg (by omega)]
set_option maxRecDepth 100000 in
set_option maxHeartbeats 2000000 in
theorem bareW (gb n : Nat) (bs hs : List (List Int)) (o : List Int) (w : World) (hg : GAt w gb n bs hs o) (hn : n ≤ 100) (hb : ∀ l ∈ bs, l.length ≤ 100 ∧ Rng n l) :
    Calls Try.prog 22 #[.pointer (some ⟨gb, 0, none⟩)] w (GivesLL (bareG bs) w) := by
  obtain ⟨i0, hi0, hz0, hz1, hz2⟩ := info_parts Try.infoIntD
  obtain ⟨i1, hj0, hy0, hy1, hy2⟩ := info_parts Try.infoSD
  obtain ⟨B, cb, H, ch, A, c, g0, g1, g2, hB, hH, hr⟩ := hg.cells
  have HG0 := Lib.hid g0
  have HB := Lib.hid hB
  have HBB := Lib.hid hb
  have HLB : Hid (bs.length = n) := hB.len
  clear hg hB hH hr g1 g2 hb
  go_enter Try.func22, Try.ntmps22
  go_wp2_with (at_make; refine wpList_make_full w rfl _ _ 22 rfl w.heap.size 23 i1 (.slice none 0 0) 1 Try.underlying22 hj0 hy0 hy1 .i64 .i64 _ _ n rfl rfl rfl rfl (by rw [hy2]; omega) (by simp only [maxLen]; omega) (Nat.le_refl _) ?_; intro wm hown hgrow; have HM : Hid (Ext w wm) := (Ext.rfl' (w := w)).grown hgrow (Nat.le_refl _) (fun k hk => by cases hk); have HOm := Lib.hid hown; have hgm := HM.out.cell' HG0.out; clear hown hgrow)
  have hst : OutSt w wm [] (.slice (some ⟨w.heap.size, 0, none⟩) n n) (List.replicate n (.slice none 0 0, [])) := by
    have h2 : wm.ownsRow w.heap.size 23 1 (.slice (some ⟨w.heap.size, 0, none⟩) n n) (List.replicate n ((.slice none 0 0, []) : Row)).length ((List.replicate n ((.slice none 0 0, []) : Row)).map (·.1)) := by
      have h := HOm.out
      rw [List.length_replicate, List.map_replicate]
      simpa [Value.cells, toList_madeCells_one] using h
    refine ⟨⟨?_, ?_⟩, h2, HM.out⟩
    · intro r hr
      simp at hr
      rw [hr.2]
      exact OI.nil _ _
    · rw [List.nil_append, List.pairwise_replicate]
      exact .inr (fun g hg => by cases hg)
  have HST := Lib.hid hst
  obtain ⟨N, HN⟩ : ∃ N, Hid (w.heap.size = N) := ⟨_, rfl⟩
  rw [HN.out] at HST ⊢
  clear hst HOm g0 hgm
  go_loopw [24] (fun i wr => ∃ k : Nat, k ≤ n ∧ i = .int .i64 k ∧ Hid (∃ Or, OutSt w wr [] (.slice (some ⟨N, 0, none⟩) n n) Or ∧ Or.length = n ∧ Or.map (·.2) = barK bs n k ∧ ∀ i, k ≤ i → i < n → Or[i]? = some (.slice none 0 0, []))) (fun i _ => n - (intOf i).toNat)
  case atStart => exact ⟨0, by omega, rfl, _, HST.out, by simp, by rw [List.map_replicate, barK_zero], fun i _ hi => by rw [List.getElem?_replicate, if_pos hi]⟩
  case round =>
    obtain ⟨k, hk, rfl, HS⟩ := hrel
    obtain ⟨Or, hS, hlen, hmap, hnil⟩ := HS.out
    clear HS
    by_cases hlt : k < n
    · have hkn : (k : Int) < (n : Int) := by omega
      have hg0 := hS.ex.cell' HG0.out
      obtain ⟨b, off, A', c', l, rfl, -, hl2, hcl, -, hrl, -, -⟩ := (HB.out.ext hS.ex).at_ hlt
      obtain ⟨m, HM5⟩ : ∃ m, Hid (l.length = m) := ⟨_, rfl⟩
      have hm := (HBB.out l (List.mem_of_getElem? hl2)).1
      have HLR : Hid (Rng n l) := (HBB.out l (List.mem_of_getElem? hl2)).2
      rw [HM5.out] at hcl hrl hm
      have HCLO := Lib.hid (closG gb n cb cb m c' (some ⟨b, off, none⟩) (some ⟨b, off, none⟩) A' bs l wr hg0 (HB.out.ext hS.ex) hrl hn (by omega) HBB.out)
      have HRL := Lib.hid hrl
      have HBR : Hid (bareRow bs k = l.filter fun u => !decide (u ∈ cloG bs l)) := by show _ = _; rw [bareRow, RdLL.getD_ hl2]
      have HS := Lib.hid hS
      have HLEN := Lib.hid hlen
      have HMAP := Lib.hid hmap
      have HNIL := Lib.hid hnil
      have HPL : Hid ((cloG bs l).length ≤ 1000) := by
        have h1 := numsK_len (fun i => (cloS bs l).getD i false) bs.length
        have h2 := HLB.out
        show (numsK _ _).length ≤ 1000
        omega
      clear hS hlen hmap hl2 hrl hnil
      go_wp2_with fail
      refine HCLO.out.mono ?_
      rintro e wC ⟨v6, rfl, ho6, hx6⟩
      have hsl6 := ho6.slice
      obtain ⟨q6, HQ6⟩ : ∃ q6, Hid ((cloG bs l).length = q6) := ⟨_, rfl⟩
      rw [HQ6.out] at hsl6
      obtain ⟨A6, c6, rfl, _, hr6⟩ := hsl6
      have hq6 : q6 ≤ 1000 := by have := HPL.out; have := HQ6.out; omega
      have HR6 := Lib.hid hr6
      have HSC := Lib.hid (HS.out.ext hx6)
      have HRL2 := Lib.hid (HRL.out.ext hx6)
      obtain ⟨over, HOV⟩ : ∃ over, Hid (cloG bs l = over) := ⟨_, rfl⟩
      have HASC : Hid (over.Pairwise (· ≤ ·)) := by rw [← HOV.out]; exact (numsK_asc _ _).imp (fun h => by omega)
      rw [HOV.out] at HR6 HBR
      have HNC : Hid (wC.ownsRow w.heap.size 23 1 (.slice (some ⟨N, 0, none⟩) n n) n (Or.map (·.1))) := by have := HSC.out.oo; rwa [HLEN.out] at this
      have HXL : Hid (∀ wr, Mod [N] wC wr → RdI wr A' m l ∧ RdI wr A6 q6 over) := fun wr h => by
        have hsl : ∀ x ∈ Or.map (·.1), ∃ A m c, x = .slice A m c := fun x hx => by
          obtain ⟨r, hr, rfl⟩ := List.mem_map.1 hx
          obtain ⟨A, c, h1, _⟩ := OI.slice (HSC.out.sep.1 r (List.mem_append.2 (.inr hr)))
          exact ⟨A, _, c, h1⟩
        exact ⟨rdI_notN HNC.out hsl HRL2.out h, rdI_notN HNC.out hsl HR6.out h⟩
      have HSTART : Hid (Or.map (·.2) = (barK bs n k).set k ((l.take 0).filter fun u => !decide (u ∈ over))) := by
        show _ = _
        rw [HMAP.out, List.take_zero, List.filter_nil]
        apply List.ext_getElem?
        intro i
        rw [List.getElem?_set]
        split
        · rename_i e; subst e; rw [barK_at hlt, if_pos (by rw [barK_len]; exact hlt)]
        · rfl
      clear ho6 hr6 hx6 hcl hg0
      go_wp2
      go_loopw [38] (fun i wr => ∃ j : Nat, j ≤ m ∧ i = .int .i64 j ∧ Hid (∃ Or, OutSt w wr [] (.slice (some ⟨N, 0, none⟩) n n) Or ∧ Or.length = n ∧ Or.map (·.2) = (barK bs n k).set k ((l.take j).filter fun u => !decide (u ∈ over)) ∧ (∀ i, k + 1 ≤ i → i < n → Or[i]? = some (.slice none 0 0, [])) ∧ ∀ v5 l5, Or[k]? = some (v5, l5) → ∀ g, v5.ownBlock = some g → wC.heap.size ≤ g) ∧ Hid (Mod [N] wC wr)) (fun i _ => m - (intOf i).toNat)
      case atStart => exact ⟨0, by omega, rfl, ⟨Or, HSC.out, HLEN.out, HSTART.out, fun i h1 h2 => HNIL.out i (by omega) h2, fun v5 l5 h5 g hg => by rw [HNIL.out k (Nat.le_refl _) hlt] at h5; cases h5; cases hg⟩, Mod.refl _ _⟩
      case round =>
        obtain ⟨j, hj, rfl, HU, HMN⟩ := hrel
        have HRR := Lib.hid (HXL.out wr HMN.out)
        by_cases hjm : j < m
        · have hjm2 : (j : Int) < (m : Int) := by omega
          obtain ⟨b5, o5, x, rfl, -, hx, hd0⟩ := RdI.cut HRR.out.1 hjm
          obtain ⟨hx0, hxn⟩ := HLR.out x (List.mem_of_getElem? hx)
          obtain ⟨X, rfl⟩ : ∃ X : Nat, x = (X : Int) := ⟨x.toNat, by omega⟩
          have HBS := Lib.hid (bsearchI A6 q6 c6 over (X : Int) wr HRR.out.2 (by omega) HASC.out)
          have HTK : Hid (((l.take (j + 1)).filter fun u => !decide (u ∈ over)) = ((l.take j).filter fun u => !decide (u ∈ over)) ++ if (X : Int) ∈ over then [] else [(X : Int)]) := by
            show _ = _
            rw [take_snoc' hx, List.filter_append]
            congr 1
            by_cases h : (X : Int) ∈ over
            · simp [h]
            · simp [h]
          clear hx hx0 hxn
          by_cases hin : (X : Int) ∈ over
          · rw [decide_eq_true hin] at HBS
            replace HTK : Hid (((l.take (j + 1)).filter fun u => !decide (u ∈ over)) = ((l.take j).filter fun u => !decide (u ∈ over))) := by show _ = _; rw [HTK.out, if_pos hin, List.append_nil]
            clear hin
            go_wp2_with fail
            refine HBS.out.mono ?_
            rintro e wD ⟨pos, rfl, hx7⟩
            have HV : Hid (∃ Or, OutSt w wD [] (.slice (some ⟨N, 0, none⟩) n n) Or ∧ Or.length = n ∧ Or.map (·.2) = (barK bs n k).set k ((l.take (j + 1)).filter fun u => !decide (u ∈ over)) ∧ (∀ i, k + 1 ≤ i → i < n → Or[i]? = some (.slice none 0 0, [])) ∧ ∀ v5 l5, Or[k]? = some (v5, l5) → ∀ g, v5.ownBlock = some g → wC.heap.size ≤ g) := by
              obtain ⟨Or, h1, h2, h3, h4⟩ := HU.out
              exact ⟨Or, h1.ext hx7, h2, by rw [HTK.out]; exact h3, h4⟩
            have HRR2 : Hid (Mod [N] wC wD) := HMN.out.then_ext hx7
            clear hx7 hd0
            go_wp2
            go_roundw
            case rel => exact ⟨j + 1, by omega, by go_num, HV.out, HRR2.out⟩
            case measure => simp [intOf]; omega
          · rw [decide_eq_false hin] at HBS
            replace HTK : Hid (((l.take (j + 1)).filter fun u => !decide (u ∈ over)) = ((l.take j).filter fun u => !decide (u ∈ over)) ++ [(X : Int)]) := by show _ = _; rw [HTK.out, if_neg hin]
            clear hin
            go_wp2_with fail
            refine HBS.out.mono ?_
            rintro e wD ⟨pos, rfl, hx7⟩
            obtain ⟨wr', HWR⟩ : ∃ wr', wr' = wD := ⟨_, rfl⟩
            obtain ⟨Or, h1, h2, h3, h4n, h5g⟩ := HU.out
            have hU := h1.ext hx7
            have hmn : Mod [N] wC wD := HMN.out.then_ext hx7
            have H4N := Lib.hid h4n
            clear hx7 hd0 h1 HWR HRR HBS h4n
            obtain ⟨v5, l5, hr5⟩ : ∃ v5 l5, Or[k]? = some (v5, l5) := ⟨_, _, List.getElem?_eq_getElem (by omega)⟩
            have hl5 : l5 = (l.take j).filter fun u => !decide (u ∈ over) := by
              have h4 : (Or.map (·.2))[k]? = some l5 := by rw [List.getElem?_map, hr5]; rfl
              rw [h3, List.getElem?_set_self (by rw [barK_len]; exact hlt)] at h4
              injection h4 with h4; exact h4.symm
            have ho5 : OI wD w.heap.size v5 l5 := hU.sep.1 (v5, l5) (List.mem_append.2 (.inr (List.mem_of_getElem? hr5)))
            obtain ⟨p, HP⟩ : ∃ p, Hid (l5.length = p) := ⟨_, rfl⟩
            have hpb : p ≤ 1000 := by
              rw [← HP.out, hl5]
              have h5 := List.length_filter_le (fun u => !decide (u ∈ over)) (l.take j)
              have h6 := List.length_take_le j l
              omega
            have hsl5 := ho5.slice
            rw [HP.out] at hsl5
            obtain ⟨A5, c5, rfl, hp5, -⟩ := hsl5
            have howno : wD.ownsRow w.heap.size 23 1 (.slice (some ⟨N, 0, none⟩) n n) n (Or.map (·.1)) := by have := hU.oo; rwa [h2] at this
            have hgU : wD.cell? ⟨N, k, none⟩ = some (.slice A5 p c5) := by
              rw [World.ownsRow.cellAt howno k (by omega), List.getElem?_map, hr5]; rfl
            have hfU : wD.frozen? ⟨N, k, none⟩ = false := World.ownsRow.frozenAt howno k
            have hg4 : N < wD.heap.size := (own_obj howno (g := N) rfl).2.1
            have hNb : w.heap.size ≤ N := (own_obj howno (g := N) rfl).1
            have HAP : Hid ((Value.slice A5 p c5).ownBlock ≠ some N) := fun e => own_apart2 ho5 howno (by decide) N e rfl
            have hown5 : wD.ownsRow w.heap.size 3 1 (.slice A5 p c5) p (flat encI l5) := OI.n_ ho5 HP.out
            obtain ⟨FL, HF⟩ : ∃ FL, Hid (FL = flat encI l5) := ⟨_, rfl⟩
            rw [← HF.out] at hown5
            have HSZ : Hid (w.heap.size ≤ wD.heap.size) := hU.ex.size
            have HU2 := Lib.hid hU
            have HADD : Hid (∀ w1 gg cap o, w1.ownsRow w.heap.size 3 1 (.slice (some ⟨gg, 0, none⟩) (p + 1) cap) (p + 1) (flat encI l5 ++ [.int .i64 (X : Int)]) → (wD.alloc o).grownBy w1 (Value.slice A5 p c5).ownBlock → ((Value.slice A5 p c5).ownBlock = some gg ∨ gg = wD.heap.size + 1) →
                w1.cell? ⟨N, k, none⟩ = some (.slice A5 p c5) ∧ w1.frozen? ⟨N, k, none⟩ = false ∧ OutSt w (w1.setCell ⟨N, k, none⟩ (.slice (some ⟨gg, 0, none⟩) (p + 1) cap)) [] (.slice (some ⟨N, 0, none⟩) n n) (Or.set k (.slice (some ⟨gg, 0, none⟩) (p + 1) cap, l5 ++ [(X : Int)])) ∧
                wC.heap.size ≤ gg ∧ Mod [N] wC (w1.setCell ⟨N, k, none⟩ (.slice (some ⟨gg, 0, none⟩) (p + 1) cap))) := fun w1 gg cap o h1 h2' h3' => by
              have z1 : N < (wD.alloc o).heap.size := by simp; omega
              have hx : Ext wD (wD.alloc o) := (Ext.rfl' (w := wD)).alloc (Nat.le_refl _) o
              refine ⟨?_, ?_, HU2.out.addR h2 hr5 HP.out (((Mod.refl _ wD).alloc o).grown h2' (fun j hj => .inl (by rw [hj]; simp))) (OI.of_push h1 HP.out) (h3'.elim .inl (fun h => .inr (by omega))), ?_, ?_⟩
              · rw [h2'.cell_far ⟨N, k, none⟩ z1 (Ne.symm HAP.out)]; exact hx.cell' hgU
              · rw [h2'.frozen_far ⟨N, k, none⟩ z1 (Ne.symm HAP.out)]; exact (hx.frozen (p := ⟨N, k, none⟩) hg4).trans hfU
              · rcases h3' with h | h
                · exact h5g _ _ hr5 gg h
                · have := hmn.size; omega
              · exact ((hmn.alloc o).grown h2' (fun s hs => .inr (h5g _ _ hr5 s hs))).setCell (p := ⟨N, k, none⟩) (.inl (by simp)) _
            have HNI : Hid (∀ v, (∀ i, k + 1 ≤ i → i < n → (Or.set k ((v, l5 ++ [(X : Int)]) : Row))[i]? = some (.slice none 0 0, []))) := fun v i h1 h2' => by rw [List.getElem?_set_ne (by omega)]; exact H4N.out i h1 h2'
            have HNS : Hid (∀ v v' l', (Or.set k ((v, l5 ++ [(X : Int)]) : Row))[k]? = some (v', l') → v' = v) := fun v v' l' h => by rw [List.getElem?_set_self (by omega)] at h; cases h; rfl
            have HNM : Hid (∀ v, (Or.set k ((v, l5 ++ [(X : Int)]) : Row)).length = n ∧ (Or.set k ((v, l5 ++ [(X : Int)]) : Row)).map (·.2) = (barK bs n k).set k ((l.take (j + 1)).filter fun u => !decide (u ∈ over))) := fun v => by
              refine ⟨by rw [List.length_set, h2], ?_⟩
              rw [List.map_set, h3, List.set_set, HTK.out, hl5]
            clear hU hr5 ho5 howno hl5 h3 hmn h5g h2
            go_wp2_with (at_builtin; refine wpList_append_lies _ rfl _ _ _ rfl w.heap.size 3 i0 _ 1 8 Try.underlying23 hi0 hz0 hz1 hz2 rfl (by omega) _ p FL rfl (World.ownsRow.alloc hown5 _) ⟨wD.heap.size, 0, none⟩ 1 1 [.int .i64 (X : Int)] rfl rfl (World.news_of_block (cs := #[.int .i64 (X : Int)]) (t := 3) (fr := (0, 0)) (heap_alloc_new wD _)) (by simp [Value.oneCell']) (by omega) (by simp only [maxLen]; omega) (by omega) (by have := HSZ.out; first | (simp; done) | (simp; omega)) (wD.heap.size + 1) (by simp) ?_; intro gg cap w1 hown1 hgrow hat hlt2; have HXX := Lib.hid (HADD.out w1 gg cap _ (by rw [← HF.out]; exact hown1) hgrow hat); have hz1 := HXX.out.1; have hz2 := HXX.out.2.1; have HX1 := Lib.hid HXX.out.2.2; clear hown1 hgrow hat)
            go_roundw
            case rel => exact ⟨j + 1, by omega, by go_num, ⟨_, HX1.out.1, (HNM.out _).1, (HNM.out _).2, HNI.out _, fun v' l' h g hg => by rw [HNS.out _ v' l' h] at hg; cases hg; exact HX1.out.2.1⟩, HX1.out.2.2⟩
            case measure => simp [intOf]; omega
        · have hjm2 : ¬ (j : Int) < (m : Int) := by omega
          obtain rfl : m = j := by omega
          have HFN : Hid (∃ Or, OutSt w wr [] (.slice (some ⟨N, 0, none⟩) n n) Or ∧ Or.length = n ∧ Or.map (·.2) = barK bs n (k + 1) ∧ ∀ i, k + 1 ≤ i → i < n → Or[i]? = some (.slice none 0 0, [])) := by
            obtain ⟨Or, h1, h2, h3, h4, _⟩ := HU.out
            refine ⟨Or, h1, h2, ?_, h4⟩
            rw [h3, List.take_of_length_le (by rw [HM5.out]; exact Nat.le_refl _), ← HBR.out, barK_set hlt]
          go_wp2
          go_roundw
          case rel => exact ⟨k + 1, by omega, by go_num, HFN.out⟩
          case measure => simp [intOf]; omega
    · have hkn : ¬ (k : Int) < (n : Int) := by omega
      obtain rfl : n = k := by omega
      have HG := Lib.hid hS.gives
      rw [hmap, barK_all bs n HLB.out] at HG
      clear hS hmap hlen hnil
      go_wp2
      (try rw [Exit.noGoto_ret])
      go_ret
      exact HG.out
end Go.Proofs.Ytmejjeeobhapfaa
