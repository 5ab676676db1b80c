/-
  Walk: a graph is laid. Conditions: none.
-/
import Derived.Test.YtmejjeeobhapfaaDNewP
import Derived.Deep.RegionLaw
import Derived.Deep.DeepCutAuto
namespace Go.Proofs.Ytmejjeeobhapfaa
open Go.RowKit
set_option linter.unusedVariables false
set_option linter.unusedSimpArgs false

theorem Try.infoSD : (Try.prog.info? 23).map (fun i => (i.zero, i.size, i.bytes)) = some (some (.slice none 0 0), 1, 24) := by kernel_rfl
def tot (ls : List (List Int)) : Nat := (ls.map List.length).sum
theorem tot_snoc (ls : List (List Int)) (l : List Int) : tot (ls ++ [l]) = tot ls + l.length := by simp [tot]
theorem tot_take_le : ∀ (ls : List (List Int)) (k : Nat), tot (ls.take k) ≤ tot ls
  | [], k => by simp
  | l :: ls, 0 => by simp [tot]
  | l :: ls, k + 1 => by have := tot_take_le ls k; simp only [tot, List.take_succ_cons, List.map_cons, List.sum_cons] at this ⊢; omega
theorem len_le_tot : ∀ {ls : List (List Int)} {l : List Int}, l ∈ ls → l.length ≤ tot ls
  | x :: ls, l, h => by
    rcases List.mem_cons.1 h with rfl | h1
    · simp [tot]
    · have := len_le_tot h1; simp only [tot, List.map_cons, List.sum_cons] at this ⊢; omega
def OkR (n B : Nat) (hs : List (List Int)) : Prop := ∀ l ∈ hs, l.length ≤ B ∧ Rng n l
theorem pushes_ok {n k : Nat} (hk : k < n) : ∀ (l : List Int) (hs : List (List Int)) (B : Nat), OkR n B hs → OkR n (B + l.length) (l.foldl (pushB k) hs)
  | [], hs, B, h => h
  | x :: l, hs, B, h => by
    have h1 : OkR n (B + 1) (pushB k hs x) := fun r hr => by
      have hold : ∀ r ∈ hs, r.length ≤ B + 1 ∧ Rng n r := fun r hr => ⟨by have := (h r hr).1; omega, (h r hr).2⟩
      rw [pushB] at hr
      rcases List.mem_or_eq_of_mem_set hr with h2 | h2
      · exact hold r h2
      · have h3 : (hs.getD x.toNat []).length ≤ B ∧ Rng n (hs.getD x.toNat []) := by
          rw [List.getD]
          cases he : hs[x.toNat]? with
          | none => exact ⟨by simp, by simp [Rng]⟩
          | some l => exact h l (List.mem_of_getElem? he)
        subst h2
        refine ⟨by rw [List.length_append, List.length_singleton]; omega, fun y hy => ?_⟩
        rcases List.mem_append.1 hy with h4 | h4
        · exact h3.2 y h4
        · simp at h4; subst h4; omega
    have := pushes_ok hk l (pushB k hs x) (B + 1) h1
    simpa [List.foldl_cons, Nat.add_assoc, Nat.add_comm 1] using this
theorem behK_ok (bs : List (List Int)) (n : Nat) (hb : bs.length = n) : ∀ k, k ≤ n → OkR n (tot (bs.take k)) (behK bs n k)
  | 0, _ => fun l hl => by simp [behK] at hl; obtain ⟨_, rfl⟩ := hl; simp [Rng]
  | k + 1, hk => by
    have h1 := behK_ok bs n hb k (by omega)
    have hkl : bs[k]? = some bs[k] := List.getElem?_eq_getElem (by omega)
    have := pushes_ok (n := n) (k := k) (by omega) bs[k] _ _ h1
    rw [behK, RdLL.getD_ hkl, take_snoc' hkl, tot_snoc]
    exact this
theorem tot_bef (ls : List (List Int)) : tot (befG ls) ≤ tot ls := by
  induction ls with
  | nil => simp [befG]
  | cons l ls ih => have := tidyI_len l; simp only [tot, befG, List.map_cons, List.sum_cons] at ih ⊢; omega
def ordG (ls : List (List Int)) : List Int := ordS (befG ls) (behG ls)
/-- The graph as it lies. -/
def GAt (w : World) (gb n : Nat) (bs hs : List (List Int)) (o : List Int) : Prop := ∃ B cb H ch A c, w.heap[gb]? = some (.cells #[.slice B n cb, .slice H n ch, .slice A o.length c] 49) ∧ RdLL (fun _ => True) w B n bs ∧ RdLL (fun _ => True) w H n hs ∧ RdI w A o.length o
theorem GAt.ext {w w' : World} {gb n : Nat} {bs hs : List (List Int)} {o : List Int} (h : GAt w gb n bs hs o) (hx : Ext w w') : GAt w' gb n bs hs o := by
  obtain ⟨B, cb, H, ch, A, c, h1, h2, h3, h4⟩ := h
  exact ⟨B, cb, H, ch, A, c, (Mod.of_ext (S := []) hx).obj h1 (by simp), h2.ext hx, h3.ext hx, h4.ext hx⟩
def okG (ls : List (List Int)) : Prop := inRg ls.length ls = true ∧ (ordG ls).length = ls.length
def GivesNew (ls : List (List Int)) (w : World) (e : Ending) (w' : World) : Prop :=
  Ext w w' ∧ ((inRg ls.length ls = false ∧ e = .returned (.tuple #[.pointer none, .int .i64 2])) ∨ (inRg ls.length ls = true ∧ (ordG ls).length ≠ ls.length ∧ e = .returned (.tuple #[.pointer none, .int .i64 40])) ∨
    (okG ls ∧ ∃ gb, e = .returned (.tuple #[.pointer (some ⟨gb, 0, none⟩), .int .i64 0]) ∧ GAt w' gb ls.length (befG ls) (behG ls) (ordG ls)))
theorem inRg_snoc {n : Nat} {ls : List (List Int)} {l : List Int} (h : inRg n ls = true) (hl : ∀ x ∈ l, 0 ≤ x ∧ x < (n : Int)) : inRg n (ls ++ [l]) = true := by
  simp only [inRg, List.all_append, List.all_cons, List.all_nil, Bool.and_true, Bool.and_eq_true, List.all_eq_true, decide_eq_true_eq] at h ⊢
  exact ⟨h, hl⟩
theorem inRg_bad {n : Nat} {ls : List (List Int)} {l : List Int} {x : Int} (hl : l ∈ ls) (hx : x ∈ l) (h : ¬ (0 ≤ x ∧ x < (n : Int))) : inRg n ls = false := by
  rw [Bool.eq_false_iff]
  intro h1
  simp only [inRg, List.all_eq_true, Bool.and_eq_true, decide_eq_true_eq] at h1
  exact h (h1 l hl x hx)
set_option maxRecDepth 100000 in
set_option maxHeartbeats 2000000 in
theorem newW (A : Option Addr) (n c : Nat) (ls : List (List Int)) (w : World) (hr : RdLL (fun _ => True) w A n ls) (hn : n ≤ 100) (ht : tot ls ≤ 100) :
    Calls Try.prog 11 #[.slice A n c] w (GivesNew ls w) := by
  obtain ⟨i0, hi0, hz0, hz1, hz2⟩ := info_parts Try.infoIntD
  obtain ⟨i1, hj0, hy0, hy1, hy2⟩ := info_parts Try.infoSD
  have HR := Lib.hid hr
  have HLN : Hid (ls.length = n) := hr.len
  have HT := Lib.hid ht
  clear hr ht
  have hn2 : ¬ (n : Int) > 4096 := by omega
  go_enter Try.func11, Try.ntmps11
  go_wp2_with (at_make; refine wpList_make_full w rfl _ _ 22 rfl w.heap.size 23 i1 (.slice none 0 0) 1 Try.underlying22 hj0 hy0 hy1 .i64 .i64 _ _ n rfl rfl rfl rfl (by rw [hy2]; omega) (by simp only [maxLen]; omega) (Nat.le_refl _) ?_; intro wm hown hgrow; have HM : Hid (Ext w wm) := (Ext.rfl' (w := w)).grown hgrow (Nat.le_refl _) (fun k hk => by cases hk); have HOm := Lib.hid hown; clear hown hgrow)
  have hst : NewSt w (wm.alloc (.cells #[.slice none 0 0, .slice (some ⟨w.heap.size, 0, none⟩) n n, .slice none 0 0] 49)) wm.heap.size (.slice none 0 0) (.slice (some ⟨w.heap.size, 0, none⟩) n n) [] (List.replicate n (.slice none 0 0, [])) := by
    have h2 : wm.ownsRow w.heap.size 23 1 (.slice (some ⟨w.heap.size, 0, none⟩) n n) (List.replicate n ((.slice none 0 0, []) : Row)).length ((List.replicate n ((.slice none 0 0, []) : Row)).map (·.1)) := by
      have h := HOm.out
      rw [List.length_replicate, List.map_replicate]
      simpa [Value.cells, toList_madeCells_one] using h
    refine ⟨⟨?_, ?_⟩, World.ownsRow_nil _ _ _ _, h2.alloc _, (fun g hg => by cases hg), heap_alloc_new wm _, HM.out.alloc HM.out.size _, HM.out.size⟩
    · intro r hr
      simp at hr
      rw [hr.2]
      exact OI.nil _ _
    · rw [List.nil_append, List.pairwise_replicate]
      exact .inr (fun g hg => by cases hg)
  have HST := Lib.hid hst
  obtain ⟨gb, HGB⟩ : ∃ gb, Hid (wm.heap.size = gb) := ⟨_, rfl⟩
  obtain ⟨N, HN⟩ : ∃ N, Hid (w.heap.size = N) := ⟨_, rfl⟩
  obtain ⟨W0, HW0⟩ : ∃ W0, Hid (wm.alloc (.cells #[.slice none 0 0, .slice (some ⟨w.heap.size, 0, none⟩) n n, .slice none 0 0] 49) = W0) := ⟨_, rfl⟩
  clear hst HOm HM
  rw [HGB.out, HW0.out] at HST
  rw [HW0.out, HGB.out]
  rw [HN.out] at HST ⊢
  clear HW0 HGB
  go_loopw [22] (fun i wr => ∃ k : Nat, k ≤ n ∧ i = .int .i64 k ∧ Hid (inRg n (ls.take k) = true) ∧ Hid (∃ vB Br Hr, NewSt w wr gb vB (.slice (some ⟨N, 0, none⟩) n n) Br Hr ∧ Br.length = k ∧ Hr.length = n ∧ Br.map (·.2) = (ls.take k).map tidyI ∧ Hr.map (·.2) = behK (befG ls) n k)) (fun i _ => n - (intOf i).toNat)
  case atStart => exact ⟨0, by omega, rfl, by simp [inRg, Hid], _, [], _, HST.out, rfl, by simp, by simp, by simp [behK]⟩
  case round =>
    obtain ⟨k, hk, rfl, HIN, HS⟩ := hrel
    obtain ⟨vB, Br, Hr, hS, hb1, hb2, hb3, hb4⟩ := HS.out
    clear HS
    have HS := Lib.hid hS
    have HB1 := Lib.hid hb1
    have HB2 := Lib.hid hb2
    have HB3 := Lib.hid hb3
    have HB4 := Lib.hid hb4
    have HEX := Lib.hid hS.ex
    clear hb1 hb2 hb3 hb4
    by_cases hlt : k < n
    · obtain ⟨b, off, A', c', l, rfl, hb', hl, hcl, hlc, hrl, _, hin⟩ := (HR.out.ext HEX.out).at_ hlt
      obtain ⟨m, HM⟩ : ∃ m, Hid (l.length = m) := ⟨_, rfl⟩
      have HHL := Lib.hid hl
      have HRL := Lib.hid hrl
      rw [HM.out] at hcl hlc HRL
      have hm100 : m ≤ 100 := by rw [← HM.out]; have := len_le_tot (List.mem_of_getElem? hl); have := HT.out; omega
      have hkn : (k : Int) < (n : Int) := by omega
      have HIN2 := Lib.hid hin
      clear hS hin hl hrl hlc
      go_wp2
      go_loop [29] (fun i => ∃ j : Nat, j ≤ m ∧ i = .int .i64 j ∧ Hid (∀ x ∈ l.take j, 0 ≤ x ∧ x < (n : Int))) (fun i => m - (intOf i).toNat)
      case atStart => exact ⟨0, by omega, rfl, by simp [Hid]⟩
      case round =>
        obtain ⟨j, hj, rfl, HJ⟩ := hrel
        by_cases hjm : j < m
        · have hjm2 : (j : Int) < (m : Int) := by omega
          obtain ⟨x, hx⟩ : ∃ x, l[j]? = some x := ⟨_, List.getElem?_eq_getElem (by rw [HM.out]; exact hjm)⟩
          obtain ⟨b4, o4, rfl, -, -, hc4⟩ := HIN2.out j x hx
          have Hx := Lib.hid hx
          clear hx
          by_cases hx0 : x < 0
          · have d0 : decide (x < 0) = true := decide_eq_true hx0
            have HBAD : Hid (inRg n ls = false) := inRg_bad (List.mem_of_getElem? HHL.out) (List.mem_of_getElem? Hx.out) (by omega)
            clear hx0
            go_wp2
            (try rw [Exit.noGoto_ret])
            go_ret2
            exact ⟨HEX.out, .inl ⟨by rw [HLN.out]; exact HBAD.out, rfl⟩⟩
          · have d0 : decide (x < 0) = false := decide_eq_false hx0
            by_cases hxn : (n : Int) ≤ x
            · have d1 : decide (x ≥ (n : Int)) = true := decide_eq_true hxn
              have HBAD : Hid (inRg n ls = false) := inRg_bad (List.mem_of_getElem? HHL.out) (List.mem_of_getElem? Hx.out) (by omega)
              clear hx0 hxn
              go_wp2
              (try rw [Exit.noGoto_ret])
              go_ret2
              exact ⟨HEX.out, .inl ⟨by rw [HLN.out]; exact HBAD.out, rfl⟩⟩
            · have d1 : decide (x ≥ (n : Int)) = false := decide_eq_false hxn
              have HNX : Hid (∀ y ∈ l.take (j + 1), 0 ≤ y ∧ y < (n : Int)) := fun y hy => by
                rw [take_snoc' Hx.out] at hy
                rcases List.mem_append.1 hy with h | h
                · exact HJ.out y h
                · simp at h; subst h; omega
              clear hx0 hxn
              go_wp2
              go_round
              case rel => exact ⟨j + 1, by omega, by go_num, HNX⟩
              case measure => simp [intOf]; omega
        · obtain rfl : m = j := by omega
          have HRG : Hid (∀ x ∈ l, 0 ≤ x ∧ x < (n : Int)) := fun x hx => HJ.out x (by rw [List.take_of_length_le (by rw [HM.out]; exact Nat.le_refl _)]; exact hx)
          obtain ⟨A0, c0, hv0, hk0, -⟩ := Rd.own HS.out.ob
          subst hv0
          rw [HB1.out] at hk0
          have hg0 : wr.cell? ⟨gb, 0, none⟩ = some (.slice A0 k c0) := by simp [World.cell?, HS.out.og, HB1.out]
          have hownB : wr.ownsRow w.heap.size 23 1 (.slice A0 k c0) k (Br.map (·.1)) := by have := HS.out.ob; rwa [HB1.out] at this
          obtain ⟨mt, HMT⟩ : ∃ mt, Hid ((tidyI l).length = mt) := ⟨_, rfl⟩
          have HSK : Hid (NewSt w wr gb (.slice A0 k c0) (.slice (some ⟨N, 0, none⟩) n n) Br Hr) := by have := HS.out; rwa [HB1.out] at this
          have HADD : Hid (∀ (w1 w2 : World) (A1 : Option Addr) (c1 gg cap : Nat) (o : Obj), OI w1 wr.drew.heap.size (.slice A1 mt c1) (tidyI l) → Ext wr.drew w1 → w2.ownsRow w.heap.size 23 1 (.slice (some ⟨gg, 0, none⟩) (k + 1) cap) (k + 1) (Br.map (·.1) ++ [.slice A1 mt c1]) →
              (w1.alloc o).grownBy w2 (Value.slice A0 k c0).ownBlock → ((Value.slice A0 k c0).ownBlock = some gg ∨ gg = w1.heap.size + 1) → NewSt w (w2.setCell ⟨gb, 0, none⟩ (.slice (some ⟨gg, 0, none⟩) (k + 1) cap)) gb (.slice (some ⟨gg, 0, none⟩) (k + 1) cap) (.slice (some ⟨N, 0, none⟩) n n) (Br ++ [(.slice A1 mt c1, tidyI l)]) Hr) := fun w1 w2 A1 c1 gg cap o h1 h2 h3 h4 h5 =>
            HSK.out.addB HB1.out h1 (ext_undrew h2) (((Mod.refl _ w1).alloc o).grown h4 (fun j hj => .inl (by rw [hj]; simp))) h3 (h5.elim .inl (fun h => .inr (by omega)))
          have HTD : Hid (∀ wx, RdI wx A' m l → Calls Try.prog 30 #[.slice A' m c'] wx fun e w' => ∃ A1 c1, e = .returned (.slice A1 mt c1) ∧ OI w' wx.heap.size (.slice A1 mt c1) (tidyI l) ∧ Ext wx w') := fun wx h => (tidyW A' m c' l wx h (by omega)).mono fun e w' ⟨v, h1, h2, h3⟩ => by
            obtain ⟨A1, c1, rfl, _, _⟩ := h2.slice
            rw [HMT.out] at h1 h2
            exact ⟨A1, c1, h1, h2, h3⟩
          have HNE : Hid ((Value.slice A0 k c0).ownBlock ≠ some gb) := own_not hownB HS.out.og (by decide)
          have hf0 : wr.frozen? ⟨gb, 0, none⟩ = false := frozen_of_row wr gb 0 _ _ HS.out.og
          have HFZ : Hid (∀ (w1 : World) (o : Obj) (w2 : World), Ext wr.drew w1 → (w1.alloc o).grownBy w2 (Value.slice A0 k c0).ownBlock → w2.frozen? ⟨gb, 0, none⟩ = false ∧ w2.cell? ⟨gb, 0, none⟩ = some (.slice A0 k c0)) := fun w1 o w2 h1 h2 => by
            have hgl : gb < wr.heap.size := (Array.getElem?_eq_some_iff.1 HS.out.og).1
            have h3 : gb < (w1.alloc o).heap.size := by have := h1.size; simp at this ⊢; omega
            have h4 : Ext wr.drew (w1.alloc o) := h1.alloc h1.size o
            refine ⟨?_, ?_⟩
            · rw [h2.frozen_far ⟨gb, 0, none⟩ h3 (Ne.symm HNE.out), h4.frozen (p := ⟨gb, 0, none⟩) hgl]
              exact frozen_of_row wr gb 0 _ _ HS.out.og
            · rw [h2.cell_far ⟨gb, 0, none⟩ h3 (Ne.symm HNE.out)]
              exact h4.cell' hg0
          have hgbl : gb < wr.heap.size := (Array.getElem?_eq_some_iff.1 HS.out.og).1
          go_upto_region 14 with fail
          go_cut [44] (fun s44 wx => ∃ gg cap A1 c1, NewSt w wx gb (.slice (some ⟨gg, 0, none⟩) (k + 1) cap) (.slice (some ⟨N, 0, none⟩) n n) (Br ++ [(.slice A1 mt c1, tidyI l)]) Hr)
          case first =>
            go_region_law (first | (refine step_append_lies _ (by rfl) _ _ _ (by rfl) w.heap.size 23 i1 _ 1 24 Try.underlying22 hj0 hy0 hy1 hy2 rfl (by omega) (.slice A0 k c0) k (Br.map (·.1)) (by rfl) (World.ownsRow.alloc (Mod.own (Mod.of_ext (S := []) hx1) (show wr.drew.ownsRow _ _ _ _ _ _ from hownB) (by simp)) _) ⟨w1.heap.size, 0, none⟩ 1 1 [.slice A1 mt c1] (by rfl) (by rfl) (World.news_of_block (cs := #[.slice A1 mt c1]) (t := 23) (fr := (0, 0)) (heap_alloc_new w1 _)) (by simp [Value.oneCell']) (by omega) (by simp only [maxLen]; omega) (by omega) (by have h1 := HEX.out.size; have h2 := hx1.size; simp at h2 ⊢; omega) (w1.heap.size + 1) (by simp) ?_; intro gg cap w2 hown2 hgrow hat hlt2; have hfz : w2.frozen? ⟨gb, 0, none⟩ = false := (HFZ.out w1 _ w2 hx1 hgrow).1; have hcz : w2.cell? ⟨gb, 0, none⟩ = some (.slice A0 k c0) := (HFZ.out w1 _ w2 hx1 hgrow).2) | (go_simp; go_at_call 30; refine (HTD.out wr.drew HRL.out).mono ?_; rintro e w1 ⟨A1, c1, rfl, ho1, hx1⟩; have hg1 : w1.cell? ⟨gb, 0, none⟩ = some (.slice A0 k c0) := Ext.cell' hx1 hg0; have hg2 : ∀ o, (w1.alloc o).cell? ⟨gb, 0, none⟩ = some (.slice A0 k c0) := fun o => Ext.cell' ((Ext.rfl' (w := w1)).alloc (Nat.le_refl _) o) hg1))
            all_goals
              have hS2 := HADD.out w1 w2 A1 c1 gg cap _ ho1 hx1 hown2 hgrow hat
              have HS2 := Lib.hid hS2
              clear hgrow hown2 hS2
              go_wp2_with fail
              go_meet
              exact ⟨gg, cap, A1, c1, HS2.out⟩
          case rest =>
            obtain ⟨gg, cap, A1, c1, hS2⟩ := hcut
            have h1l : (Br ++ [((.slice A1 mt c1, tidyI l) : Row)]).length = k + 1 := by rw [List.length_append, HB1.out]; rfl
            have hg0 : wc.cell? ⟨gb, 0, none⟩ = some (.slice (some ⟨gg, 0, none⟩) (k + 1) cap) := by simp [World.cell?, hS2.og]
            have hgk : wc.cell? ⟨gg, k, none⟩ = some (.slice A1 mt c1) := by
              have h2 := hS2.ob
              rw [h1l] at h2
              rw [World.ownsRow.cellAt h2 k (by omega), List.map_append, List.getElem?_append_right (by rw [List.length_map, HB1.out]; exact Nat.le_refl _), List.length_map, HB1.out, Nat.sub_self]
              rfl
            have hT : Hid (∀ wx vB Hr', NewSt w wx gb vB (.slice (some ⟨N, 0, none⟩) n n) (Br ++ [(.slice A1 mt c1, tidyI l)]) Hr' → OI wx w.heap.size (.slice A1 mt c1) (tidyI l)) := fun wx vB Hr' h => h.sep.1 (.slice A1 mt c1, tidyI l) (by simp)
            have HTR : Hid (∀ x ∈ tidyI l, 0 ≤ x ∧ x < (n : Int)) := fun x hx => HRG.out x (tidyI_mem_sub hx)
            have hmt : mt ≤ 100 := by rw [← HMT.out]; have h1 := tidyI_len l; have h2 := HM.out; omega
            have HS2 := Lib.hid hS2
            have hk1 : (k : Int) < (k : Int) + 1 := by omega
            have HBEF : Hid ((befG ls).getD k [] = tidyI l) := RdLL.getD_ (by rw [befG, List.getElem?_map, HHL.out]; rfl)
            clear hS2 hk0
            go_wp2
            go_loopw [60] (fun i wr => ∃ j : Nat, j ≤ mt ∧ i = .int .i64 j ∧ Hid (∃ Hr', NewSt w wr gb (.slice (some ⟨gg, 0, none⟩) (k + 1) cap) (.slice (some ⟨N, 0, none⟩) n n) (Br ++ [(.slice A1 mt c1, tidyI l)]) Hr' ∧ Hr'.length = n ∧ Hr'.map (·.2) = ((tidyI l).take j).foldl (pushB k) (behK (befG ls) n k))) (fun i _ => mt - (intOf i).toNat)
            case atStart => exact ⟨0, by omega, rfl, Hr, HS2.out, HB2.out, HB4.out⟩
            case round =>
              obtain ⟨j, hj, rfl, HS⟩ := hrel
              obtain ⟨Hr', hS, hl2, hm2⟩ := HS.out
              clear HS
              by_cases hjm : j < mt
              · have hjm2 : (j : Int) < (mt : Int) := by omega
                have hoT := hT.out wr _ _ hS
                obtain ⟨ga, ca, hva, -, -, -, -, hca, -⟩ := hoT.at_ (i := j) (by rw [HMT.out]; exact hjm)
                rw [HMT.out] at hva
                injection hva with hva1 hva2 hva3
                subst hva1
                clear hva2 hva3
                obtain ⟨u, hu⟩ : ∃ u, (tidyI l)[j]? = some u := ⟨_, List.getElem?_eq_getElem (by rw [HMT.out]; exact hjm)⟩
                obtain ⟨hu0, hun⟩ := HTR.out u (List.mem_of_getElem? hu)
                obtain ⟨U, rfl⟩ : ∃ U : Nat, u = (U : Int) := ⟨u.toNat, by omega⟩
                have hcu := hca _ _ hu
                have hUn : (U : Int) < (n : Int) := hun
                obtain ⟨v5, l5, hr5⟩ : ∃ v5 l5, Hr'[U]? = some (v5, l5) := ⟨_, _, List.getElem?_eq_getElem (by omega)⟩
                have ho5 : OI wr w.heap.size v5 l5 := hS.sep.1 (v5, l5) (List.mem_append.2 (.inr (List.mem_of_getElem? hr5)))
                obtain ⟨A5, c5, rfl, hq5, -⟩ := ho5.slice
                obtain ⟨q, HQ⟩ : ∃ q, Hid (l5.length = q) := ⟨_, rfl⟩
                rw [HQ.out] at hr5 ho5 hq5
                have hq100 : q ≤ 1000 := by
                  have h1 : l5 ∈ ((tidyI l).take j).foldl (pushB k) (behK (befG ls) n k) := by rw [← hm2]; exact List.mem_map.2 ⟨_, List.mem_of_getElem? hr5, rfl⟩
                  have h2 := behK_ok (befG ls) n (by rw [befG, List.length_map, HLN.out]) k hk
                  have h3 := (pushes_ok hlt ((tidyI l).take j) _ _ h2 l5 h1).1
                  have h4 := tot_take_le (befG ls) k
                  have h5 : tot (befG ls) ≤ tot ls := tot_bef ls
                  have h6 := HT.out
                  have h7 := List.length_take_le j (tidyI l)
                  have h8 := HMT.out
                  have h9 := HQ.out
                  omega
                have hgH : wr.cell? ⟨gb, 1, none⟩ = some (.slice (some ⟨N, 0, none⟩) n n) := by simp [World.cell?, hS.og]
                have hoh := hS.oh
                rw [hl2] at hoh
                have hN1 := own_obj hoh (g := N) rfl
                have hgU : wr.cell? ⟨N, U, none⟩ = some (.slice A5 q c5) := by
                  rw [World.ownsRow.cellAt hoh U (by omega), List.getElem?_map, hr5]; rfl
                have hfU : wr.frozen? ⟨N, U, none⟩ = false := World.ownsRow.frozenAt hoh U
                have HA1 : Hid (∀ o, (wr.alloc o).cell? ⟨gb, 1, none⟩ = some (.slice (some ⟨N, 0, none⟩) n n) ∧ (wr.alloc o).cell? ⟨N, U, none⟩ = some (.slice A5 q c5)) := fun o => ⟨Ext.cell' ((Ext.rfl' (w := wr)).alloc (Nat.le_refl _) o) hgH, Ext.cell' ((Ext.rfl' (w := wr)).alloc (Nat.le_refl _) o) hgU⟩
                have HAP : Hid ((Value.slice A5 q c5).ownBlock ≠ some gb ∧ (Value.slice A5 q c5).ownBlock ≠ some N) := ⟨own_not ho5 hS.og (by decide), fun e => own_apart2 ho5 hoh (by decide) N e rfl⟩
                have HW2 : Hid (∀ (o : Obj) (w2 : World), (wr.alloc o).drew.grownBy w2 (Value.slice A5 q c5).ownBlock → w2.cell? ⟨gb, 1, none⟩ = some (.slice (some ⟨N, 0, none⟩) n n) ∧ w2.cell? ⟨N, U, none⟩ = some (.slice A5 q c5) ∧ w2.frozen? ⟨N, U, none⟩ = false) := fun o w2 hg => by
                  have hgl : gb < wr.heap.size := (Array.getElem?_eq_some_iff.1 hS.og).1
                  have hNl := hN1.2.1
                  have z1 : gb < (wr.alloc o).drew.heap.size := by show gb < (wr.alloc o).heap.size; simp; omega
                  have z2 : N < (wr.alloc o).drew.heap.size := by show N < (wr.alloc o).heap.size; simp; omega
                  have hx : Ext wr (wr.alloc o) := (Ext.rfl' (w := wr)).alloc (Nat.le_refl _) o
                  refine ⟨?_, ?_, ?_⟩
                  · rw [hg.cell_far ⟨gb, 1, none⟩ z1 (Ne.symm HAP.out.1)]; exact (HA1.out o).1
                  · rw [hg.cell_far ⟨N, U, none⟩ z2 (Ne.symm HAP.out.2)]; exact (HA1.out o).2
                  · rw [hg.frozen_far ⟨N, U, none⟩ z2 (Ne.symm HAP.out.2)]; exact (hx.frozen (p := ⟨N, U, none⟩) hNl).trans hfU
                have HADD2 : Hid (∀ (w1 : World) (g5 cap5 : Nat) (o : Obj), w1.ownsRow w.heap.size 3 1 (.slice (some ⟨g5, 0, none⟩) (q + 1) cap5) (q + 1) (flat encI l5 ++ [.int .i64 (k : Int)]) → (wr.alloc o).drew.grownBy w1 (Value.slice A5 q c5).ownBlock →
                    ((Value.slice A5 q c5).ownBlock = some g5 ∨ g5 = wr.heap.size + 1) → NewSt w (w1.setCell ⟨N, U, none⟩ (.slice (some ⟨g5, 0, none⟩) (q + 1) cap5)) gb (.slice (some ⟨gg, 0, none⟩) (k + 1) cap) (.slice (some ⟨N, 0, none⟩) n n) (Br ++ [(.slice (some ⟨ga, 0, none⟩) mt c1, tidyI l)]) (Hr'.set U (.slice (some ⟨g5, 0, none⟩) (q + 1) cap5, l5 ++ [(k : Int)]))) := fun w1 g5 cap5 o h1 h2 h3 =>
                  hS.addH hl2 hr5 HQ.out ((((Mod.refl _ wr).alloc o).drew).grown h2 (fun j hj => .inl (by rw [hj]; simp))) (OI.of_push h1 HQ.out) (h3.elim .inl (fun h => .inr (by omega)))
                have HNX : Hid (∀ g5 cap5, (Hr'.set U ((.slice (some ⟨g5, 0, none⟩) (q + 1) cap5, l5 ++ [(k : Int)]) : Row)).length = n ∧ (Hr'.set U ((.slice (some ⟨g5, 0, none⟩) (q + 1) cap5, l5 ++ [(k : Int)]) : Row)).map (·.2) = ((tidyI l).take (j + 1)).foldl (pushB k) (behK (befG ls) n k)) := fun g5 cap5 => by
                  refine ⟨by rw [List.length_set, hl2], ?_⟩
                  rw [take_snoc' hu, List.foldl_append, ← hm2, List.map_set]
                  simp only [List.foldl_cons, List.foldl_nil, pushB, Int.toNat_natCast, List.getD, List.getElem?_map, hr5, Option.map_some, Option.getD]
                have hown5 : wr.ownsRow w.heap.size 3 1 (.slice A5 q c5) q (flat encI l5) := OI.n_ ho5 HQ.out
                have HSZ : Hid (w.heap.size ≤ wr.heap.size) := hS.ex.size
                obtain ⟨FL, HFL⟩ : ∃ FL, Hid (FL = flat encI l5) := ⟨_, rfl⟩
                rw [← HFL.out] at HADD2 hown5
                clear hca hu hu0 hun hr5 ho5 hoh hN1 hS hoT hm2 hl2
                have hA1 := fun o => (HA1.out o).1
                have hA2 := fun o => (HA1.out o).2
                go_wp2
                go_region_law (refine step_append_lies _ (by rfl) _ _ _ (by rfl) w.heap.size 3 i0 _ 1 8 Try.underlying23 hi0 hz0 hz1 hz2 rfl (by omega) (.slice A5 q c5) q FL (by rfl) ((World.ownsRow.alloc hown5 _).drew) ⟨wr.heap.size, 0, none⟩ 1 1 [.int .i64 (k : Int)] (by rfl) (by rfl) (World.news_of_block (cs := #[.int .i64 (k : Int)]) (t := 3) (fr := (0, 0)) (heap_alloc_new wr _)) (by simp [Value.oneCell']) (by omega) (by simp only [maxLen]; omega) (by omega) (by have h1 := HSZ.out; simp; omega) (wr.heap.size + 1) (by simp) ?_; intro g5 cap5 w2 hown2 hgrow hat hlt2; have hz1 := (HW2.out _ w2 hgrow).1; have hz2 := (HW2.out _ w2 hgrow).2.1; have hz3 := (HW2.out _ w2 hgrow).2.2)
                all_goals
                  have hS3 := HADD2.out w2 g5 cap5 _ hown2 hgrow hat
                  have HS3 := Lib.hid hS3
                  clear hgrow hown2 hS3 hA1 hA2
                  go_wp2
                  go_roundw
                  · exact ⟨j + 1, by omega, by go_num, _, HS3.out, (HNX.out g5 cap5).1, (HNX.out g5 cap5).2⟩
                  · simp [intOf]; omega
              · obtain rfl : mt = j := by omega
                have HMB : Hid (Hr'.map (·.2) = behK (befG ls) n (k + 1)) := by
                  show _ = _
                  rw [hm2, behK, HBEF.out, List.take_of_length_le (by rw [HMT.out]; exact Nat.le_refl _)]
                have HMA : Hid ((Br ++ [((.slice A1 mt c1, tidyI l) : Row)]).map (·.2) = (ls.take (k + 1)).map tidyI) := by
                  show _ = _
                  rw [take_snoc' HHL.out, List.map_append, List.map_append, HB3.out]; rfl
                have HIN3 : Hid (inRg n (ls.take (k + 1)) = true) := by
                  show _ = _
                  rw [take_snoc' HHL.out]
                  exact inRg_snoc HIN.out HRG.out
                have HL2 := Lib.hid hl2
                have HSS := Lib.hid hS
                clear hS hm2 hl2
                go_wp2
                go_roundw
                case rel => exact ⟨k + 1, by omega, by go_num, HIN3, _, _, _, HSS.out, h1l, HL2.out, HMA.out, HMB.out⟩
                case measure => simp [intOf]; omega
    · obtain rfl : n = k := by omega
      have hs1 : Sep wr w.heap.size Br := hS.sep.left
      have hs2 : Sep wr w.heap.size Hr := hS.sep.right
      obtain ⟨B0, cb, hvB, -, hrB⟩ := RdLL.of_sep (X := (· ≠ gb)) hs1 hS.ob (fun g hg e => own_not hS.ob hS.og (by decide) (e ▸ hg)) (fun r hr g hg e => own_not (hs1.1 r hr) hS.og (by decide) (e ▸ hg))
      obtain ⟨H0, ch, hvH, -, hrH⟩ := RdLL.of_sep (X := (· ≠ gb)) hs2 hS.oh (fun g hg e => own_not hS.oh hS.og (by decide) (e ▸ hg)) (fun r hr g hg e => own_not (hs2.1 r hr) hS.og (by decide) (e ▸ hg))
      have hog := hS.og
      rw [hvB, hvH, HB1.out, HB2.out] at hog
      rw [HB1.out, HB3.out, List.take_of_length_le (by rw [HLN.out]; exact Nat.le_refl _)] at hrB
      rw [HB2.out, HB4.out] at hrH
      have hbh : behK (befG ls) n n = behG ls := by rw [behG, HLN.out]
      rw [hbh] at hrH
      have HTB := tot_bef ls
      have hSORT := sortW gb n cb ch B0 H0 (befG ls) (behG ls) wr hog hrB hrH hn (fun l hl => by have := len_le_tot hl; have := HT.out; omega) (fun l hl => by
        have h1 := behK_ok (befG ls) n (by rw [befG, List.length_map, HLN.out]) n (Nat.le_refl _) l (by rw [hbh]; exact hl)
        have h2 := tot_take_le (befG ls) n
        have h3 := HT.out
        exact ⟨by omega, h1.2⟩)
      have HRB : Hid (RdLL (· ≠ gb) wr B0 n (befG ls)) := hrB
      have HRH : Hid (RdLL (· ≠ gb) wr H0 n (behG ls)) := hrH
      have HGB2 : Hid (w.heap.size ≤ gb) := hS.hgb
      have HIN2 : Hid (inRg ls.length ls = true) := by
        have := HIN.out
        rwa [List.take_of_length_le (by rw [HLN.out]; exact Nat.le_refl _), ← HLN.out] at this
      have HSORT := Lib.hid hSORT
      clear hS HS hs1 hs2 hrB hrH hog hbh hSORT hvB hvH HTB
      go_wp2_with fail
      refine (HSORT.out).mono ?_
      rintro e w2 ⟨rfl, hm2, A2, c2, hr2, ho2⟩
      have HX2 : Hid (Ext w w2) := ((Mod.of_ext (S := [gb]) HEX.out).trans hm2 (fun t ht => .inl ht)).ext (fun s hs => by simp at hs; subst hs; exact HGB2.out)
      by_cases hlen : (ordS (befG ls) (behG ls)).length = n
      · have d0 : decide ((ordS (befG ls) (behG ls)).length = n) = true := decide_eq_true hlen
        have HG : Hid (GAt w2 gb n (befG ls) (behG ls) (ordG ls)) := ⟨B0, cb, H0, ch, A2, c2, ho2, (HRB.out.mod hm2 (fun b h1 h2 => h1 (by simpa using h2))).all (fun _ _ _ => trivial), (HRH.out.mod hm2 (fun b h1 h2 => h1 (by simpa using h2))).all (fun _ _ _ => trivial), hr2⟩
        have HOKG : Hid (okG ls) := ⟨HIN2.out, by rw [ordG, HLN.out]; exact hlen⟩
        rw [d0]
        clear hm2 hr2 ho2 d0 hlen
        go_wp2
        (try rw [Exit.noGoto_ret])
        go_ret2
        exact ⟨HX2.out, .inr (.inr ⟨HOKG.out, gb, rfl, by rw [HLN.out]; exact HG.out⟩)⟩
      · have d0 : decide ((ordS (befG ls) (behG ls)).length = n) = false := decide_eq_false hlen
        have HLE : Hid ((ordG ls).length ≠ ls.length) := by rw [ordG, HLN.out]; exact hlen
        rw [d0]
        clear hm2 hr2 ho2 d0 hlen
        go_wp2
        (try rw [Exit.noGoto_ret])
        go_ret2
        exact ⟨HX2.out, .inr (.inl ⟨HIN2.out, HLE.out, rfl⟩)⟩
end Go.Proofs.Ytmejjeeobhapfaa
