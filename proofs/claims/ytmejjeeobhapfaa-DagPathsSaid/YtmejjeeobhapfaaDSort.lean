/-
  Walk: the order of all, as far as there is one. Conditions: none.
-/
import Derived.Test.YtmejjeeobhapfaaDSortP
import Derived.OwnWalk
namespace Go.Proofs.Ytmejjeeobhapfaa
open Go.RowKit
set_option linter.unusedVariables false
set_option linter.unusedSimpArgs false

def GivesSort (gb n cb ch : Nat) (B H : Option Addr) (o : List Int) (w : World) (e : Ending) (w' : World) : Prop :=
  e = .returned (.bool (decide (o.length = n))) ∧ Mod [gb] w w' ∧ ∃ A c, RdI w' A o.length o ∧ w'.heap[gb]? = some (.cells #[.slice B n cb, .slice H n ch, .slice A o.length c] 49)
theorem RdLL.getD_ {k : Nat} {ls : List (List Int)} {l : List Int} (h : ls[k]? = some l) : ls.getD k [] = l := by rw [List.getD, h]; rfl
set_option maxRecDepth 100000 in
set_option maxHeartbeats 2000000 in
theorem sortW (gb n cb ch : Nat) (B H : Option Addr) (bs hs : List (List Int)) (w : World) (hobj : w.heap[gb]? = some (.cells #[.slice B n cb, .slice H n ch, .slice none 0 0] 49))
    (hB : RdLL (· ≠ gb) w B n bs) (hH : RdLL (· ≠ gb) w H n hs) (hn : n ≤ 100) (hbl : ∀ l ∈ bs, l.length ≤ 100) (hhl : ∀ l ∈ hs, l.length ≤ 100 ∧ Rng n l) :
    Calls Try.prog 31 #[.pointer (some ⟨gb, 0, none⟩)] w (GivesSort gb n cb ch B H (ordS bs hs) w) := by
  obtain ⟨i0, hi0, hz0, hz1, hz2⟩ := info_parts Try.infoIntD
  have hcc0 : w.cell? ⟨gb, 0, none⟩ = some (.slice B n cb) := by rw [World.cell?, hobj]; simp
  have hgb : gb < w.heap.size := (Array.getElem?_eq_some_iff.1 hobj).1
  have HOB := Lib.hid hobj
  have HB := Lib.hid hB
  have HH := Lib.hid hH
  have HBL := Lib.hid hbl
  have HHL := Lib.hid hhl
  have HLB : Hid (bs.length = n) := hB.len
  have HLH : Hid (hs.length = n) := hH.len
  clear hobj hB hH hbl hhl
  obtain ⟨N, HN⟩ : ∃ N, Hid (w.heap.size = N) := ⟨_, rfl⟩
  go_enter Try.func31, Try.ntmps31
  go_wp2
  go_step3
  go_wp2_with (at_make; refine wpList_make_full w rfl _ _ 23 rfl w.heap.size 3 i0 (.int .i64 0) 1 Try.underlying23 hi0 hz0 hz1 .i64 .i64 _ _ n rfl rfl rfl rfl (by rw [hz2]; omega) (by simp only [maxLen]; omega) (Nat.le_refl _) ?_; intro wm hown hgrow; have HM : Hid (Ext w wm) := (Ext.rfl' (w := w)).grown hgrow (Nat.le_refl _) (fun k hk => by cases hk); have hc0 : wm.cell? ⟨gb, 0, none⟩ = some (.slice B n cb) := HM.out.cell' hcc0; have HOm := Lib.hid hown; have hc1 : ∀ o, (wm.alloc o).cell? ⟨gb, 0, none⟩ = some (.slice B n cb) := fun o => Ext.cell' ((Ext.rfl' (w := wm)).alloc (Nat.le_refl _) o) hc0; clear hown hgrow)
  obtain ⟨hb, HHB⟩ : ∃ hb, Hid (wm.heap.size = hb) := ⟨_, rfl⟩
  have hst : SortSt w (wm.alloc (.cells #[.slice none 0 0] 60)) gb wm.heap.size (.slice B n cb) (.slice H n ch) (.slice (some ⟨w.heap.size, 0, none⟩) n n) (lensK bs n 0) (readyK bs 0) [] (.slice none 0 0) (.slice none 0 0) := by
    have h1 : OI wm w.heap.size (.slice (some ⟨w.heap.size, 0, none⟩) n n) (lensK bs n 0) := by
      refine OI.of_n ?_ (lensK_len _ _ _)
      have h2 := HOm.out
      rw [lensK_zero, flat_encI, List.map_replicate]
      simpa [Value.cells, toList_madeCells_one] using h2
    have hx : Ext w (wm.alloc (.cells #[.slice none 0 0] 60)) := HM.out.alloc HM.out.size _
    refine ⟨⟨?_, ?_⟩, heap_alloc_new wm _, (Mod.of_ext (S := []) hx).obj HOB.out (by simp), Mod.of_ext hx, HM.out.size, hgb⟩
    · intro r hr
      simp at hr
      rcases hr with rfl | rfl | rfl
      · exact h1.alloc _
      · exact OI.nil _ _
      · exact OI.nil _ _
    · simp [Apart, Value.ownBlock]
  have HST := Lib.hid hst
  clear hst HOm HM hcc0
  rw [HHB.out] at HST
  obtain ⟨W0, HW0⟩ : ∃ W0, Hid (wm.alloc (.cells #[.slice none 0 0] 60) = W0) := ⟨_, rfl⟩
  obtain ⟨vW, HVW⟩ : ∃ vW, Hid (Value.slice (some ⟨w.heap.size, 0, none⟩) n n = vW) := ⟨_, rfl⟩
  rw [HW0.out] at HST
  rw [HHB.out, HW0.out]
  rw [HN.out]
  rw [HN.out] at HST HVW
  have HO2 : Hid (∀ wr vh vo wait hp ord, SortSt w wr gb hb (.slice B n cb) (.slice H n ch) (.slice (some ⟨N, 0, none⟩) n n) wait hp ord vh vo → wr.cell? ⟨gb, 0, none⟩ = some (.slice B n cb) ∧ wr.cell? ⟨gb, 1, none⟩ = some (.slice H n ch) ∧ wr.cell? ⟨gb, 2, none⟩ = some vo ∧ wr.frozen? ⟨gb, 2, none⟩ = false) := fun wr vh vo wait hp ord h =>
    ⟨by rw [World.cell?, h.og]; simp, by rw [World.cell?, h.og]; simp, by rw [World.cell?, h.og]; simp, frozen_of_row wr gb 2 _ _ h.og⟩
  clear HHB HW0 hc1 hc0 hgb
  go_loopw [22] (fun i wr => ∃ k : Nat, k ≤ n ∧ i = .int .i64 k ∧ Hid (∃ vh, SortSt w wr gb hb (.slice B n cb) (.slice H n ch) (.slice (some ⟨N, 0, none⟩) n n) (lensK bs n k) (readyK bs k) [] vh (.slice none 0 0))) (fun i _ => n - (intOf i).toNat)
  case atStart => exact ⟨0, by omega, rfl, ⟨_, HST.out⟩⟩
  case round =>
    obtain ⟨k, hk, rfl, HS⟩ := hrel
    obtain ⟨vh, hS⟩ := HS.out
    clear HS
    have HS := Lib.hid hS
    have hg0 := (HO2.out _ _ _ _ _ _ hS).1
    by_cases hlt : k < n
    · obtain ⟨b, off, A', c', l, rfl, hb', hl, hcl, hlc, hrl, _, _⟩ := (HB.out.mod hS.md (fun b h1 h2 => h1 (by simpa using h2))).at_ hlt
      obtain ⟨m, HM⟩ : ∃ m, Hid (l.length = m) := ⟨_, rfl⟩
      rw [HM.out] at hcl
      obtain ⟨hcw, hfw⟩ := hS.oW.cells2
      obtain ⟨y, hy⟩ : ∃ y, (lensK bs n k)[k]? = some y := ⟨_, List.getElem?_eq_getElem (by rw [lensK_len]; exact hlt)⟩
      have hcy := hcw _ _ hy
      have hfy := hfw k
      have hS1 := hS.setw (lensK_len bs n k) k (m : Int)
      have hk1 := lensK_set (bs := bs) hlt
      rw [RdLL.getD_ hl, HM.out] at hk1
      rw [hk1] at hS1
      clear hk1
      have HS1 := Lib.hid hS1
      have HRK : Hid (readyK bs (k + 1) = if m = 0 then hpush (readyK bs k) (k : Int) else readyK bs k) := by show _ = _; rw [readyK, RdLL.getD_ hl, HM.out]
      have HLN : Hid ((readyK bs k).length ≤ k) := (readyK_ok bs n k hk).2
      have hkn : (k : Int) < (n : Int) := by omega
      have hm : m ≤ 100 := by rw [← HM.out]; exact HBL.out l (List.mem_of_getElem? hl)
      clear hcw hfw hy hS hS1 hrl hl hlc
      by_cases hm0 : m = 0
      · subst hm0
        replace HRK : Hid (readyK bs (k + 1) = hpush (readyK bs k) (k : Int)) := by show _ = _; rw [HRK.out, if_pos rfl]
        go_wp2_with fail
        refine (hPush hb w.heap.size vh (readyK bs k) (k : Int) _ HS1.out.oH HS1.out.oh (by have := HLN.out; omega) HS1.out.size).mono ?_
        rintro e w2 ⟨rfl, hp⟩
        obtain ⟨vh2, hS2⟩ := HS1.out.push hp
        have HS2 := Lib.hid hS2
        clear hp hS2 hcy hfy hcl
        go_wp2
        go_roundw
        case rel => exact ⟨k + 1, by omega, by go_num, vh2, by rw [HRK.out]; exact HS2.out⟩
        case measure => simp [intOf]; omega
      · have g0 : ((m : Int) == 0) = false := by simpa using hm0
        replace HRK : Hid (readyK bs (k + 1) = readyK bs k) := by show _ = _; rw [HRK.out, if_neg hm0]
        go_wp2
        go_roundw
        case rel => exact ⟨k + 1, by omega, by go_num, vh, by rw [HRK.out]; exact HS1.out⟩
        case measure => simp [intOf]; omega
    · obtain rfl : n = k := by omega
      have HST0 : Hid (SortSt w wr gb hb (.slice B n cb) (.slice H n ch) (.slice (some ⟨N, 0, none⟩) n n) (itS hs (startS bs) 0).1 (itS hs (startS bs) 0).2.1 (itS hs (startS bs) 0).2.2 vh (.slice none 0 0)) := by
        simp only [itS, startS, HLB.out]; exact hS
      have HFIN : Hid (∀ wr k vh vo, k ≤ n → (k = n ∨ (itS hs (startS bs) k).2.1.length = 0) → SortSt w wr gb hb (.slice B n cb) (.slice H n ch) (.slice (some ⟨N, 0, none⟩) n n) (itS hs (startS bs) k).1 (itS hs (startS bs) k).2.1 (itS hs (startS bs) k).2.2 vh vo →
          ∃ A c m, vo = .slice A m c ∧ ((m : Int) == (n : Int)) = decide ((ordS bs hs).length = n) ∧ ∀ q, GivesSort gb n cb ch B H (ordS bs hs) w (.returned (.bool (decide ((ordS bs hs).length = n)))) (wr.drewN q)) := fun wr k vh vo hk hke h => by
        have e : (itS hs (startS bs) k).2.2 = ordS bs hs := by
          rw [ordS, HLB.out]
          rcases hke with rfl | h0
          · rfl
          · rw [itS_stop h0 n hk]
        rw [e] at h
        obtain ⟨A, c, hv, _, hr⟩ := h.oO.slice
        refine ⟨A, c, _, hv, ?_, fun q => ⟨rfl, h.md.drewN q, A, c, hr, by rw [← hv]; exact h.og⟩⟩
        rw [Bool.eq_iff_iff]; simp; exact ⟨fun h => by omega, fun h => by omega⟩
      have HOK : Hid (∀ k, k ≤ n → Rng n (itS hs (startS bs) k).2.1 ∧ (itS hs (startS bs) k).1.length = n ∧ (itS hs (startS bs) k).2.1.length ≤ n + k * 100 ∧ (itS hs (startS bs) k).2.2.length ≤ k) := itS_ok HLB.out hn HHL.out
      clear hS HS HST hlt hk HB HBL HOB
      go_wp2
      go_step3
      go_wp2
      go_loopw [43] (fun i wr => ∃ k : Nat, k ≤ n ∧ i = .int .i64 k ∧ Hid (∃ vh vo, SortSt w wr gb hb (.slice B n cb) (.slice H n ch) (.slice (some ⟨N, 0, none⟩) n n) (itS hs (startS bs) k).1 (itS hs (startS bs) k).2.1 (itS hs (startS bs) k).2.2 vh vo)) (fun i _ => n - (intOf i).toNat)
      case atStart => exact ⟨0, by omega, rfl, _, _, HST0.out⟩
      case round =>
        obtain ⟨k, hk, rfl, HS⟩ := hrel
        obtain ⟨vh, vo, hS⟩ := HS.out
        clear HS
        have hF := HFIN.out wr k vh vo
        have HF := Lib.hid hF
        clear hF
        obtain ⟨s, Hs⟩ : ∃ s, Hid (itS hs (startS bs) k = s) := ⟨_, rfl⟩
        obtain ⟨hR, hL1, hL2, hL3⟩ := HOK.out k hk
        rw [Hs.out] at hS HF hR hL1 hL2 hL3
        have HSX := Lib.hid hS
        have g0 := (HO2.out _ _ _ _ _ _ hS).1
        have g1 := (HO2.out _ _ _ _ _ _ hS).2.1
        have g2 := (HO2.out _ _ _ _ _ _ hS).2.2.1
        have HR := Lib.hid hR
        have HL1 := Lib.hid hL1
        have HL2 := Lib.hid hL2
        have HL3 := Lib.hid hL3
        clear hR hL1 hL2 hL3
        by_cases hlt : k < n
        · have hkn : (k : Int) < (n : Int) := by omega
          by_cases h0 : s.2.1.length = 0
          · obtain ⟨A1, c1, hv1, -, -⟩ := hS.oH.slice
            rw [h0] at hv1
            subst hv1
            go_wp2_with fail
            refine (hPopNil hb c1 A1 wr HSX.out.oh).mono ?_
            rintro e w2 ⟨rfl, hx⟩
            have hS2 := HSX.out.ext hx
            have hF2 := HFIN.out w2 k (.slice A1 0 c1) vo hk (.inr (by rw [Hs.out]; exact h0)) (by rw [Hs.out]; exact hS2)
            obtain ⟨A, c, m, hv, hm, hG⟩ := hF2
            subst hv
            have g0 := (HO2.out _ _ _ _ _ _ hS2).1
            have g2 := (HO2.out _ _ _ _ _ _ hS2).2.2.1
            have HG := Lib.hid hG
            have HMM := Lib.hid hm
            have H0' := Lib.hid h0
            clear hx hS hS2 hm hG h0 HSX HF
            go_wp2
            go_quiet (fail)
            go_wp2
            (try rw [Exit.noGoto_ret])
            go_ret
            rw [HMM.out]
            exact HG.out _
          · obtain ⟨p, hp⟩ : ∃ p, s.2.1.length = p + 1 := ⟨s.2.1.length - 1, by omega⟩
            obtain ⟨x, hx⟩ : ∃ x, s.2.1[0]? = some x := ⟨_, List.getElem?_eq_getElem (by omega)⟩
            obtain ⟨g, c1, hv1, -, -, -, -, -, -⟩ := hS.oH.at_ (i := 0) (by omega)
            subst hv1
            rw [hp] at hS
            obtain ⟨hx0, hxn⟩ := HR.out x (List.mem_of_getElem? hx)
            obtain ⟨X, rfl⟩ : ∃ X : Nat, x = (X : Int) := ⟨x.toNat, by omega⟩
            have hXn : X < n := by omega
            obtain ⟨b, off, A', c', l, rfl, -, hl, hcl, hlc, hrl, hbX, hin⟩ := HH.out.at_ hXn
            obtain ⟨m, HM⟩ : ∃ m, Hid (l.length = m) := ⟨_, rfl⟩
            rw [HM.out] at hcl
            have HIN := Lib.hid hin
            have HLL : Hid (l.length ≤ 100 ∧ Rng n l) := HHL.out l (List.mem_of_getElem? hl)
            have HSTEP : Hid (itS hs (startS bs) (k + 1) = ((l.foldl decOne (s.1, hpop s.2.1)).1, (l.foldl decOne (s.1, hpop s.2.1)).2, s.2.2 ++ [(X : Int)])) := by
              show _ = _
              rw [itS, Hs.out, stepS, if_neg h0]
              have e1 : s.2.1.getD 0 0 = (X : Int) := by rw [List.getD, hx]; rfl
              rw [e1, Int.toNat_natCast, RdLL.getD_ hl]
            have HX := Lib.hid hx
            have HP := Lib.hid hp
            have HCL := Lib.hid hcl
            have HS0 := Lib.hid hS
            have HRP : Hid (Rng n (hpop s.2.1)) := HR.out.pop
            have hp2 : p ≤ 1000000 := by have := HL2.out; omega
            have hm100 : m ≤ 100 := by rw [← HM.out]; exact HLL.out.1
            clear hS hin hrl hlc hl hx h0 hp HSX HF hcl hx0
            go_wp2_with fail
            refine (hPop hb w.heap.size g p c1 s.2.1 (X : Int) wr HS0.out.oH HP.out HX.out HS0.out.oh hp2).mono ?_
            rintro e w2 ⟨rfl, hpp⟩
            obtain ⟨vh2, hS2⟩ := HS0.out.pop hpp
            have HS2 := Lib.hid hS2
            obtain ⟨A3, c3, hv3, hq3, -⟩ := hS2.oO.slice
            subst hv3
            obtain ⟨q, HQ⟩ : ∃ q, Hid (s.2.2.length = q) := ⟨_, rfl⟩
            have hq : q ≤ 100 := by have := HL3.out; have := HQ.out; omega
            rw [HQ.out] at hq3
            have g2 : w2.cell? ⟨gb, 2, none⟩ = some (.slice A3 q c3) := by rw [← HQ.out]; exact (HO2.out _ _ _ _ _ _ hS2).2.2.1
            have hown2 : w2.ownsRow w.heap.size 3 1 (.slice A3 q c3) q (flat encI s.2.2) := by have := hS2.oO.n_ HQ.out; rwa [HQ.out] at this
            have HSZ : Hid (w.heap.size ≤ w2.heap.size) := hS2.md.size
            rw [HQ.out] at HS2
            obtain ⟨FL, HF⟩ : ∃ FL, Hid (FL = flat encI s.2.2) := ⟨_, rfl⟩
            rw [← HF.out] at hown2
            clear hS2 hpp g0 g1
            go_wp2_with (at_builtin; refine wpList_append_lies _ rfl _ _ _ rfl w.heap.size 3 i0 _ 1 8 Try.underlying23 hi0 hz0 hz1 hz2 rfl (by omega) _ q FL rfl (World.ownsRow.alloc hown2 _) ⟨w2.heap.size, 0, none⟩ 1 1 [.int .i64 (X : Int)] rfl rfl (World.news_of_block (cs := #[.int .i64 (X : Int)]) (t := 3) (fr := (0, 0)) (heap_alloc_new w2 _)) (by simp [Value.oneCell']) (by omega) (by simp only [maxLen]; omega) (by omega) (by have := HSZ.out; first | (simp; done) | (simp; omega)) (w2.heap.size + 1) (by simp) ?_; intro gg cap w1 hown1 hgrow hat hlt2; have HX1 := Lib.hid (app1 (gg := gg) (cap := cap) (n := q) (v := .slice A3 q c3) (OI.of_n (by rw [← HF.out]; exact hown2) HQ.out) HQ.out (by rw [← HF.out]; exact hown1) hgrow hat); have hob1 := HS2.out.og1 HX1.out.2.1; have g2' : w1.cell? ⟨gb, 2, none⟩ = some (.slice A3 q c3) := (by simp [World.cell?, hob1.1]); have f2' : w1.frozen? ⟨gb, 2, none⟩ = false := frozen_of_row w1 gb 2 _ _ hob1.1; have gB : ∀ v, (w1.setCell ⟨gb, 2, none⟩ v).cell? ⟨gb, 1, none⟩ = some (.slice (some ⟨b, off, none⟩) n ch) := fun v => (World.cell?_setCell_other w1 ⟨gb, 2, none⟩ ⟨gb, 1, none⟩ v (by simp)).trans (by simp [World.cell?, hob1.1]); have gX : ∀ v, (w1.setCell ⟨gb, 2, none⟩ v).cell? ⟨b, off + X, none⟩ = some (.slice A' m c') := fun v => (hob1.2.setCell (p := ⟨gb, 2, none⟩) (.inl (by simp)) v).cell' HCL.out (by simpa using hbX); have HS3 : Hid (SortSt w (w1.setCell ⟨gb, 2, none⟩ (.slice (some ⟨gg, 0, none⟩) (q + 1) cap)) gb hb (.slice B n cb) (.slice (some ⟨b, off, none⟩) n ch) (.slice (some ⟨N, 0, none⟩) n n) s.1 (hpop s.2.1) (s.2.2 ++ [(X : Int)]) vh2 (.slice (some ⟨gg, 0, none⟩) (q + 1) cap)) := HS2.out.ord2 HQ.out HX1.out.1 HX1.out.2.1 HX1.out.2.2; clear hown1 hgrow hat hob1)
            have HA : Hid (l.length = m) := HM.out
            go_loopw [69] (fun i wr => ∃ j : Nat, j ≤ m ∧ i = .int .i64 j ∧ Hid (∃ vh, SortSt w wr gb hb (.slice B n cb) (.slice (some ⟨b, off, none⟩) n ch) (.slice (some ⟨N, 0, none⟩) n n) ((l.take j).foldl decOne (s.1, hpop s.2.1)).1 ((l.take j).foldl decOne (s.1, hpop s.2.1)).2 (s.2.2 ++ [(X : Int)]) vh (.slice (some ⟨gg, 0, none⟩) (q + 1) cap))) (fun i _ => m - (intOf i).toNat)
            case atStart => exact ⟨0, by omega, rfl, _, HS3.out⟩
            case round =>
              obtain ⟨j, hj, rfl, HS⟩ := hrel
              obtain ⟨vh, hS⟩ := HS.out
              clear HS
              obtain ⟨r, HR1⟩ : ∃ r, Hid ((l.take j).foldl decOne (s.1, hpop s.2.1) = r) := ⟨_, rfl⟩
              have hok := decs_ok (n := n) (l.take j) (s.1, hpop s.2.1) (fun y hy => HLL.out.2 y (List.mem_of_mem_take hy)) HRP.out HL1.out
              rw [HR1.out] at hS hok
              by_cases hjm : j < m
              · have hjm2 : (j : Int) < (m : Int) := by omega
                obtain ⟨u, hu⟩ : ∃ u, l[j]? = some u := ⟨_, List.getElem?_eq_getElem (by rw [HM.out]; exact hjm)⟩
                obtain ⟨hu0, hun⟩ := HLL.out.2 u (List.mem_of_getElem? hu)
                obtain ⟨U, rfl⟩ : ∃ U : Nat, u = (U : Int) := ⟨u.toNat, by omega⟩
                have hUn : (U : Int) < (n : Int) := hun
                obtain ⟨b4, o4, rfl, -, hb4, hc4⟩ := HIN.out j _ hu
                have hc5 := hS.md.cell' hc4 (by simpa using hb4)
                obtain ⟨hcw, hfw⟩ := hS.oW.cells2
                obtain ⟨y, hy⟩ : ∃ y, r.1[U]? = some y := ⟨_, List.getElem?_eq_getElem (by rw [hok.2.1]; omega)⟩
                have hcy := hcw _ _ hy
                have hfy := hfw U
                obtain ⟨z, hz⟩ : ∃ z, IntKind.i64.wrap (y - 1) = z := ⟨_, rfl⟩
                have HNX : Hid ((l.take (j + 1)).foldl decOne (s.1, hpop s.2.1) = (r.1.set U z, if z = 0 then hpush r.2 (U : Int) else r.2)) := by
                  show _ = _
                  rw [take_snoc' hu, List.foldl_append, HR1.out]
                  simp only [List.foldl_cons, List.foldl_nil, decOne, Int.toNat_natCast, List.getD, hy, Option.getD, hz]
                have hS1 := hS.setw hok.2.1 U z
                have HS1 := Lib.hid hS1
                have HLN : Hid (r.2.length ≤ 1000000) := by
                  have h1 := hok.2.2
                  have h2 := HL2.out
                  have h3 := HM.out
                  have h4 := HP.out
                  simp only [hpop_len] at h1
                  have h5 := List.length_take_le j l
                  show _ ≤ _
                  omega
                have HU0 : Hid ((0 : Int) ≤ (U : Int) ∧ (U : Int) < (n : Int)) := ⟨hu0, hun⟩
                clear hcw hfw hy hS hS1 hok hu hc4 hb4 hu0 hun g2' f2' gB gX
                by_cases hz0 : z = 0
                · subst hz0
                  have g9 : ((0 : Int) == 0) = true := rfl
                  replace HNX : Hid ((l.take (j + 1)).foldl decOne (s.1, hpop s.2.1) = (r.1.set U 0, hpush r.2 (U : Int))) := by show _ = _; rw [HNX.out, if_pos rfl]
                  go_wp2_with fail
                  refine (hPush hb w.heap.size vh r.2 (U : Int) _ HS1.out.oH HS1.out.oh HLN.out HS1.out.size).mono ?_
                  rintro e w4 ⟨rfl, hp⟩
                  obtain ⟨vh4, hS4⟩ := HS1.out.push hp
                  have HS4 := Lib.hid hS4
                  clear hp hS4 hcy hfy hc5
                  go_wp2
                  go_roundw
                  case rel => exact ⟨j + 1, by omega, by go_num, vh4, by rw [HNX.out]; exact HS4.out⟩
                  case measure => simp [intOf]; omega
                · have g9 : (z == 0) = false := by simpa using hz0
                  replace HNX : Hid ((l.take (j + 1)).foldl decOne (s.1, hpop s.2.1) = (r.1.set U z, r.2)) := by show _ = _; rw [HNX.out, if_neg hz0]
                  go_wp2
                  go_roundw
                  case rel => exact ⟨j + 1, by omega, by go_num, vh, by rw [HNX.out]; exact HS1.out⟩
                  case measure => simp [intOf]; omega
              · obtain rfl : m = j := by omega
                have HS1 : Hid (SortSt w wr gb hb (.slice B n cb) (.slice (some ⟨b, off, none⟩) n ch) (.slice (some ⟨N, 0, none⟩) n n) (itS hs (startS bs) (k + 1)).1 (itS hs (startS bs) (k + 1)).2.1 (itS hs (startS bs) (k + 1)).2.2 vh (.slice (some ⟨gg, 0, none⟩) (q + 1) cap)) := by
                  rw [HSTEP.out]
                  have e1 : l.take m = l := List.take_of_length_le (by rw [HM.out]; exact Nat.le_refl _)
                  have e2 := HR1.out
                  rw [e1] at e2
                  rw [e2]
                  exact hS
                clear hS hok
                go_wp2
                go_roundw
                case rel => exact ⟨k + 1, by omega, by go_num, vh, _, HS1.out⟩
                case measure => simp [intOf]; omega
        · obtain rfl : n = k := by omega
          obtain ⟨A, c, m, hv, hm, hG⟩ := HF.out (Nat.le_refl _) (.inl rfl) hS
          subst hv
          have HG := Lib.hid hG
          have HMM := Lib.hid hm
          clear hS hm hG HSX HF
          go_wp2
          go_quiet (fail)
          go_wp2
          (try rw [Exit.noGoto_ret])
          go_ret
          rw [HMM.out]
          exact HG.out _
end Go.Proofs.Ytmejjeeobhapfaa
