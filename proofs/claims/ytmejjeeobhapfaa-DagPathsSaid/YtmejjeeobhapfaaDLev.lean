/-
  Walk: the levels. Conditions: none.
-/
import Derived.Test.YtmejjeeobhapfaaDLevP
namespace Go.Proofs.Ytmejjeeobhapfaa
open Go.RowKit
set_option linter.unusedVariables false
set_option linter.unusedSimpArgs false

theorem max_goD (a b : Int) : (if a < b then b else a) = max a b := by omega
set_option maxRecDepth 100000 in
set_option maxHeartbeats 2000000 in
theorem levelsW (gb n : Nat) (bs hs : List (List Int)) (o : List Int) (w : World) (hg : GAt w gb n bs hs o) (hn : n ≤ 100) (hb : ∀ l ∈ bs, l.length ≤ 100 ∧ Rng n l) (ho : Rng n o) (hol : o.length ≤ 100) :
    Calls Try.prog 21 #[.pointer (some ⟨gb, 0, none⟩)] w (GivesLL (levelsG bs o) w) := by
  obtain ⟨i0, hi0, hz0, hz1, hz2⟩ := info_parts Try.infoIntD
  obtain ⟨i1, hj0, hy0, hy1, hy2⟩ := info_parts Try.infoSD
  obtain ⟨B, cb, H, ch, A, c, g0, g1, g2, hB, hH, hr⟩ := hg.cells
  obtain ⟨m, HMO⟩ : ∃ m, Hid (o.length = m) := ⟨_, rfl⟩
  rw [HMO.out] at g2 hr hol
  have HG0 := Lib.hid g0
  have HG2 := Lib.hid g2
  have HB := Lib.hid hB
  have HR := Lib.hid hr
  have HBB := Lib.hid hb
  have HOR := Lib.hid ho
  have HLB : Hid (bs.length = n) := hB.len
  have ex := max_goD
  clear hg hB hH hr g1 g2 hb ho
  go_enter Try.func21, Try.ntmps21
  go_wp2_with (at_make; refine wpList_make_full w rfl _ _ 23 rfl w.heap.size 3 i0 (.int .i64 0) 1 Try.underlying23 hi0 hz0 hz1 .i64 .i64 _ _ n rfl rfl rfl rfl (by rw [hz2]; omega) (by simp only [maxLen]; omega) (Nat.le_refl _) ?_; intro wm hown hgrow; have HM : Hid (Ext w wm) := (Ext.rfl' (w := w)).grown hgrow (Nat.le_refl _) (fun k hk => by cases hk); have HOm := Lib.hid hown; have hgm2 : wm.cell? ⟨gb, 2, none⟩ = some (.slice A m c) := HM.out.cell' HG2.out; clear hown hgrow)
  have h1 : OI wm w.heap.size (.slice (some ⟨w.heap.size, 0, none⟩) n n) (List.replicate n 0) := by
    refine OI.of_n (n := n) ?_ (by simp)
    have h2 := HOm.out
    rw [flat_encI, List.map_replicate]
    simpa [Value.cells, toList_madeCells_one] using h2
  have HO1 := Lib.hid h1
  obtain ⟨N, HN⟩ : ∃ N, Hid (w.heap.size = N) := ⟨_, rfl⟩
  have HNN : Hid (OI wm w.heap.size (.slice (some ⟨N, 0, none⟩) n n) (List.replicate n 0)) := by rw [← HN.out]; exact HO1.out
  rw [HN.out]
  clear h1 HOm HO1 g0 hgm2
  go_loopw [24] (fun i wr => ∃ k : Nat, k ≤ m ∧ i = .int .i64 k ∧ Hid (OI wr w.heap.size (.slice (some ⟨N, 0, none⟩) n n) ((o.take k).foldl (lvOut bs) (List.replicate n 0)) ∧ Ext w wr)) (fun i _ => m - (intOf i).toNat)
  case atStart => exact ⟨0, by omega, rfl, HNN.out, HM.out⟩
  case round =>
    obtain ⟨k, hk, rfl, HS⟩ := hrel
    by_cases hlt : k < m
    · have hkm : (k : Int) < (m : Int) := by omega
      obtain ⟨b, off, x, rfl, -, hx, hd0⟩ := RdI.cut (HR.out.ext HS.out.2) hlt
      obtain ⟨hx0, hxn⟩ := HOR.out x (List.mem_of_getElem? hx)
      obtain ⟨V, rfl⟩ : ∃ V : Nat, x = (V : Int) := ⟨x.toNat, by omega⟩
      have hVn : V < n := by omega
      have hVn2 : (V : Int) < (n : Int) := by omega
      have hg0 := HS.out.2.cell' HG0.out
      obtain ⟨b5, o5, A5, c5, l, rfl, -, hl2, hcl, -, -, -, hin⟩ := (HB.out.ext HS.out.2).at_ hVn
      obtain ⟨m5, HM5⟩ : ∃ m5, Hid (l.length = m5) := ⟨_, rfl⟩
      have hm5 : m5 ≤ 100 := by rw [← HM5.out]; exact (HBB.out l (List.mem_of_getElem? hl2)).1
      have HLR : Hid (Rng n l) := (HBB.out l (List.mem_of_getElem? hl2)).2
      rw [HM5.out] at hcl
      have hok := levs_ok (fun l hl => (HBB.out l hl).1) o k (by rw [HMO.out]; exact hk)
      rw [HLB.out] at hok
      obtain ⟨lv0, HLV⟩ : ∃ lv0, Hid ((o.take k).foldl (lvOut bs) (List.replicate n 0) = lv0) := ⟨_, rfl⟩
      rw [HLV.out] at HS hok
      have HOK := Lib.hid hok
      have HNX : Hid ((o.take (k + 1)).foldl (lvOut bs) (List.replicate n 0) = l.foldl (lvIn V) lv0) := by
        show _ = _
        rw [take_snoc' hx, List.foldl_append, HLV.out]
        simp only [List.foldl_cons, List.foldl_nil, lvOut, Int.toNat_natCast, RdLL.getD_ hl2]
      have HIN : Hid (∀ (j : Nat) (x : Int), l[j]? = some x → ∃ b' off', A5 = some ⟨b', off', none⟩ ∧ w.cell? ⟨b', off' + j, none⟩ = some (.int .i64 x)) := fun j x hj => by
        obtain ⟨b0, o0, A0, c0, l0, h1, _, h2, h3, _, _, _, h4⟩ := HB.out.at_ hVn
        rw [hl2] at h2; cases h2
        have h5 := HS.out.2.cell' h3
        cases h1
        rw [hcl, HM5.out] at h5
        injection h5 with h5
        injection h5 with h5 _ _
        obtain ⟨b', off', h6, _, _, h7⟩ := h4 j x hj
        exact ⟨b', off', by rw [h5, h6], h7⟩
      clear hx hl2 hin hok hx0 hxn
      go_wp2
      go_loopw [36] (fun i wr => ∃ j : Nat, j ≤ m5 ∧ i = .int .i64 j ∧ Hid (OI wr w.heap.size (.slice (some ⟨N, 0, none⟩) n n) ((l.take j).foldl (lvIn V) lv0) ∧ Ext w wr)) (fun i _ => m5 - (intOf i).toNat)
      case atStart => exact ⟨0, by omega, rfl, HS.out.1, HS.out.2⟩
      case round =>
        obtain ⟨j, hj, rfl, HS⟩ := hrel
        by_cases hjm : j < m5
        · have hjm2 : (j : Int) < (m5 : Int) := by omega
          obtain ⟨u, hu⟩ : ∃ u, l[j]? = some u := ⟨_, List.getElem?_eq_getElem (by rw [HM5.out]; exact hjm)⟩
          obtain ⟨hu0, hun⟩ := HLR.out u (List.mem_of_getElem? hu)
          obtain ⟨U, rfl⟩ : ∃ U : Nat, u = (U : Int) := ⟨u.toNat, by omega⟩
          have hUn2 : (U : Int) < (n : Int) := hun
          obtain ⟨b6, o6, rfl, hc6⟩ := HIN.out j _ hu
          replace hc6 := HS.out.2.cell' hc6
          obtain ⟨lv, HLW⟩ : ∃ lv, Hid ((l.take j).foldl (lvIn V) lv0 = lv) := ⟨_, rfl⟩
          have hok := lvIns_ok (v := V) (l.take j) ((k : Int) * 100) lv0 (by omega) HOK.out.1
          rw [HLW.out] at HS hok
          have hlen : lv.length = n := by rw [hok.2, HOK.out.2]
          obtain ⟨a, ha⟩ : ∃ a, lv[V]? = some a := ⟨_, List.getElem?_eq_getElem (by omega)⟩
          obtain ⟨e, he⟩ : ∃ e, lv[U]? = some e := ⟨_, List.getElem?_eq_getElem (by omega)⟩
          have hca := (HS.out.1.cells2).1 V a ha
          have hce := (HS.out.1.cells2).1 U e he
          have hfa := (HS.out.1.cells2).2 V
          have hbe := hok.1 e (List.mem_of_getElem? he)
          have htl := List.length_take_le j l
          have we : IntKind.i64.wrap (e + 1) = e + 1 := IntWalk.i64_in _ (by omega)
          obtain ⟨z, HZ⟩ : ∃ z, Hid (max a (e + 1) = z) := ⟨_, rfl⟩
          have hmz : max a (e + 1) = z := HZ.out
          have HNY : Hid ((l.take (j + 1)).foldl (lvIn V) lv0 = lv.set V z) := by
            show _ = _
            rw [take_snoc' hu, List.foldl_append, HLW.out]
            simp only [List.foldl_cons, List.foldl_nil, lvIn, List.getD, ha, he, Int.toNat_natCast, Option.getD, HZ.out]
          have HW1 : Hid (∀ q, OI ((wr.drewN q).setCell ⟨N, V, none⟩ (.int .i64 z)) w.heap.size (.slice (some ⟨N, 0, none⟩) n n) (lv.set V z) ∧ Ext w ((wr.drewN q).setCell ⟨N, V, none⟩ (.int .i64 z))) := fun q =>
            ⟨OI.store2 (w := wr.drewN q) HS.out.1 hlen V z, (HS.out.2.drewN' q).setCell (own_obj HS.out.1 (g := N) rfl).1 _⟩
          clear hu ha he hok hlen hbe htl hu0 hun HZ
          go_wp2
          go_region
          all_goals
            go_wp2
            go_roundw
            · exact ⟨j + 1, by omega, by go_num, by rw [HNY.out]; exact (HW1.out 1)⟩
            · simp [intOf]; omega
        · obtain rfl : m5 = j := by omega
          have HFN : Hid ((l.take m5).foldl (lvIn V) lv0 = (o.take (k + 1)).foldl (lvOut bs) (List.replicate n 0)) := by
            show _ = _
            rw [HNX.out, List.take_of_length_le (by rw [HM5.out]; exact Nat.le_refl _)]
          rw [HFN.out] at HS
          go_wp2
          go_roundw
          case rel => exact ⟨k + 1, by omega, by go_num, HS.out⟩
          case measure => simp [intOf]; omega
    · obtain rfl : m = k := by omega
      have HLVS : Hid ((o.take m).foldl (lvOut bs) (List.replicate n 0) = levs bs o) := by
        show _ = _
        rw [levs, HLB.out, List.take_of_length_le (by rw [HMO.out]; exact Nat.le_refl _)]
      have hok := levs_ok (fun l hl => (HBB.out l hl).1) o m (by rw [HMO.out]; exact Nat.le_refl _)
      rw [HLB.out] at hok
      rw [HLVS.out] at HS hok
      obtain ⟨lv, HLV⟩ : ∃ lv, Hid (levs bs o = lv) := ⟨_, rfl⟩
      have HFIN : Hid (levelsG bs o = lvlK lv n) := by show _ = _; rw [levelsG, HLV.out, HLB.out]
      rw [HLV.out] at HS hok
      have HLN : Hid (lv.length = n) := hok.2
      have HBL : Hid (BL ((10000 : Nat) : Int) lv) := fun x hx => by have := hok.1 x hx; omega
      rw [HFIN.out]
      have HOUT0 : Hid (OutSt w wr [((.slice (some ⟨N, 0, none⟩) n n), lv)] (.slice none 0 0) []) := ⟨⟨fun r hr => by simp at hr; subst hr; exact HS.out.1, by simp⟩, World.ownsRow_nil _ _ _ _, HS.out.2⟩
      clear hok
      go_wp2
      go_loopw [4, 57] (fun v i wr => ∃ k : Nat, k ≤ n ∧ i = .int .i64 k ∧ Hid (∃ Or, OutSt w wr [((.slice (some ⟨N, 0, none⟩) n n), lv)] v Or ∧ Or.map (·.2) = lvlK lv k)) (fun _ i _ => n - (intOf i).toNat)
      case atStart => exact ⟨0, by omega, rfl, [], HOUT0.out, rfl⟩
      case round =>
        obtain ⟨k, hk, rfl, HT⟩ := hrel
        obtain ⟨Or, hT, hm2⟩ := HT.out
        clear HT
        by_cases hlt : k < n
        · have hkn : (k : Int) < (n : Int) := by omega
          obtain ⟨x, hx⟩ : ∃ x, lv[k]? = some x := ⟨_, List.getElem?_eq_getElem (by rw [HLN.out]; exact hlt)⟩
          have hxb := HBL.out x (List.mem_of_getElem? hx)
          obtain ⟨X, rfl⟩ : ∃ X : Nat, x = (X : Int) := ⟨x.toNat, by omega⟩
          have hX : X ≤ 10000 := by omega
          have hcx := ((hT.sep.1 ((.slice (some ⟨N, 0, none⟩) n n), lv) (by simp)).cells2).1 k _ hx
          have HKX : Hid (lvlK lv (k + 1) = putO (Or.map (·.2)) k X) := by
            show _ = _
            rw [lvlK, hm2, List.getD, hx]; rfl
          have HOL : Hid (Or.length ≤ 10001) := by
            have := lvlK_ok HBL.out k
            rw [← hm2, List.length_map] at this; exact this
          have HLL : Hid (∀ r ∈ padO (Or.map (·.2)) X, r.length ≤ 1000) := padO_rows (fun r hr => by rw [hm2] at hr; have := lvlK_rows lv k r hr; omega)
          have HT := Lib.hid hT
          clear hx hxb hT hm2
          go_wp2
          go_loopw [4] (fun v wr => ∃ (Or' : List Row) (t : Nat), Hid (OutSt w wr [((.slice (some ⟨N, 0, none⟩) n n), lv)] v Or' ∧ Or'.map (·.2) = Or.map (·.2) ++ List.replicate t [] ∧ (t ≤ X + 1 - Or.length))) (fun v _ => X + 1 - slLenD v)
          case atStart => exact ⟨Or, 0, HT.out, by simp, by omega⟩
          case round =>
            obtain ⟨Or', t, HU⟩ := hrel
            obtain ⟨hU, hmp, ht⟩ := HU.out
            clear HU
            have HU := Lib.hid hU
            obtain ⟨q, HQ⟩ : ∃ q, Hid (Or'.length = q) := ⟨_, rfl⟩
            have hqq : q = Or.length + t := by have := congrArg List.length hmp; simp at this; rw [← HQ.out]; omega
            have HQQ := Lib.hid hqq
            have HMP := Lib.hid hmp
            have HTB := Lib.hid ht
            obtain ⟨A4, c4, hv4, hq4, -⟩ := Rd.own hU.oo
            rw [HQ.out] at hv4 hq4
            subst hv4
            have hq100 : q ≤ 20010 := by have := HOL.out; omega
            have howno : wr.ownsRow w.heap.size 23 1 (.slice A4 q c4) q (Or'.map (·.1)) := by have := hU.oo; rwa [HQ.out] at this
            clear hmp ht hqq
            by_cases hqX : q ≤ X
            · have hqX2 : (q : Int) ≤ (X : Int) := by omega
              obtain ⟨FL, HF⟩ : ∃ FL, Hid (FL = Or'.map (·.1)) := ⟨_, rfl⟩
              rw [← HF.out] at howno
              have HSZ : Hid (w.heap.size ≤ wr.heap.size) := hU.ex.size
              have HADD : Hid (∀ w1 gg cap o, w1.ownsRow w.heap.size 23 1 (.slice (some ⟨gg, 0, none⟩) (q + 1) cap) (q + 1) (Or'.map (·.1) ++ [.slice none 0 0]) → (wr.alloc o).grownBy w1 (Value.slice A4 q c4).ownBlock → OutSt w w1 [((.slice (some ⟨N, 0, none⟩) n n), lv)] (.slice (some ⟨gg, 0, none⟩) (q + 1) cap) (Or' ++ [(.slice none 0 0, [])])) := fun w1 gg cap o h1 h2 => HU.out.addNil HQ.out h1 h2
              have HNM : Hid ((Or' ++ [((.slice none 0 0, []) : Row)]).map (·.2) = Or.map (·.2) ++ List.replicate (t + 1) []) := by
                show _ = _
                rw [List.map_append, HMP.out, List.replicate_succ', List.append_assoc]; rfl
              have HT1 : Hid (t + 1 ≤ X + 1 - Or.length) := by have := HQQ.out; show _ ≤ _; omega
              clear hU
              go_wp2_with (at_builtin; refine wpList_append_lies _ rfl _ _ _ rfl w.heap.size 23 i1 _ 1 24 Try.underlying22 hj0 hy0 hy1 hy2 rfl (by omega) _ q FL rfl (World.ownsRow.alloc howno _) ⟨wr.heap.size, 0, none⟩ 1 1 [.slice none 0 0] rfl rfl (World.news_of_block (cs := #[.slice none 0 0]) (t := 23) (fr := (0, 0)) (heap_alloc_new wr _)) (by simp [Value.oneCell']) (by omega) (by simp only [maxLen]; omega) (by omega) (by have := HSZ.out; first | (simp; done) | (simp; omega)) (wr.heap.size + 1) (by simp) ?_; intro gg cap w1 hown1 hgrow hat hlt2; have HX1 := Lib.hid (HADD.out w1 gg cap _ (by rw [← HF.out]; exact hown1) hgrow); clear hown1 hgrow hat)
              go_roundw
              case rel => exact ⟨_, t + 1, HX1.out, HNM.out, HT1.out⟩
              case measure => simp [slLenD]; omega
            · have hqX2 : ¬ (q : Int) ≤ (X : Int) := by omega
              have hXq : (X : Int) < (q : Int) := by omega
              have hXq2 : X < q := by omega
              have HPAD : Hid (Or'.map (·.2) = padO (Or.map (·.2)) X) := by
                show _ = _
                rw [HMP.out, padO, List.length_map]
                congr 2
                have := HQQ.out; have := HTB.out; omega
              obtain ⟨v5, l5, hr5⟩ : ∃ v5 l5, Or'[X]? = some (v5, l5) := ⟨_, _, List.getElem?_eq_getElem (by rw [HQ.out]; omega)⟩
              have ho5 : OI wr w.heap.size v5 l5 := hU.sep.1 (v5, l5) (List.mem_append.2 (.inr (List.mem_of_getElem? hr5)))
              obtain ⟨p, HP⟩ : ∃ p, Hid (l5.length = p) := ⟨_, rfl⟩
              have hsl5 := ho5.slice
              rw [HP.out] at hsl5
              obtain ⟨A5, c5, rfl, hp5, -⟩ := hsl5
              obtain ⟨g4, cap4, cur4, hA4, -, hgg4, -⟩ : ∃ g4 cap4 cur4, (Value.slice A4 q c4) = .slice (some ⟨g4, 0, none⟩) q cap4 ∧ w.heap.size ≤ g4 ∧ wr.heap[g4]? = some (.cells cur4 23) ∧ True := by
                rcases howno.2 with ⟨h0, h1⟩ | ⟨g, cap, cur, h1, h2, h3, _⟩
                · injection h0 with _ h0 _; omega
                · exact ⟨g, cap, cur, h1, h2, h3, trivial⟩
              injection hA4 with hA4 _ hc44
              subst hA4
              subst hc44
              have hgU : wr.cell? ⟨g4, X, none⟩ = some (.slice A5 p c5) := by
                rw [World.ownsRow.cellAt howno X (by omega), List.getElem?_map, hr5]; rfl
              have hfU : wr.frozen? ⟨g4, X, none⟩ = false := World.ownsRow.frozenAt howno X
              have hg4 : g4 < wr.heap.size := (own_obj howno (g := g4) rfl).2.1
              have HAP : Hid ((Value.slice A5 p c5).ownBlock ≠ some g4) := fun e => own_apart2 ho5 howno (by decide) g4 e rfl
              have hpb : p ≤ 1000 := by
                rw [← HP.out]
                have h1 : l5 ∈ padO (Or.map (·.2)) X := by rw [← HPAD.out]; exact List.mem_map.2 ⟨_, List.mem_of_getElem? hr5, rfl⟩
                exact HLL.out l5 h1
              have hown5 : wr.ownsRow w.heap.size 3 1 (.slice A5 p c5) p (flat encI l5) := OI.n_ ho5 HP.out
              obtain ⟨FL, HF⟩ : ∃ FL, Hid (FL = flat encI l5) := ⟨_, rfl⟩
              rw [← HF.out] at hown5
              have HSZ : Hid (w.heap.size ≤ wr.heap.size) := hU.ex.size
              have HGX : Hid (((padO (Or.map (·.2)) X).getD X []) = l5) := by
                show _ = _
                rw [← HPAD.out]
                exact RdLL.getD_ (by rw [List.getElem?_map, hr5]; rfl)
              have HADD : Hid (∀ w1 gg cap o, w1.ownsRow w.heap.size 3 1 (.slice (some ⟨gg, 0, none⟩) (p + 1) cap) (p + 1) (flat encI l5 ++ [.int .i64 (k : Int)]) → (wr.alloc o).grownBy w1 (Value.slice A5 p c5).ownBlock → ((Value.slice A5 p c5).ownBlock = some gg ∨ gg = wr.heap.size + 1) →
                  w1.cell? ⟨g4, X, none⟩ = some (.slice A5 p c5) ∧ w1.frozen? ⟨g4, X, none⟩ = false ∧ OutSt w (w1.setCell ⟨g4, X, none⟩ (.slice (some ⟨gg, 0, none⟩) (p + 1) cap)) [((.slice (some ⟨N, 0, none⟩) n n), lv)] (.slice (some ⟨g4, 0, none⟩) q c4) (Or'.set X (.slice (some ⟨gg, 0, none⟩) (p + 1) cap, l5 ++ [(k : Int)]))) := fun w1 gg cap o h1 h2 h3 => by
                have z1 : g4 < (wr.alloc o).heap.size := by simp; omega
                have hx : Ext wr (wr.alloc o) := (Ext.rfl' (w := wr)).alloc (Nat.le_refl _) o
                refine ⟨?_, ?_, HU.out.addR HQ.out hr5 HP.out (((Mod.refl _ wr).alloc o).grown h2 (fun j hj => .inl (by rw [hj]; simp))) (OI.of_push h1 HP.out) (h3.elim .inl (fun h => .inr (by omega)))⟩
                · rw [h2.cell_far ⟨g4, X, none⟩ z1 (Ne.symm HAP.out)]; exact hx.cell' hgU
                · rw [h2.frozen_far ⟨g4, X, none⟩ z1 (Ne.symm HAP.out)]; exact (hx.frozen (p := ⟨g4, X, none⟩) hg4).trans hfU
              have HNM : Hid (∀ v, (Or'.set X ((v, l5 ++ [(k : Int)]) : Row)).map (·.2) = lvlK lv (k + 1)) := fun v => by
                rw [HKX.out, putO, HGX.out, List.map_set, HPAD.out]
              clear hU hr5 ho5 howno
              go_wp2_with (at_builtin; refine wpList_append_lies _ rfl _ _ _ rfl w.heap.size 3 i0 _ 1 8 Try.underlying23 hi0 hz0 hz1 hz2 rfl (by omega) _ p FL rfl (World.ownsRow.alloc hown5 _) ⟨wr.heap.size, 0, none⟩ 1 1 [.int .i64 (k : Int)] rfl rfl (World.news_of_block (cs := #[.int .i64 (k : Int)]) (t := 3) (fr := (0, 0)) (heap_alloc_new wr _)) (by simp [Value.oneCell']) (by omega) (by simp only [maxLen]; omega) (by omega) (by have := HSZ.out; first | (simp; done) | (simp; omega)) (wr.heap.size + 1) (by simp) ?_; intro gg cap w1 hown1 hgrow hat hlt2; have HXX := Lib.hid (HADD.out w1 gg cap _ (by rw [← HF.out]; exact hown1) hgrow hat); have hz1 := HXX.out.1; have hz2 := HXX.out.2.1; have HX1 := Lib.hid HXX.out.2.2; clear hown1 hgrow hat)
              go_roundw
              case rel => exact ⟨k + 1, by omega, by go_num, _, HX1.out, HNM.out _⟩
              case measure => simp [intOf]; omega
        · obtain rfl : n = k := by omega
          have HG := Lib.hid hT.gives
          rw [hm2] at HG
          clear hT hm2
          go_wp2
          (try rw [Exit.noGoto_ret])
          go_ret
          rw [HFIN.out]
          exact HG.out
end Go.Proofs.Ytmejjeeobhapfaa
