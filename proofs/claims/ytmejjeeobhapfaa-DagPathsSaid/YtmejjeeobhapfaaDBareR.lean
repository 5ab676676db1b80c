/-
  Walk: the document's things without what they wait for over others. Conditions: none.
-/
import Derived.Test.YtmejjeeobhapfaaDBare
import Derived.Test.YtmejjeeobhapfaaDReach
import Derived.Test.YtmejjeeobhapfaaDRef
namespace Go.Proofs.Ytmejjeeobhapfaa
open Go.RowKit
set_option linter.unusedVariables false
set_option linter.unusedSimpArgs false

/-- a row read-only in a list of rows: appended -/
structure RowsSt (w wr : World) (vO : Value) (Or : List Row) : Prop where
  sep : Sep wr w.heap.size Or
  oo : wr.ownsRow w.heap.size 23 1 vO Or.length (Or.map (·.1))
  ex : Ext w wr
theorem RowsSt.ext {w wr w1 : World} {vO : Value} {Or : List Row} (h : RowsSt w wr vO Or) (hx : Ext wr w1) : RowsSt w w1 vO Or := ⟨h.sep.ext hx, (Mod.of_ext (S := []) hx).own h.oo (by simp), h.ex.trans' hx⟩
theorem RowsSt.add {w wr w1 w2 : World} {vO v : Value} {Or : List Row} {l : List Int} {k gg cap : Nat} (h : RowsSt w wr vO Or) (hk : Or.length = k) (ho : OI w1 wr.heap.size v l) (hx : Ext wr w1) (hm : Mod vO.ownBlock.toList w1 w2)
    (hown : w2.ownsRow w.heap.size 23 1 (.slice (some ⟨gg, 0, none⟩) (k + 1) cap) (k + 1) (Or.map (·.1) ++ [v])) : RowsSt w w2 (.slice (some ⟨gg, 0, none⟩) (k + 1) cap) (Or ++ [(v, l)]) := by
  subst hk
  have h1 := h.ext hx
  have hnew := Sep.new (w0 := wr) h1.sep h.sep ho h.ex.size
  have s1 := h1.sep.snoc hnew.2 hnew.1
  have hB : ∀ s ∈ vO.ownBlock.toList, vO.ownBlock = some s := fun s hs => by simpa using hs
  refine ⟨s1.keep hm (fun s hs r hr e => own_apart2 (s1.1 r hr) h1.oo (by decide) s e (hB s hs)), by rw [List.length_append, List.map_append]; exact hown, ((Mod.of_ext (S := vO.ownBlock.toList) h1.ex).trans hm (fun t ht => .inl ht)).ext (fun s hs => (own_obj h1.oo (hB s hs)).1)⟩
theorem RowsSt.gives {w wr : World} {vO : Value} {Or : List Row} (h : RowsSt w wr vO Or) : GivesLL (Or.map (·.2)) w (.returned vO) wr := by
  obtain ⟨A, c, rfl, _, hr⟩ := RdLL.of_sep (X := fun _ => True) h.sep h.oo (fun _ _ => trivial) (fun _ _ _ _ => trivial)
  exact ⟨A, c, by rw [List.length_map], by rw [List.length_map]; exact hr, h.ex⟩
theorem filt_one (p : Int → Bool) (x : Int) : ([x].filter fun u => !p u) = if p x then [] else [x] := by cases h : p x <;> simp [h]
theorem any_snoc' {α : Type} (p : α → Bool) {l : List α} {i : Nat} {x : α} (h : l[i]? = some x) : (l.take (i + 1)).any p = ((l.take i).any p || p x) := by
  rw [take_snoc' h, List.any_append]; simp
def overR (ls : List (List Int)) (b : List Int) (u : Int) : Bool := b.any fun w => mget (reachT ls) w.toNat u.toNat
set_option maxRecDepth 100000 in
set_option maxHeartbeats 2000000 in
theorem refBareW (A : Option Addr) (n ca : Nat) (ls : List (List Int)) (w : World) (hr : RdLL (fun _ => True) w A n ls) (hn : n ≤ 100) (hls : ∀ l ∈ ls, l.length ≤ 1000000) :
    Calls Try.prog 24 #[.slice A n ca] w (GivesLL (bareR ls) w) := by
  obtain ⟨i0, hi0, hz0, hz1, hz2⟩ := info_parts Try.infoIntD
  obtain ⟨i1, hj0, hy0, hy1, hy2⟩ := info_parts Try.infoSD
  have HLN : Hid (ls.length = n) := hr.len
  have HRW := Lib.hid (reachW A n ca ls w hr hn hls)
  have HR := Lib.hid hr
  have HLS := Lib.hid hls
  have HSQ : Hid (Sq n (reachT ls)) := by show Sq _ _; rw [← HLN.out]; exact sq_reach ls
  have HBR : Hid (∀ v, Rng n (befR ls v) ∧ (befR ls v).length ≤ 100) := fun v => by
    rw [befR, HLN.out]
    split
    · refine ⟨fun x hx => ?_, Nat.le_trans (numsK_len _ _) hn⟩
      obtain ⟨i, rfl, hi, _⟩ := (numsK_mem _ _ _).1 hx; omega
    · exact ⟨by simp [Rng], by simp⟩
  clear hr hls
  go_enter Try.func24, Try.ntmps24
  go_wp2_with fail
  refine HRW.out.mono ?_
  rintro e w1 ⟨AR, cR, rfl, hrt, hx1⟩
  have HT := Lib.hid hrt
  have HX1 := Lib.hid hx1
  clear hrt hx1 HRW
  go_wp2
  go_loopw [4, 5] (fun o i wr => ∃ v : Nat, v ≤ n ∧ i = .int .i64 v ∧ Hid (∃ Or, RowsSt w1 wr o Or ∧ Or.length = v ∧ Or.map (·.2) = (bareR ls).take v)) (fun _ i _ => n - (intOf i).toNat)
  case atStart => exact ⟨0, by omega, rfl, [], ⟨⟨by simp, by simp⟩, World.ownsRow_nil _ _ _ _, Ext.rfl'⟩, rfl, by simp⟩
  case round =>
    obtain ⟨v, hv, rfl, HS⟩ := hrel
    obtain ⟨Or, hS, hlen, hmap⟩ := HS.out
    clear HS
    by_cases hvl : v < n
    · have hvn : (v : Int) < (n : Int) := by omega
      obtain ⟨wa, HWA⟩ : ∃ wa, wa = wr := ⟨_, rfl⟩
      subst HWA
      have HLEN := Lib.hid hlen
      have HMAP := Lib.hid hmap
      obtain ⟨A3, c3, hv3, hq3, -⟩ := Rd.own hS.oo
      subst hv3
      rw [hlen] at hq3
      have HSK : Hid (RowsSt w1 wa (.slice A3 v c3) Or) := by have := hS; rwa [hlen] at this
      rw [hlen]
      have HRB := Lib.hid (refBefore5 A n ca ls (v : Int) wa (HR.out.ext (HX1.out.trans' hS.ex)) (by omega) HLS.out)
      have hbr := HBR.out (v : Int)
      have HBV : Hid (bareRowR ls v = (befR ls (v : Int)).filter fun u => !overR ls (befR ls (v : Int)) u) := rfl
      obtain ⟨bv, HBB⟩ : ∃ bv, Hid (befR ls (v : Int) = bv) := ⟨_, rfl⟩
      rw [HBB.out] at HRB hbr HBV
      have HBG := Lib.hid hbr.1
      obtain ⟨m, HM⟩ : ∃ m, Hid (bv.length = m) := ⟨_, rfl⟩
      have hm : m ≤ 100 := by rw [← HM.out]; exact hbr.2
      clear hS hlen hmap hbr
      go_wp2_with fail
      refine HRB.out.mono ?_
      rintro e wb ⟨v7, rfl, ho7, hx7⟩
      have hsl := ho7.slice
      rw [HM.out] at hsl
      obtain ⟨A7, c7, rfl, _, hr7⟩ := hsl
      have HR7 := Lib.hid hr7
      have HXB := Lib.hid hx7
      have HTB := Lib.hid (HT.out.ext (HSK.out.ex.trans' hx7))
      clear ho7 hr7 hx7
      go_wp2
      go_loopw [6, 8] (fun r i wr => ∃ i' : Nat, i' ≤ m ∧ i = .int .i64 i' ∧ Hid (OI wr wb.heap.size r ((bv.take i').filter fun u => !overR ls bv u)) ∧ Hid (Ext wb wr)) (fun _ i _ => m - (intOf i).toNat)
      case atStart => exact ⟨0, by omega, rfl, by rw [List.take_zero, List.filter_nil]; exact OI.nil _ _, Ext.rfl'⟩
      case round =>
        obtain ⟨i, hi, rfl, HO, HX⟩ := hrel
        obtain ⟨q, HQ⟩ : ∃ q, Hid (((bv.take i).filter fun u => !overR ls bv u).length = q) := ⟨_, rfl⟩
        have hq : q ≤ 100 := by
          rw [← HQ.out]
          have h1 := List.length_filter_le (fun u => !overR ls bv u) (bv.take i)
          have h2 := List.length_take_le i bv
          omega
        have hsl := HO.out.slice
        rw [HQ.out] at hsl
        obtain ⟨A4, c4, rfl, hq4, -⟩ := hsl
        by_cases him : i < m
        · have him2 : (i : Int) < (m : Int) := by omega
          have hi0' : (0 : Int) ≤ (i : Int) := Int.natCast_nonneg _
          obtain ⟨b5, o5, x, rfl, -, hx, hd0⟩ := RdI.cut (HR7.out.ext HX.out) him
          obtain ⟨hx0, hxn⟩ := HBG.out x (List.mem_of_getElem? hx)
          obtain ⟨X, rfl⟩ : ∃ X : Nat, x = (X : Int) := ⟨x.toNat, by omega⟩
          have hXn : X < n := by omega
          have hXn2 : (X : Int) < (n : Int) := by omega
          have hX0 : (0 : Int) ≤ (X : Int) := Int.natCast_nonneg _
          obtain ⟨wc, HWC⟩ : ∃ wc, wc = wr := ⟨_, rfl⟩
          subst HWC
          have HTAK : Hid (((bv.take (i + 1)).filter fun u => !overR ls bv u) = ((bv.take i).filter fun u => !overR ls bv u) ++ if overR ls bv (X : Int) then [] else [(X : Int)]) := by
            show _ = _
            rw [take_snoc' hx, List.filter_append, filt_one]
          have HTC := Lib.hid (HTB.out.ext HX.out)
          have HRC := Lib.hid (HR7.out.ext HX.out)
          have HD0 := Lib.hid hd0
          clear hx hx0 hxn
          go_wp2
          go_loopw [9, 10] (fun ov kk wr => ∃ k : Nat, k ≤ m ∧ kk = .int .i64 k ∧ ov = .bool (overR ls (bv.take k) (X : Int)) ∧ Hid (∃ d, wr = wc.drewN d)) (fun _ kk _ => m - (intOf kk).toNat)
          case atStart => exact ⟨0, by omega, rfl, by simp [overR], 0, rfl⟩
          case round =>
            obtain ⟨k, hk, rfl, rfl, HDR⟩ := hrel
            obtain ⟨d, hdr⟩ := HDR.out
            subst hdr
            clear HDR
            have hd0 := HD0.out
            obtain ⟨ov, HOV⟩ : ∃ ov, Hid (overR ls (bv.take k) (X : Int) = ov) := ⟨_, rfl⟩
            rw [HOV.out]
            by_cases hkm : k < m
            · have hkm2 : (k : Int) < (m : Int) := by omega
              have hk0 : (0 : Int) ≤ (k : Int) := Int.natCast_nonneg _
              obtain ⟨b6, o6, y, h6, -, hy, hd1⟩ := RdI.cut HRC.out hkm
              injection h6 with h6
              injection h6 with e1 e2 _
              subst e1
              subst e2
              obtain ⟨hy0, hyn⟩ := HBG.out y (List.mem_of_getElem? hy)
              obtain ⟨Y, rfl⟩ : ∃ Y : Nat, y = (Y : Int) := ⟨y.toNat, by omega⟩
              have hYn : Y < n := by omega
              have hYn2 : (Y : Int) < (n : Int) := by omega
              have hY0 : (0 : Int) ≤ (Y : Int) := Int.natCast_nonneg _
              obtain ⟨l1, hl1, hln1, hlu1⟩ := HSQ.out.at_ hYn hXn
              obtain ⟨bR, oR, A1, c1, rfl, -, -, hc1, -, hin1⟩ := HTC.out.2 Y l1 hl1
              rw [hln1] at hc1
              obtain ⟨p1, q1, rfl, -, -, hd2⟩ := hin1 X _ hlu1
              have HNX : Hid (overR ls (bv.take (k + 1)) (X : Int) = (ov || mget (reachT ls) Y X)) := by
                show _ = _
                rw [overR, any_snoc' _ hy, ← HOV.out, overR, Int.toNat_natCast, Int.toNat_natCast]
              obtain ⟨z, HZ⟩ : ∃ z, Hid (mget (reachT ls) Y X = z) := ⟨_, rfl⟩
              rw [HZ.out] at hd2 HNX
              clear hy hl1 hln1 hlu1 hin1 hy0 hyn
              cases ov with
              | true =>
                replace HNX : Hid (overR ls (bv.take (k + 1)) (X : Int) = true) := by show _ = _; rw [HNX.out]; rfl
                go_wp2
                go_quiet (fail)
                go_wp2
                go_roundw
                case rel => exact ⟨k + 1, by omega, by go_num, by rw [HNX.out], _, rfl⟩
                case measure => simp [intOf]; omega
              | false =>
                replace HNX : Hid (overR ls (bv.take (k + 1)) (X : Int) = z) := by show _ = _; rw [HNX.out]; rfl
                go_wp2
                go_quiet (fail)
                go_wp2
                go_roundw
                case rel => exact ⟨k + 1, by omega, by go_num, by rw [HNX.out], _, rfl⟩
                case measure => simp [intOf]; omega
            · have hkm2 : ¬ (k : Int) < (m : Int) := by omega
              obtain rfl : m = k := by omega
              have HOB : Hid (overR ls bv (X : Int) = ov) := by show _ = _; rw [← HOV.out, List.take_of_length_le (by rw [HM.out]; exact Nat.le_refl _)]
              rw [HOB.out] at HTAK
              obtain ⟨wd, HWD⟩ : ∃ wd, Hid (wc.drewN d = wd) := ⟨_, rfl⟩
              rw [HWD.out]
              have HOD : Hid (OI wd wb.heap.size (.slice A4 q c4) ((bv.take i).filter fun u => !overR ls bv u)) := by rw [← HWD.out]; exact HO.out
              have HXD : Hid (Ext wb wd) := by rw [← HWD.out]; exact below_drewN' HX.out d
              have hd1 : wd.cell? ⟨b5, o5 + i, none⟩ = some (.int .i64 (X : Int)) := by rw [← HWD.out]; exact hd0
              clear hd0
              cases ov with
              | true =>
                replace HTAK : Hid (((bv.take (i + 1)).filter fun u => !overR ls bv u) = ((bv.take i).filter fun u => !overR ls bv u)) := by show _ = _; rw [HTAK.out]; simp
                go_wp2
                go_roundw
                case rel => exact ⟨i + 1, by omega, by go_num, by rw [HTAK.out]; exact HOD.out, HXD.out⟩
                case measure => simp [intOf]; omega
              | false =>
                replace HTAK : Hid (((bv.take (i + 1)).filter fun u => !overR ls bv u) = ((bv.take i).filter fun u => !overR ls bv u) ++ [(X : Int)]) := by show _ = _; rw [HTAK.out]; simp
                have hown : wd.ownsRow wb.heap.size 3 1 (.slice A4 q c4) q (flat encI ((bv.take i).filter fun u => !overR ls bv u)) := OI.n_ HOD.out HQ.out
                have HSZ : Hid (wb.heap.size ≤ wd.heap.size) := HXD.out.size
                obtain ⟨FL, HF⟩ : ∃ FL, Hid (FL = flat encI ((bv.take i).filter fun u => !overR ls bv u)) := ⟨_, rfl⟩
                rw [← HF.out] at hown
                have HADD : Hid (∀ w1 gg cap o, w1.ownsRow wb.heap.size 3 1 (.slice (some ⟨gg, 0, none⟩) (q + 1) cap) (q + 1) (flat encI ((bv.take i).filter fun u => !overR ls bv u) ++ [.int .i64 (X : Int)]) → (wd.alloc o).grownBy w1 (Value.slice A4 q c4).ownBlock → ((Value.slice A4 q c4).ownBlock = some gg ∨ gg = wd.heap.size + 1) →
                    OI w1 wb.heap.size (.slice (some ⟨gg, 0, none⟩) (q + 1) cap) ((bv.take (i + 1)).filter fun u => !overR ls bv u) ∧ Ext wb w1) := fun w1 gg cap o h1 h2 h3 => by
                  obtain ⟨a1, a2, _⟩ := app1 HOD.out HQ.out h1 h2 h3
                  rw [HTAK.out]
                  exact ⟨a1, ((Mod.of_ext (S := (Value.slice A4 q c4).ownBlock.toList) HXD.out).trans a2 (fun t ht => .inl ht)).ext (fun s hs => (HOD.out.obj (g := s) (by simpa using hs)).1)⟩
                go_wp2_with (at_builtin; refine wpList_append_lies _ rfl _ _ _ rfl wb.heap.size 3 i0 _ 1 8 Try.underlying23 hi0 hz0 hz1 hz2 rfl (by omega) _ q FL rfl (World.ownsRow.alloc hown _) ⟨wd.heap.size, 0, none⟩ 1 1 [.int .i64 (X : Int)] rfl rfl (World.news_of_block (cs := #[.int .i64 (X : Int)]) (t := 3) (fr := (0, 0)) (heap_alloc_new wd _)) (by simp [Value.oneCell']) (by omega) (by simp only [maxLen]; omega) (by omega) (by have := HSZ.out; first | (simp; done) | (simp; omega)) (wd.heap.size + 1) (by simp) ?_; intro gg cap w1 hown1 hgrow hat hlt2; have HXX := Lib.hid (HADD.out w1 gg cap _ (by rw [← HF.out]; exact hown1) hgrow hat); clear hown1 hgrow hat)
                go_roundw
                case rel => exact ⟨i + 1, by omega, by go_num, HXX.out.1, HXX.out.2⟩
                case measure => simp [intOf]; omega
        · have him2 : ¬ (i : Int) < (m : Int) := by omega
          obtain rfl : m = i := by omega
          have HRW : Hid (((bv.take m).filter fun u => !overR ls bv u) = bareRowR ls v) := by show _ = _; rw [HBV.out, List.take_of_length_le (by rw [HM.out]; exact Nat.le_refl _)]
          have HXA : Hid (Ext wa wr) := HXB.out.trans' HX.out
          have HOA : Hid (OI wr wa.heap.size (.slice A4 q c4) (bareRowR ls v)) := by rw [← HRW.out]; exact HO.out.low HXB.out.size
          have hown : wr.ownsRow w1.heap.size 23 1 (.slice A3 v c3) v (Or.map (·.1)) := by have := (HSK.out.ext HXA.out).oo; rwa [HLEN.out] at this
          have HSZ : Hid (w1.heap.size ≤ wr.heap.size) := (HSK.out.ex.trans' HXA.out).size
          obtain ⟨FL, HF⟩ : ∃ FL, Hid (FL = Or.map (·.1)) := ⟨_, rfl⟩
          rw [← HF.out] at hown
          have HADD : Hid (∀ w2 gg cap o, w2.ownsRow w1.heap.size 23 1 (.slice (some ⟨gg, 0, none⟩) (v + 1) cap) (v + 1) (Or.map (·.1) ++ [.slice A4 q c4]) → (wr.alloc o).grownBy w2 (Value.slice A3 v c3).ownBlock → RowsSt w1 w2 (.slice (some ⟨gg, 0, none⟩) (v + 1) cap) (Or ++ [(.slice A4 q c4, bareRowR ls v)])) := fun w2 gg cap o h1 h2 =>
            HSK.out.add HLEN.out HOA.out HXA.out (((Mod.refl _ wr).alloc o).grown h2 (fun j hj => .inl (by rw [hj]; simp))) h1
          have HL1 : Hid ((Or ++ [((.slice A4 q c4, bareRowR ls v) : Row)]).length = v + 1) := by show _ = _; rw [List.length_append, HLEN.out]; rfl
          have HM1 : Hid ((Or ++ [((.slice A4 q c4, bareRowR ls v) : Row)]).map (·.2) = (bareR ls).take (v + 1)) := by
            show _ = _
            rw [List.map_append, HMAP.out, take_snoc' (x := bareRowR ls v) (by rw [bareR, List.getElem?_map, List.getElem?_range (by rw [HLN.out]; exact hvl)]; rfl)]; rfl
          obtain ⟨wz, HWZ⟩ : ∃ wz, wz = w1 := ⟨_, rfl⟩
          subst HWZ
          go_wp2_with (at_builtin; refine wpList_append_lies _ rfl _ _ _ rfl wz.heap.size 23 i1 _ 1 24 Try.underlying22 hj0 hy0 hy1 hy2 rfl (by omega) _ v FL rfl (World.ownsRow.alloc hown _) ⟨wr.heap.size, 0, none⟩ 1 1 [.slice A4 q c4] rfl rfl (World.news_of_block (cs := #[.slice A4 q c4]) (t := 23) (fr := (0, 0)) (heap_alloc_new wr _)) (by simp [Value.oneCell']) (by omega) (by simp only [maxLen]; omega) (by omega) (by have := HSZ.out; first | (simp; done) | (simp; omega)) (wr.heap.size + 1) (by simp) ?_; intro gg cap w2 hown1 hgrow hat hlt2; have HX9 := Lib.hid (HADD.out w2 gg cap _ (by rw [← HF.out]; exact hown1) hgrow); clear hown1 hgrow hat)
          go_roundw
          case rel => exact ⟨v + 1, by omega, by go_num, _, HX9.out, HL1.out, HM1.out⟩
          case measure => simp [intOf]; omega
    · have hvn : ¬ (v : Int) < (n : Int) := by omega
      obtain rfl : n = v := by omega
      have HG := Lib.hid hS.gives
      rw [hmap, List.take_of_length_le (by rw [bareR, List.length_map, List.length_range, HLN.out]; exact Nat.le_refl _)] at HG
      clear hS hmap hlen
      go_wp2
      (try rw [Exit.noGoto_ret])
      go_ret
      obtain ⟨A9, c9, h9, h10, h11⟩ := HG.out
      exact ⟨A9, c9, h9, h10, HX1.out.trans' h11⟩
end Go.Proofs.Ytmejjeeobhapfaa
