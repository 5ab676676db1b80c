/-
  Walk: the document's table. Conditions: none.
-/
import Derived.Test.YtmejjeeobhapfaaDFarP
namespace Go.Proofs.Ytmejjeeobhapfaa
open Go.RowKit
set_option linter.unusedVariables false
set_option linter.unusedSimpArgs false

theorem Try.infoBSD : (Try.prog.info? 39).map (fun i => (i.zero, i.size, i.bytes)) = some (some (.slice none 0 0), 1, 24) := by kernel_rfl
theorem OutB.row {w wr : World} {g4 n c4 v : Nat} {Or : List RowB} (h : OutB w wr (.slice (some ⟨g4, 0, none⟩) n c4) Or) (hln : Or.length = n) (hsq : Sq n (Or.map (·.2))) (hv : v < n) :
    ∃ gv cv l, Or[v]? = some (.slice (some ⟨gv, 0, none⟩) n cv, l) ∧ l.length = n ∧ wr.cell? ⟨g4, v, none⟩ = some (.slice (some ⟨gv, 0, none⟩) n cv) ∧ (∀ j, j < n → wr.cell? ⟨gv, j, none⟩ = some (.bool (mget (Or.map (·.2)) v j))) ∧ (∀ j, wr.frozen? ⟨gv, j, none⟩ = false) ∧
      ∀ u, (Or.set v (.slice (some ⟨gv, 0, none⟩) n cv, l.set u true)).map (·.2) = mset (Or.map (·.2)) v u := by
  have hvl : v < Or.length := by omega
  obtain ⟨r, hr⟩ : ∃ r, Or[v]? = some r := ⟨_, List.getElem?_eq_getElem hvl⟩
  obtain ⟨x, l⟩ := r
  have hl : l.length = n := hsq.2 l (List.mem_map.2 ⟨_, List.mem_of_getElem? hr, rfl⟩)
  have ho := h.sep.at_ hr
  obtain ⟨gv, cv, hx, -, -, -, -, hc, hf⟩ := ho.at_ (i := 0) (by simp only; omega)
  simp only at hx hc ho
  rw [hl] at hx
  subst hx
  have hoo := h.oo
  rw [hln] at hoo
  have hgd : (Or.map (·.2)).getD v [] = l := by rw [List.getD, List.getElem?_map, hr]; rfl
  refine ⟨gv, cv, l, hr, hl, ?_, fun j hj => ?_, hf, fun u => ?_⟩
  · rw [World.ownsRow.cellAt hoo v (by omega), List.getElem?_map, hr]; rfl
  · have hj' : j < l.length := by omega
    rw [hc j l[j] (List.getElem?_eq_getElem hj'), mget, hgd, List.getD, List.getElem?_eq_getElem hj']; rfl
  · rw [mset, hgd, List.map_set]
def rowJ (l : List Int) (n j : Nat) : List Bool := (List.range n).map fun (u : Nat) => if u < j then decide ((u : Int) ∈ l) else false
theorem rowJ_len (l : List Int) (n j : Nat) : (rowJ l n j).length = n := by simp [rowJ]
theorem rowJ_zero (l : List Int) (n : Nat) : rowJ l n 0 = List.replicate n false := by
  apply List.ext_getElem
  · simp [rowJ]
  · intro i h1 h2; simp [rowJ]
theorem rowJ_all (l : List Int) (n : Nat) : rowJ l n n = (List.range n).map fun (u : Nat) => decide ((u : Int) ∈ l) := by
  apply List.map_congr_left
  intro u hu
  rw [if_pos (by simpa using hu)]
theorem rowJ_set {l : List Int} {n j : Nat} (hj : j < n) : (rowJ l n j).set j (decide ((j : Int) ∈ l)) = rowJ l n (j + 1) := by
  apply List.ext_getElem
  · simp [rowJ]
  · intro i h1 h2
    rw [List.getElem_set]
    simp only [rowJ, List.getElem_map, List.getElem_range]
    by_cases h : j = i
    · subst h; simp
    · rw [if_neg h]
      by_cases h3 : i < j
      · rw [if_pos h3, if_pos (by omega)]
      · rw [if_neg h3, if_neg (by omega)]
set_option maxRecDepth 100000 in
set_option maxHeartbeats 2000000 in
theorem reachW (A : Option Addr) (n c : Nat) (ls : List (List Int)) (w : World) (hr : RdLL (fun _ => True) w A n ls) (hn : n ≤ 100) (hl : ∀ l ∈ ls, l.length ≤ 1000000) :
    Calls Try.prog 33 #[.slice A n c] w (GivesMB n (reachT ls) w) := by
  obtain ⟨i1, hj0, hy0, hy1, hy2⟩ := info_parts Try.infoBD
  obtain ⟨i2, hk0, hv0, hv1, hv2⟩ := info_parts Try.infoBSD
  have HR := Lib.hid hr
  have HL := Lib.hid hl
  have HLN : Hid (ls.length = n) := hr.len
  clear hr hl
  go_enter Try.func33, Try.ntmps33
  go_wp2
  go_loopw [4, 5] (fun v i wr => ∃ k : Nat, k ≤ n ∧ i = .int .i64 k ∧ Hid (∃ Or, OutB w wr v Or ∧ Or.length = k ∧ Or.map (·.2) = (tab0 ls n).take k)) (fun _ i _ => n - (intOf i).toNat)
  case atStart => exact ⟨0, by omega, rfl, [], ⟨⟨by simp, by simp⟩, World.ownsRow_nil _ _ _ _, Ext.rfl'⟩, rfl, by simp⟩
  case round =>
    obtain ⟨k, hk, rfl, HS⟩ := hrel
    obtain ⟨wa, HWA⟩ : ∃ wa, wa = wr := ⟨_, rfl⟩
    subst HWA
    obtain ⟨Or, hS, hlen, hmap⟩ := HS.out
    clear HS
    have HS := Lib.hid hS
    have HLEN := Lib.hid hlen
    have HMAP := Lib.hid hmap
    by_cases hlt : k < n
    · have hkn : (k : Int) < (n : Int) := by omega
      obtain ⟨b, off, A', c', l, rfl, -, hl2, hcl, -, hrl, -, -⟩ := (HR.out.ext hS.ex).at_ hlt
      obtain ⟨m, HM5⟩ : ∃ m, Hid (l.length = m) := ⟨_, rfl⟩
      have hm := HL.out l (List.mem_of_getElem? hl2)
      rw [HM5.out] at hcl hrl hm
      have HCL := Lib.hid hcl
      have HRL := Lib.hid hrl
      have HGD : Hid (ls.getD k [] = l) := RdLL.getD_ hl2
      obtain ⟨A3, c3, hv3, hq3, -⟩ := Rd.own hS.oo
      subst hv3
      rw [hlen] at hq3
      have HOO : Hid (wa.ownsRow w.heap.size 39 1 (.slice A3 k c3) k (Or.map (·.1))) := by have := hS.oo; rwa [hlen] at this
      have HSK : Hid (OutB w wa (.slice A3 k c3) Or) := by have := hS; rwa [hlen] at this
      rw [HLEN.out]
      clear hS hl2 hrl hlen hmap hcl HS
      go_wp2_with (at_make; refine wpList_make_full wa rfl _ _ 39 rfl wa.heap.size 4 i1 (.bool false) 1 Try.underlying39 hj0 hy0 hy1 .i64 .i64 _ _ n rfl rfl rfl rfl (by rw [hy2]; omega) (by simp only [maxLen]; omega) (Nat.le_refl _) ?_; intro wm hown hgrow; have HM : Hid (Ext wa wm) := (Ext.rfl' (w := wa)).grown hgrow (Nat.le_refl _) (fun k hk => by cases hk); have HOm := Lib.hid hown; clear hown hgrow)
      have hrow : OV wm wa.heap.size (.slice (some ⟨wa.heap.size, 0, none⟩) n n) (rowJ l n 0) := by
        refine OV.of_n (n := n) ?_ (rowJ_len _ _ _)
        have h2 := HOm.out
        rw [rowJ_zero, flat_encB, List.map_replicate]
        simpa [Value.cells, toList_madeCells_one] using h2
      have HROW := Lib.hid hrow
      obtain ⟨R0, HR0⟩ : ∃ R0, Hid (wa.heap.size = R0) := ⟨_, rfl⟩
      have HROW2 : Hid (OV wm wa.heap.size (.slice (some ⟨R0, 0, none⟩) n n) (rowJ l n 0)) := by rw [← HR0.out]; exact HROW.out
      rw [HR0.out]
      clear hrow HOm HROW
      go_loopw [7] (fun i wx => ∃ j : Nat, j ≤ n ∧ i = .int .i64 j ∧ Hid (OV wx wa.heap.size (.slice (some ⟨R0, 0, none⟩) n n) (rowJ l n j)) ∧ Hid (Ext wa wx)) (fun i _ => n - (intOf i).toNat)
      case atStart => exact ⟨0, by omega, rfl, HROW2.out, HM.out⟩
      case round =>
        obtain ⟨j, hj, rfl, HV, HX⟩ := hrel
        have hcl := HX.out.cell' HCL.out
        by_cases hjn : j < n
        · have hjn2 : (j : Int) < (n : Int) := by omega
          obtain ⟨y, hy⟩ : ∃ y, (rowJ l n j)[j]? = some y := ⟨_, List.getElem?_eq_getElem (by rw [rowJ_len]; exact hjn)⟩
          have hcy := (HV.out.cells2).1 j y hy
          have hfy := (HV.out.cells2).2 j
          obtain ⟨z, HZ⟩ : ∃ z, Hid (decide ((j : Int) ∈ l) = z) := ⟨_, rfl⟩
          have HAS := Lib.hid (refHas5V (x := (j : Int)) (L := l) HZ.out A' m c' wr (HRL.out.ext HX.out) (by omega))
          have HST := Lib.hid (OV.store2 HV.out (rowJ_len l n j) j z)
          have HNX : Hid ((rowJ l n j).set j z = rowJ l n (j + 1)) := by show _ = _; rw [← HZ.out]; exact rowJ_set hjn
          have HX2 : Hid (Ext wa (wr.setCell ⟨R0, j, none⟩ (.bool z))) := HX.out.setCell (by have := (own_obj HV.out (g := R0) rfl).1; exact this) _
          clear hy
          go_wp2_with fail
          refine HAS.out.mono ?_
          rintro e w1 ⟨rfl, rfl⟩
          go_wp2
          go_roundw
          case rel => exact ⟨j + 1, by omega, by go_num, by rw [← HNX.out]; exact HST.out, HX2.out⟩
          case measure => simp [intOf]; omega
        · have hjn2 : ¬ (j : Int) < (n : Int) := by omega
          obtain rfl : n = j := by omega
          have HALL : Hid ((Or ++ [((.slice (some ⟨R0, 0, none⟩) n n, rowJ l n n) : RowB)]).map (·.2) = (tab0 ls n).take (k + 1)) := by
            show _ = _
            have h1 : (tab0 ls n)[k]? = some (rowJ l n n) := by rw [rowJ_all, tab0, List.getElem?_map, List.getElem?_range hlt, Option.map_some, HGD.out]
            rw [List.map_append, HMAP.out, take_snoc' h1]; rfl
          obtain ⟨FL, HF⟩ : ∃ FL, Hid (FL = Or.map (·.1)) := ⟨_, rfl⟩
          have hown : wr.ownsRow w.heap.size 39 1 (.slice A3 k c3) k FL := by rw [HF.out]; exact (Mod.of_ext (S := []) HX.out).own HOO.out (by simp)
          have HSZ : Hid (w.heap.size ≤ wr.heap.size) := (HSK.out.ex.trans' HX.out).size
          have HADD : Hid (∀ w1 gg cap o, w1.ownsRow w.heap.size 39 1 (.slice (some ⟨gg, 0, none⟩) (k + 1) cap) (k + 1) (Or.map (·.1) ++ [.slice (some ⟨R0, 0, none⟩) n n]) → (wr.alloc o).grownBy w1 (Value.slice A3 k c3).ownBlock → OutB w w1 (.slice (some ⟨gg, 0, none⟩) (k + 1) cap) (Or ++ [(.slice (some ⟨R0, 0, none⟩) n n, rowJ l n n)])) := fun w1 gg cap o h1 h2 =>
            HSK.out.add HLEN.out HV.out HX.out (((Mod.refl _ wr).alloc o).grown h2 (fun j hj => .inl (by rw [hj]; simp))) h1
          have HLN1 : Hid ((Or ++ [((.slice (some ⟨R0, 0, none⟩) n n, rowJ l n n) : RowB)]).length = k + 1) := by show _ = _; rw [List.length_append, HLEN.out]; rfl
          clear hcl
          go_wp2_with (at_builtin; refine wpList_append_lies _ rfl _ _ _ rfl w.heap.size 39 i2 _ 1 24 Try.underlying52 hk0 hv0 hv1 hv2 rfl (by omega) _ k FL rfl (World.ownsRow.alloc hown _) ⟨wr.heap.size, 0, none⟩ 1 1 [.slice (some ⟨R0, 0, none⟩) n n] rfl rfl (World.news_of_block (cs := #[.slice (some ⟨R0, 0, none⟩) n n]) (t := 39) (fr := (0, 0)) (heap_alloc_new wr _)) (by simp [Value.oneCell']) (by omega) (by simp only [maxLen]; omega) (by omega) (by have := HSZ.out; first | (simp; done) | (simp; omega)) (wr.heap.size + 1) (by simp) ?_; intro gg cap w1 hown1 hgrow hat hlt2; have HX1 := Lib.hid (HADD.out w1 gg cap _ (by rw [← HF.out]; exact hown1) hgrow); clear hown1 hgrow hat)
          go_roundw
          case rel => exact ⟨k + 1, by omega, by go_num, _, HX1.out, HLN1.out, HALL.out⟩
          case measure => simp [intOf]; omega
    · obtain rfl : n = k := by omega
      have hkn : ¬ (n : Int) < (n : Int) := by omega
      have HM0 : Hid (Or.map (·.2) = tab0 ls n) := by
        show _ = _
        rw [HMAP.out, List.take_of_length_le (by rw [(sq_tab0 ls n).1]; exact Nat.le_refl _)]
      obtain ⟨A4, c4, hv4, -, -⟩ := Rd.own hS.oo
      rw [HLEN.out] at hv4
      subst hv4
      have HS0 := Lib.hid hS
      have HSQ := sq_tab0 ls n
      clear hS HS hlen hmap HMAP
      have HT : Hid (reachT ls = foldN (wall n) n (tab0 ls n)) := by show _ = _; rw [reachT, HLN.out]; rfl
      go_wp2
      go_loopw [8] (fun i wr => ∃ k : Nat, k ≤ n ∧ i = .int .i64 k ∧ Hid (∃ Or, OutB w wr (.slice A4 n c4) Or ∧ Or.length = n ∧ Or.map (·.2) = foldN (wall n) k (tab0 ls n))) (fun i _ => n - (intOf i).toNat)
      case atStart => exact ⟨0, by omega, rfl, Or, HS0.out, HLEN.out, HM0.out⟩
      case round =>
        obtain ⟨k, hk, rfl, HU⟩ := hrel
        by_cases hkl : k < n
        · have hkn2 : (k : Int) < (n : Int) := by omega
          have hsk : Sq n (foldN (wall n) k (tab0 ls n)) := HSQ.warsh
          obtain ⟨tk, HTK⟩ : ∃ tk, Hid (foldN (wall n) k (tab0 ls n) = tk) := ⟨_, rfl⟩
          rw [HTK.out] at HU hsk
          have HSK := Lib.hid hsk
          clear hsk
          go_wp2
          go_loopw [9] (fun i wr => ∃ v : Nat, v ≤ n ∧ i = .int .i64 v ∧ Hid (∃ Or, OutB w wr (.slice A4 n c4) Or ∧ Or.length = n ∧ Or.map (·.2) = foldN (wrow n k) v tk)) (fun i _ => n - (intOf i).toNat)
          case atStart => exact ⟨0, by omega, rfl, HU.out⟩
          case round =>
            obtain ⟨v, hv, rfl, HU⟩ := hrel
            by_cases hvl : v < n
            · have hvn2 : (v : Int) < (n : Int) := by omega
              have hsv : Sq n (foldN (wrow n k) v tk) := HSK.out.wall
              obtain ⟨tv, HTV⟩ : ∃ tv, Hid (foldN (wrow n k) v tk = tv) := ⟨_, rfl⟩
              rw [HTV.out] at HU hsv
              have HSV := Lib.hid hsv
              clear hsv
              go_wp2
              go_loopw [10] (fun i wr => ∃ u : Nat, u ≤ n ∧ i = .int .i64 u ∧ Hid (∃ Or, OutB w wr (.slice A4 n c4) Or ∧ Or.length = n ∧ Or.map (·.2) = foldN (wstep k v) u tv)) (fun i _ => n - (intOf i).toNat)
              case atStart => exact ⟨0, by omega, rfl, HU.out⟩
              case round =>
                obtain ⟨u, hu, rfl, HU⟩ := hrel
                by_cases hul : u < n
                · have hun2 : (u : Int) < (n : Int) := by omega
                  obtain ⟨Or, hO, hl, hm⟩ := HU.out
                  have hsu : Sq n (foldN (wstep k v) u tv) := HSV.out.wrow
                  obtain ⟨tu, HTU⟩ : ∃ tu, Hid (foldN (wstep k v) u tv = tu) := ⟨_, rfl⟩
                  rw [HTU.out] at hm hsu
                  obtain ⟨g4, c4', hA4⟩ : ∃ g4 c4', (Value.slice A4 n c4) = .slice (some ⟨g4, 0, none⟩) n c4' := by
                    rcases hO.oo.2 with ⟨h0, _⟩ | ⟨g, cap, cur, h1, _⟩
                    · injection h0 with _ h0 _; omega
                    · injection h1 with h1 h2 h3; exact ⟨g, c4, by rw [h1]⟩
                  injection hA4 with hA4 _ hA5
                  subst hA4
                  subst hA5
                  rw [← hm] at hsu
                  obtain ⟨gv, cv, lv, hrv, hlv, hcv, hbv, hfv, hsetv⟩ := hO.row hl hsu hvl
                  obtain ⟨gk, ck, lk, hrk, hlk, hck, hbk, -, -⟩ := hO.row hl hsu hkl
                  rw [hm] at hbv hbk hsetv
                  have b1 := hbv k hkl
                  have b2 := hbk u hul
                  have b3 := hbv u hul
                  have f3 := hfv u
                  have HSET := Lib.hid (hO.set (u := u) hrv hlv)
                  have HMS : Hid ((Or.set v (.slice (some ⟨gv, 0, none⟩) n cv, lv.set u true)).map (·.2) = mset tu v u) := hsetv u
                  have HLS : Hid ((Or.set v ((.slice (some ⟨gv, 0, none⟩) n cv, lv.set u true) : RowB)).length = n) := by show _ = _; rw [List.length_set, hl]
                  have HO := Lib.hid hO
                  have HL2 := Lib.hid hl
                  have HMM := Lib.hid hm
                  obtain ⟨x1, HX1⟩ : ∃ x1, Hid (mget tu v k = x1) := ⟨_, rfl⟩
                  obtain ⟨x2, HX2⟩ : ∃ x2, Hid (mget tu k u = x2) := ⟨_, rfl⟩
                  rw [HX1.out] at b1
                  rw [HX2.out] at b2
                  have HFN : Hid (foldN (wstep k v) (u + 1) tv = if x1 && x2 then mset tu v u else tu) := by show _ = _; rw [foldN, HTU.out, wstep, HX1.out, HX2.out]
                  clear hO hl hm hsu hrv hlv hbv hfv hsetv hrk hlk hbk HU
                  cases x1 with
                  | false =>
                    replace HFN : Hid (foldN (wstep k v) (u + 1) tv = tu) := by show _ = _; rw [HFN.out]; rfl
                    go_wp2
                    go_roundw
                    case rel => exact ⟨u + 1, by omega, by go_num, Or, HO.out, HL2.out, by rw [HFN.out]; exact HMM.out⟩
                    case measure => simp [intOf]; omega
                  | true =>
                    cases x2 with
                    | false =>
                      replace HFN : Hid (foldN (wstep k v) (u + 1) tv = tu) := by show _ = _; rw [HFN.out]; rfl
                      go_wp2
                      go_roundw
                      case rel => exact ⟨u + 1, by omega, by go_num, Or, HO.out, HL2.out, by rw [HFN.out]; exact HMM.out⟩
                      case measure => simp [intOf]; omega
                    | true =>
                      replace HFN : Hid (foldN (wstep k v) (u + 1) tv = mset tu v u) := by show _ = _; rw [HFN.out]; rfl
                      go_wp2
                      go_roundw
                      case rel => exact ⟨u + 1, by omega, by go_num, _, HSET.out, HLS.out, by rw [HFN.out]; exact HMS.out⟩
                      case measure => simp [intOf]; omega
                · have hun2 : ¬ (u : Int) < (n : Int) := by omega
                  obtain rfl : n = u := by omega
                  have HFN : Hid (foldN (wrow n k) (v + 1) tk = foldN (wstep k v) n tv) := by show _ = _; rw [foldN, HTV.out]; rfl
                  rw [← HFN.out] at HU
                  go_wp2
                  go_roundw
                  case rel => exact ⟨v + 1, by omega, by go_num, HU.out⟩
                  case measure => simp [intOf]; omega
            · have hvn2 : ¬ (v : Int) < (n : Int) := by omega
              obtain rfl : n = v := by omega
              have HFN : Hid (foldN (wall n) (k + 1) (tab0 ls n) = foldN (wrow n k) n tk) := by show _ = _; rw [foldN, HTK.out]; rfl
              rw [← HFN.out] at HU
              go_wp2
              go_roundw
              case rel => exact ⟨k + 1, by omega, by go_num, HU.out⟩
              case measure => simp [intOf]; omega
        · have hkn2 : ¬ (k : Int) < (n : Int) := by omega
          obtain rfl : n = k := by omega
          rw [← HT.out] at HU
          obtain ⟨Or, hO, hl, hm⟩ := HU.out
          have HG := Lib.hid (hO.gives hl)
          rw [hm] at HG
          clear hO hl hm HU
          go_wp2
          (try rw [Exit.noGoto_ret])
          go_ret
          exact HG.out
end Go.Proofs.Ytmejjeeobhapfaa
