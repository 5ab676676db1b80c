/-
  Walk: the document's times at which something may change, rising, each once. Conditions: none.
-/
import Derived.Test.YtbcpjdjlgmhohaaMBase
import Derived.Test.YtbcpjdjlgmhohaaWEnds
import Derived.Deep.RegionHeld3
import Derived.Deep.AppendLies
namespace Go.Proofs.Ytbcpjdjlgmhohaa
open Go.RowKit

theorem own_ext {w w' : World} {base : Nat} {e : TypeId} {size n : Nat} {v : Value} {xs : List Value} (h : w.ownsRow base e size v n xs) (hx : Ext w w') : w'.ownsRow base e size v n xs := by
  refine ⟨h.1, ?_⟩
  rcases h.2 with h1 | ⟨g, cap, cur, h1, h2, h3, h4⟩
  · exact .inl h1
  · exact .inr ⟨g, cap, cur, h1, h2, by rw [hx.block g (Array.getElem?_eq_some_iff.1 h3).1]; exact h3, h4⟩
theorem own_low {w : World} {base base' : Nat} {e : TypeId} {size n : Nat} {v : Value} {xs : List Value} (h : w.ownsRow base e size v n xs) (hb : base' ≤ base) : w.ownsRow base' e size v n xs := by
  refine ⟨h.1, ?_⟩
  rcases h.2 with h1 | ⟨g, cap, cur, h1, h2, h3⟩
  · exact .inl h1
  · exact .inr ⟨g, cap, cur, h1, Nat.le_trans hb h2, h3⟩
def slLen : Value → Nat
  | .slice _ n _ => n
  | _ => 0
theorem flat_I1 (a : Int) : flat encI [a] = [.int .i64 a] := rfl
/-- it hands back a new slice that reads as l -/
def GivesTI (l : List Int) (w : World) (e : Ending) (w' : World) : Prop := ∃ A c, e = .returned (.slice A l.length c) ∧ RdI w' A l.length l ∧ Ext w w'
theorem Try.infoInt9 : (Try.prog.info? 3).map (fun i => (i.zero, i.size, i.bytes)) = some (some (.int .i64 0), 1, 8) := by kernel_rfl
theorem lmin_take {all : List Int} {x : Int} {k : Nat} {y : Int} (h : all[k]? = some y) : (all.take (k + 1)).foldl min x = min ((all.take k).foldl min x) y := by
  rw [take_snoc' h, List.foldl_append]; rfl
theorem filt_take {all : List Int} {t : Int} {k : Nat} {y : Int} (h : all[k]? = some y) : (all.take (k + 1)).filter (· != t) = (all.take k).filter (· != t) ++ if y != t then [y] else [] := by
  rw [take_snoc' h, List.filter_append]
  by_cases e : (y != t) = true
  · simp [e]
  · simp [e]
theorem filt_len (all : List Int) (t : Int) (k : Nat) : ((all.take k).filter (· != t)).length ≤ k := by
  have := List.length_filter_le (· != t) (all.take k)
  have := List.length_take_le k all
  omega

set_option maxRecDepth 100000 in
set_option maxHeartbeats 8000000 in
theorem refTimes9 (A B : Option Addr) (n m c d : Nat) (l r : List Stp) (a b : Int) (w : World) (hr : RdP w A n l) (hs : RdP w B m r) (hn : n ≤ 100000) (hm : m ≤ 100000) :
    Calls Try.prog 54 #[.slice A n c, .slice B m d, .int .i64 a, .int .i64 b] w (GivesTI (timesR l r a b) w) := by
  have HR := Lib.hid hr; clear hr
  have HS := Lib.hid hs; clear hs
  obtain ⟨i0, hi0, hz0, hz1, hz2⟩ := info_parts Try.infoInt9
  have em := min_go
  go_enter Try.func54, Try.ntmps54
  go_wp2
  go_loopw [9, 10] (fun v i wr => ∃ k : Nat, k ≤ n ∧ i = .int .i64 k ∧ wr.ownsRow w.heap.size 3 1 v (2 + k) (flat encI (a :: b :: (l.take k).map (·.1))) ∧ Ext w wr) (fun _ i _ => n - (intOf i).toNat)
  case atStart => exact ⟨0, by omega, rfl, own_lit w w.heap.size 3 1 2 _ _ #[.int .i64 a, .int .i64 b] _ (Nat.le_refl _) rfl (by simp [maxLen]) rfl (by simp) rfl, (Below.refl _ _).alloc (Nat.le_refl _) _⟩
  case round =>
    obtain ⟨k, hk, rfl, hown, hext⟩ := hrel
    by_cases hlt : k < n
    · obtain ⟨bb, off, y, u, rfl, hbb, hx, hd0, _⟩ := RdP.cut HR.out hlt
      replace hd0 := hext.cell' hd0
      have HN : Hid (flat encI (a :: b :: (l.take (k + 1)).map (·.1)) = flat encI (a :: b :: (l.take k).map (·.1)) ++ [.int .i64 y]) := by
        show _ = _
        rw [take_snoc' hx, List.map_append]
        exact flat_append encI (a :: b :: (l.take k).map (·.1)) [y]
      have Hext := Lib.hid hext
      clear hext hx
      obtain ⟨F, HF⟩ : ∃ F, Hid (F = flat encI (a :: b :: (l.take k).map (·.1))) := ⟨_, rfl⟩
      rw [← HF.out] at hown
      go_wp2_with (at_builtin; refine wpList_append_lies _ rfl _ _ _ rfl w.heap.size 3 i0 _ 1 8 Try.underlying31 hi0 hz0 hz1 hz2 rfl (by omega) _ (2 + k) F rfl (World.ownsRow.alloc hown _) ⟨wr.heap.size, 0, none⟩ 1 1 [.int .i64 y] rfl rfl (World.news_of_block (cs := #[.int .i64 y]) (t := 3) (fr := (0, 0)) (heap_alloc_new wr _)) (by simp [Value.oneCell']) (by omega) (by simp only [maxLen]; omega) (by omega) (by have := Hext.out.size; simp; omega) (wr.heap.size + 1) (by simp) ?_; intro gg cap w1 hown1 hgrow hat hlt2; have Hown1 := Lib.hid hown1; have Hgrow := Lib.hid hgrow; clear hown1 hgrow hat)
      go_roundw
      case rel =>
        refine ⟨k + 1, by omega, by go_num, ?_, ?_⟩
        · rw [HN.out, ← HF.out]
          exact Hown1.out
        · exact (Hext.out.alloc Hext.out.size _).grown Hgrow.out (by have := Hext.out.size; simp; omega) (fun z hz => (hown.lt z hz).1)
      case measure => simp [intOf]; omega
    · obtain rfl : k = n := by omega
      have HE : Hid (l.take k = l) := take_all' (RdL.len HR.out) (by omega)
      rw [HE.out] at hown
      have Hext := Lib.hid hext
      clear hext
      obtain ⟨w1, HW1⟩ : ∃ w1 : World, w1 = wr := ⟨_, rfl⟩
      subst HW1
      go_wp2
      go_loopw [9, 11] (fun v i wr => ∃ j : Nat, j ≤ m ∧ i = .int .i64 j ∧ wr.ownsRow w.heap.size 3 1 v (2 + k + j) (flat encI (a :: b :: (l.map (·.1) ++ (r.take j).map (·.1)))) ∧ Ext w wr) (fun _ i _ => m - (intOf i).toNat)
      case atStart => exact ⟨0, by omega, rfl, by simpa using hown, Hext.out⟩
      case round =>
        clear hown Hext
        obtain ⟨j, hj, rfl, hown, hext⟩ := hrel
        by_cases hlt2 : j < m
        · obtain ⟨bb, off, y, u, rfl, hbb, hx, hd0, _⟩ := RdP.cut HS.out hlt2
          replace hd0 := hext.cell' hd0
          have HN : Hid (flat encI (a :: b :: (l.map (·.1) ++ (r.take (j + 1)).map (·.1))) = flat encI (a :: b :: (l.map (·.1) ++ (r.take j).map (·.1))) ++ [.int .i64 y]) := by
            show _ = _
            rw [take_snoc' hx, List.map_append, ← List.append_assoc]
            exact flat_append encI (a :: b :: (l.map (·.1) ++ (r.take j).map (·.1))) [y]
          have Hext := Lib.hid hext
          clear hext hx
          obtain ⟨F, HF⟩ : ∃ F, Hid (F = flat encI (a :: b :: (l.map (·.1) ++ (r.take j).map (·.1)))) := ⟨_, rfl⟩
          rw [← HF.out] at hown
          go_wp2_with (at_builtin; refine wpList_append_lies _ rfl _ _ _ rfl w.heap.size 3 i0 _ 1 8 Try.underlying31 hi0 hz0 hz1 hz2 rfl (by omega) _ (2 + k + j) F rfl (World.ownsRow.alloc hown _) ⟨wr.heap.size, 0, none⟩ 1 1 [.int .i64 y] rfl rfl (World.news_of_block (cs := #[.int .i64 y]) (t := 3) (fr := (0, 0)) (heap_alloc_new wr _)) (by simp [Value.oneCell']) (by omega) (by simp only [maxLen]; omega) (by omega) (by have := Hext.out.size; simp; omega) (wr.heap.size + 1) (by simp) ?_; intro gg cap w1 hown1 hgrow hat hlt2; have Hown1 := Lib.hid hown1; have Hgrow := Lib.hid hgrow; clear hown1 hgrow hat)
          go_roundw
          case rel =>
            refine ⟨j + 1, by omega, by go_num, ?_, ?_⟩
            · rw [HN.out, ← HF.out]
              exact Hown1.out
            · exact (Hext.out.alloc Hext.out.size _).grown Hgrow.out (by have := Hext.out.size; simp; omega) (fun z hz => (hown.lt z hz).1)
          case measure => simp [intOf]; omega
        · obtain rfl : j = m := by omega
          have HE2 : Hid (r.take j = r) := take_all' (RdL.len HS.out) (by omega)
          rw [HE2.out] at hown
          have Hext := Lib.hid hext
          clear hext hlt hlt2
          obtain ⟨all0, HA0⟩ : ∃ all0, Hid (all0 = a :: b :: (l.map (·.1) ++ r.map (·.1))) := ⟨_, rfl⟩
          have HL0 : Hid (all0.length = 2 + k + j) := by show _ = _; rw [HA0.out]; have := RdL.len HR.out; have := RdL.len HS.out; simp; omega
          rw [← HA0.out] at hown
          obtain ⟨w2, HW2⟩ : ∃ w2 : World, w2 = wr := ⟨_, rfl⟩
          subst HW2
          go_wp2
          go_loopw [9, 12] (fun v o wr => ∃ all out : List Int, wr.ownsRow w.heap.size 3 1 v all.length (flat encI all) ∧ wr.ownsRow w.heap.size 3 1 o out.length (flat encI out) ∧ Hid (out ++ rises all = rises all0 ∧ out.length + all.length ≤ 300000) ∧ Ext w wr) (fun v _ _ => slLen v)
          case atStart => exact ⟨all0, [], by rw [HL0.out]; exact hown, by simpa [flat] using World.ownsRow_nil _ _ _ _, ⟨rfl, by rw [HL0.out]; simp; omega⟩, Hext.out⟩
          case round =>
            clear hown Hext
            obtain ⟨all, out, hown, houn, HI, hext⟩ := hrel
            obtain ⟨w3, HW3⟩ : ∃ w3 : World, w3 = wr := ⟨_, rfl⟩
            subst HW3
            obtain ⟨A1, c1, rfl, _, hr1⟩ := RdL.of_own encI_len hown rfl
            obtain ⟨N, HNn⟩ : ∃ N, Hid (all.length = N) := ⟨_, rfl⟩
            obtain ⟨M, HM⟩ : ∃ M, Hid (out.length = M) := ⟨_, rfl⟩
            rw [HNn.out] at hown hr1 ⊢
            rw [HM.out] at houn
            have hb0 : M + N ≤ 300000 := by have := HI.out.2; rw [HM.out, HNn.out] at this; exact this
            have Hext := Lib.hid hext
            clear hext
            by_cases h0 : N = 0
            · subst h0
              have he : all = [] := List.length_eq_zero_iff.1 HNn.out
              have HF : Hid (out = timesR l r a b) := by
                have := HI.out.1
                rw [he, rises_nil, List.append_nil, HA0.out] at this
                exact this
              have HFL : Hid (M = (timesR l r a b).length) := by show _ = _; rw [← HF.out, HM.out]
              obtain ⟨A2, c2, rfl, _, hr2⟩ := RdL.of_own encI_len houn HM.out
              have HR2 : Hid (RdI w3 A2 M out) := hr2
              clear hown houn hr1 hr2 he
              go_wp2
              go_ret
              exact ⟨A2, c2, by rw [← HFL.out]; rfl, by rw [← HFL.out, ← HF.out]; exact HR2.out, Hext.out⟩
            · obtain ⟨x, rest, hxr⟩ : ∃ x rest, all = x :: rest := by
                cases all with
                | nil => exact absurd HNn.out.symm h0
                | cons x rest => exact ⟨x, rest, rfl⟩
              have HXR := Lib.hid hxr
              clear hxr
              have hN0 : 0 < N := by omega
              obtain ⟨bb, off, x', rfl, hbb, hx, hd0⟩ := RdI.cut hr1 (k := 0) hN0
              obtain rfl : x' = x := by rw [HXR.out] at hx; simpa using hx.symm
              have HR1 : Hid (RdI w3 (some ⟨bb, off, none⟩) N all) := hr1
              have HO1 := Lib.hid hown
              have HO2 := Lib.hid houn
              have hgt : decide ((N : Int) > 0) = true := by simp; omega
              have hi1 : (0 : Int) < (N : Int) := by omega
              simp only [Nat.add_zero] at hd0
              clear hx hr1 hown houn
              go_wp2
              go_loop [13, 14] (fun t i => ∃ q : Nat, q ≤ N ∧ i = .int .i64 q ∧ t = .int .i64 ((all.take q).foldl min x')) (fun _ i => N - (intOf i).toNat)
              case atStart => exact ⟨0, by omega, rfl, rfl⟩
              case round =>
                obtain ⟨q, hq, rfl, rfl⟩ := hrel
                by_cases hlt : q < N
                · obtain ⟨b2, o2, y, hA2, _, hy, he0⟩ := RdI.cut HR1.out (k := q) hlt
                  injection hA2 with hA2; injection hA2 with hA21 hA22 _; subst hA21; subst hA22
                  have HN : Hid ((all.take (q + 1)).foldl min x' = min ((all.take q).foldl min x') y) := lmin_take hy
                  clear hy
                  go_wp2
                  go_round
                  case rel => exact ⟨q + 1, by omega, by go_num, by rw [HN.out]⟩
                  case measure => simp [intOf]; omega
                · obtain rfl : q = N := by omega
                  have HT : Hid ((all.take q).foldl min x' = lmin x' rest) := by
                    show _ = _
                    rw [take_all' HNn.out (Nat.le_refl _), HXR.out]
                    show rest.foldl min (min x' x') = _
                    rw [Int.min_self]; rfl
                  rw [HT.out]
                  obtain ⟨t, Ht⟩ : ∃ t, Hid (lmin x' rest = t) := ⟨_, rfl⟩
                  rw [Ht.out]
                  clear hlt hd0 hi1
                  go_wp2
                  go_loopw [15, 16] (fun v i wr => ∃ p : Nat, p ≤ q ∧ i = .int .i64 p ∧ wr.ownsRow w3.heap.size 3 1 v ((all.take p).filter (· != t)).length (flat encI ((all.take p).filter (· != t))) ∧ Ext w3 wr) (fun _ i _ => q - (intOf i).toNat)
                  case atStart => exact ⟨0, by omega, rfl, by simpa [flat] using World.ownsRow_nil _ _ _ _, Ext.rfl'⟩
                  case round =>
                    obtain ⟨p, hp, rfl, hown, hext⟩ := hrel
                    obtain ⟨L, HL⟩ : ∃ L, Hid (L = ((all.take p).filter (· != t)).length) := ⟨_, rfl⟩
                    obtain ⟨F, HF⟩ : ∃ F, Hid (F = flat encI ((all.take p).filter (· != t))) := ⟨_, rfl⟩
                    have hLp : L ≤ p := by rw [HL.out]; exact filt_len _ _ _
                    by_cases hlt : p < q
                    · obtain ⟨b2, o2, y, hA2, _, hy, he0⟩ := RdI.cut HR1.out (k := p) hlt
                      injection hA2 with hA2; injection hA2 with hA21 hA22 _; subst hA21; subst hA22
                      replace he0 := hext.cell' he0
                      have HN0 : Hid ((all.take (p + 1)).filter (· != t) = (all.take p).filter (· != t) ++ if y != t then [y] else []) := filt_take hy
                      have Hext3 := Lib.hid hext
                      clear hy hext
                      by_cases hyt : y = t
                      · have HO3 := Lib.hid hown
                        have dy : (y != t) = false := by simpa using hyt
                        have HN : Hid ((all.take (p + 1)).filter (· != t) = (all.take p).filter (· != t)) := by show _ = _; rw [HN0.out, dy]; simp
                        clear hown hyt
                        go_wp2
                        go_roundw
                        case rel => exact ⟨p + 1, by omega, by go_num, by rw [HN.out]; exact HO3.out, Hext3.out⟩
                        case measure => simp [intOf]; omega
                      · have dy : (y != t) = true := by simpa using hyt
                        have HN : Hid ((all.take (p + 1)).filter (· != t) = (all.take p).filter (· != t) ++ [y]) := by show _ = _; rw [HN0.out, dy]; simp
                        rw [← HL.out, ← HF.out] at hown
                        clear hyt
                        go_wp2_with (at_builtin; refine wpList_append_lies _ rfl _ _ _ rfl w3.heap.size 3 i0 _ 1 8 Try.underlying31 hi0 hz0 hz1 hz2 rfl (by omega) _ L F rfl (World.ownsRow.alloc hown _) ⟨wr.heap.size, 0, none⟩ 1 1 [.int .i64 y] rfl rfl (World.news_of_block (cs := #[.int .i64 y]) (t := 3) (fr := (0, 0)) (heap_alloc_new wr _)) (by simp [Value.oneCell']) (by omega) (by simp only [maxLen]; omega) (by omega) (by have := Hext3.out.size; simp; omega) (wr.heap.size + 1) (by simp) ?_; intro gg cap w1 hown1 hgrow hat hlt2; have Hown1 := Lib.hid hown1; have Hgrow := Lib.hid hgrow; clear hown1 hgrow hat)
                        go_roundw
                        case rel =>
                          refine ⟨p + 1, by omega, by go_num, ?_, ?_⟩
                          · rw [HN.out, List.length_append, flat_append, flat_I1, ← HF.out, ← HL.out]
                            exact Hown1.out
                          · exact (Hext3.out.alloc Hext3.out.size _).grown Hgrow.out (by have := Hext3.out.size; simp; omega) (fun z hz => (hown.lt z hz).1)
                        case measure => simp [intOf]; omega
                    · obtain rfl : p = q := by omega
                      obtain ⟨w4, HW4⟩ : ∃ w4 : World, w4 = wr := ⟨_, rfl⟩
                      subst HW4
                      have HEp : Hid (all.take p = all) := take_all' HNn.out (Nat.le_refl _)
                      rw [HEp.out] at hown HL HF
                      rw [← HL.out, ← HF.out] at hown
                      have HO3 := Lib.hid hown
                      have HO4 := Lib.hid (own_ext HO2.out hext)
                      have HX4 := Lib.hid (Hext.out.trans' hext)
                      have HX34 := Lib.hid hext
                      have HLT : Hid (L < p) := by
                        show _ < _
                        rw [HL.out, ← HNn.out]
                        refine filter_lt _ _ ?_
                        rw [HXR.out, ← Ht.out]
                        exact lmin_mem rest x'
                      have HQ : Hid ((out ++ [t]) ++ rises (all.filter (· != t)) = rises all0 ∧ (out ++ [t]).length + (all.filter (· != t)).length ≤ 300000) := by
                        have h1 := HI.out.1
                        rw [HXR.out, rises_cons, Ht.out] at h1
                        refine ⟨?_, ?_⟩
                        · rw [HXR.out, ← h1, List.append_assoc]; rfl
                        · have h2 := HLT.out
                          rw [← HL.out]
                          simp only [List.length_append, List.length_cons, List.length_nil]
                          have := HM.out
                          omega
                      obtain ⟨G, HG⟩ : ∃ G, Hid (G = flat encI out) := ⟨_, rfl⟩
                      have houn := HO4.out
                      rw [← HG.out] at houn
                      have HOW := Lib.hid houn
                      clear hown hext hlt
                      go_wp2_with (at_builtin; refine wpList_append_lies _ rfl _ _ _ rfl w.heap.size 3 i0 _ 1 8 Try.underlying31 hi0 hz0 hz1 hz2 rfl (by omega) _ M G rfl (World.ownsRow.alloc houn _) ⟨w4.heap.size, 0, none⟩ 1 1 [.int .i64 t] rfl rfl (World.news_of_block (cs := #[.int .i64 t]) (t := 3) (fr := (0, 0)) (heap_alloc_new w4 _)) (by simp [Value.oneCell']) (by omega) (by simp only [maxLen]; omega) (by omega) (by have := HX4.out.size; simp; omega) (w4.heap.size + 1) (by simp) ?_; intro gg cap w5 hown1 hgrow hat hlt2; have Hown1 := Lib.hid hown1; have Hgrow := Lib.hid hgrow; clear hown1 hgrow hat)
                      go_roundw
                      case rel =>
                        refine ⟨all.filter (· != t), out ++ [t], ?_, ?_, HQ.out, ?_⟩
                        · rw [← HL.out, ← HF.out]
                          refine World.ownsRow.kept (own_low (HO3.out.alloc _) Hext.out.size) Hgrow.out ?_
                          cases hq : u15.ownBlock with
                          | none => exact .inl rfl
                          | some z =>
                            refine .inr fun e => ?_
                            have h1 := (HO3.out.lt z hq).1
                            have h2 := (HO2.out.lt z e.symm).2
                            omega
                        · rw [List.length_append, flat_append, flat_I1, ← HG.out, HM.out]
                          exact Hown1.out
                        · exact (HX4.out.alloc HX4.out.size _).grown Hgrow.out (by have := HX4.out.size; simp; omega) (fun z hz => (houn.lt z hz).1)
                      case measure =>
                        have h1 := HLT.out
                        have h2 : slLen u15 = L := by
                          obtain ⟨_, _, h3, _⟩ := Rd.own HO3.out
                          rw [h3]; rfl
                        simp [slLen] at *
                        omega
end Go.Proofs.Ytbcpjdjlgmhohaa
