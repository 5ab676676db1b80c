/-
  Walks: the numbers of slots; those that begin. Conditions: none.
-/
import Derived.Test.YtbcpjdjlgmhohaaWPlc
import Derived.Test.YtbcpjdjlgmhohaaWTimes9
namespace Go.Proofs.Ytbcpjdjlgmhohaa
open Go.RowKit
set_option linter.unusedVariables false
set_option linter.unusedSimpArgs false

def GivesIds (l : List Slt) (n : Nat) (w : World) (e : Ending) (w' : World) : Prop := ∃ A c, e = .returned (.slice A n c) ∧ RdI w' A n (l.map (·.1)) ∧ Ext w w'
set_option maxHeartbeats 2000000 in
theorem refIDs (A : Option Addr) (n c : Nat) (l : List Slt) (w : World) (hs : RdQ w A n l) (hn : n ≤ 100000) :
    Calls Try.prog 16 #[.slice A n c] w (GivesIds l n w) := by
  have HS := Lib.hid hs; clear hs
  obtain ⟨i0, hi0, hz0, hz1, hz2⟩ := info_parts Try.infoInt9
  go_enter Try.func16, Try.ntmps16
  go_wp2
  go_loopw [3, 4] (fun v i wr => ∃ k : Nat, k ≤ n ∧ i = .int .i64 k ∧ wr.ownsRow w.heap.size 3 1 v k (flat encI ((l.take k).map (·.1))) ∧ Ext w wr) (fun _ i _ => n - (intOf i).toNat)
  case atStart => exact ⟨0, by omega, rfl, by simpa [flat] using World.ownsRow_nil _ _ _ _, Ext.rfl'⟩
  case round =>
    obtain ⟨k, hk, rfl, hown, hext⟩ := hrel
    by_cases hlt : k < n
    · obtain ⟨b, off, x1, x2, x3, x4, rfl, hb, hx, hd0, hd1, hd2, hd3⟩ := RdQ.cut HS.out hlt
      replace hd0 := hext.cell' hd0
      replace hd1 := hext.cell' hd1
      replace hd2 := hext.cell' hd2
      replace hd3 := hext.cell' hd3
      have HN : Hid (flat encI ((l.take (k + 1)).map (·.1)) = flat encI ((l.take k).map (·.1)) ++ [.int .i64 x1]) := by
        show _ = _
        rw [take_snoc' hx, List.map_append]
        exact flat_append encI _ [x1]
      have Hext := Lib.hid hext
      have HOW := Lib.hid hown
      clear hext hx hown
      obtain ⟨F, HF⟩ : ∃ F, Hid (flat encI ((l.take k).map (·.1)) = F) := ⟨_, rfl⟩
      rw [HF.out] at HOW HN
      go_wp2_with (at_builtin; refine wpList_append_lies _ rfl _ _ _ rfl w.heap.size 3 i0 _ 1 8 Try.underlying31 hi0 hz0 hz1 hz2 rfl (by omega) _ k F rfl (World.ownsRow.alloc HOW.out _) ⟨wr.heap.size, 0, none⟩ 1 1 [.int .i64 x1] rfl rfl (World.news_of_block (cs := #[.int .i64 x1]) (t := 3) (fr := (0, 0)) (heap_alloc_new wr _)) (by simp [Value.oneCell']) (by omega) (by simp only [maxLen]; omega) (by omega) (by have := Hext.out.size; simp; omega) (wr.heap.size + 1) (by simp) ?_; intro gg cap w1 hown1 hgrow hat hlt2; have Hown1 := Lib.hid hown1; have Hgrow := Lib.hid hgrow; clear hown1 hgrow hat)
      go_roundw
      case rel => exact ⟨k + 1, by omega, by go_num, by rw [HN.out]; exact Hown1.out, (Hext.out.alloc Hext.out.size _).grown Hgrow.out (by have := Hext.out.size; simp; omega) (fun z hz => (HOW.out.lt z hz).1)⟩
      case measure => simp [intOf]; omega
    · obtain rfl : k = n := by omega
      rw [take_all' (RdL.len HS.out) (Nat.le_refl _)] at hown
      obtain ⟨A', c', rfl, hc', hr'⟩ := RdL.of_own encI_len hown (by rw [List.length_map, RdL.len HS.out])
      have HR9 := Lib.hid hr'
      have Hext := Lib.hid hext
      clear hown hr' hext
      go_wp2
      (try rw [Exit.noGoto_ret])
      go_ret
      exact ⟨A', c', rfl, HR9.out, Hext.out⟩

def GivesNow (l : List Stp) (now : Int) (jobs : List Jb) (w : World) (e : Ending) (w' : World) : Prop := ∃ A m c, e = .returned (.tuple #[.slice A m c, .int .i64 (plcE l now 0 jobs)]) ∧ RdI w' A m ((plcR l now 0 jobs).map (·.1)) ∧ Ext w w'

set_option maxHeartbeats 4000000 in
theorem fillNow (A B : Option Addr) (n0 m c d : Nat) (l : List Stp) (now : Int) (jobs : List Jb) (w : World) (hr : RdP w A n0 l) (hs : RdQ w B m jobs) (hn : n0 ≤ 9000) (hm : m ≤ 4000) (hnc : n0 ≤ c) (hwf : IdsWf jobs) :
    Calls Try.prog 13 #[.slice A n0 c, .int .i64 now, .slice B m d] w (GivesNow l now jobs w) := by
  obtain ⟨i0, hi0, hz0, hz1, hz2⟩ := info_parts Try.infoInt9
  have HC := Lib.hid (show Hid _ from fillPlaces A B n0 m c d l now 0 jobs w hr hs hn hm hnc hwf (by omega))
  have HPL : Hid ((plcR l now 0 jobs).length ≤ m) := by show _ ≤ _; have := plcR_len l now 0 jobs; rwa [RdL.len hs] at this
  clear hr hs
  go_enter Try.func13, Try.ntmps13
  go_wp2_with fail
  refine Calls.mono HC.out ?_
  rintro e w1 ⟨A1, n, c1, rfl, hr1, hc1, hx1⟩
  have HS := Lib.hid hr1
  have HX1 := Lib.hid hx1
  have hnm : n ≤ m := by rw [← RdL.len hr1]; exact HPL.out
  obtain ⟨z, HZ⟩ : ∃ z, Hid (plcE l now 0 jobs = z) := ⟨_, rfl⟩
  obtain ⟨P, HP⟩ : ∃ P, Hid (plcR l now 0 jobs = P) := ⟨_, rfl⟩
  rw [HZ.out]
  rw [HP.out] at HS
  clear hr1 hc1 hx1 HC
  go_wp2
  go_loopw [10, 22] (fun v i wr => ∃ k : Nat, k ≤ n ∧ i = .int .i64 k ∧ wr.ownsRow w1.heap.size 3 1 v k (flat encI ((P.take k).map (·.1))) ∧ Ext w1 wr) (fun _ i _ => n - (intOf i).toNat)
  case atStart => exact ⟨0, by omega, rfl, by simpa [flat] using World.ownsRow_nil _ _ _ _, Ext.rfl'⟩
  case round =>
    obtain ⟨k, hk, rfl, hown, hext⟩ := hrel
    by_cases hlt : k < n
    · obtain ⟨b, off, x1, x2, x3, x4, rfl, hb, hx, hd0, hd1, hd2, hd3⟩ := RdQ.cut HS.out hlt
      replace hd0 := hext.cell' hd0
      replace hd1 := hext.cell' hd1
      replace hd2 := hext.cell' hd2
      replace hd3 := hext.cell' hd3
      have HN : Hid (flat encI ((P.take (k + 1)).map (·.1)) = flat encI ((P.take k).map (·.1)) ++ [.int .i64 x1]) := by
        show _ = _
        rw [take_snoc' hx, List.map_append]
        exact flat_append encI _ [x1]
      have Hext := Lib.hid hext
      have HOW := Lib.hid hown
      clear hext hx hown
      obtain ⟨F, HF⟩ : ∃ F, Hid (flat encI ((P.take k).map (·.1)) = F) := ⟨_, rfl⟩
      rw [HF.out] at HOW HN
      go_upto_region 6 with fail
      obtain ⟨w4, hw4⟩ : ∃ w4 : World, wr.alloc (.cells #[.int .i64 x1, .int .i64 x2, .int .i64 x3, .int .i64 x4] 57) = w4 := ⟨_, rfl⟩
      rw [hw4]
      obtain ⟨jb, hjb⟩ : ∃ jb : Nat, wr.heap.size = jb := ⟨_, rfl⟩
      have j0 : w4.cell? ⟨jb, 0, none⟩ = some (.int .i64 x1) := by rw [← hw4, ← hjb]; simp
      have hx4 : Ext wr w4 := by rw [← hw4]; exact (Below.refl _ _).alloc (Nat.le_refl _) _
      have HOW4 := Lib.hid (own_ext HOW.out hx4)
      have Hext4 := Lib.hid (Hext.out.trans' hx4)
      rw [hjb]
      clear hw4 hx4 hjb hd0 hd1 hd2 hd3
      go_wp2_with (at_builtin; refine wpList_append_lies _ rfl _ _ _ rfl w1.heap.size 3 i0 _ 1 8 Try.underlying31 hi0 hz0 hz1 hz2 rfl (by omega) _ k F rfl (World.ownsRow.alloc HOW4.out _) ⟨w4.heap.size, 0, none⟩ 1 1 [.int .i64 x1] rfl rfl (World.news_of_block (cs := #[.int .i64 x1]) (t := 3) (fr := (0, 0)) (heap_alloc_new w4 _)) (by simp [Value.oneCell']) (by omega) (by simp only [maxLen]; omega) (by omega) (by have := Hext4.out.size; simp; omega) (w4.heap.size + 1) (by simp) ?_; intro gg cap w1 hown1 hgrow hat hlt2; have Hown1 := Lib.hid hown1; have Hgrow := Lib.hid hgrow; clear hown1 hgrow hat)
      go_roundw
      case rel => exact ⟨k + 1, by omega, by go_num, by rw [HN.out]; exact Hown1.out, (Hext4.out.alloc Hext4.out.size _).grown Hgrow.out (by have := Hext4.out.size; simp; omega) (fun z hz => (HOW4.out.lt z hz).1)⟩
      case measure => simp [intOf]; omega
    · obtain rfl : k = n := by omega
      rw [take_all' (RdL.len HS.out) (Nat.le_refl _)] at hown
      obtain ⟨A', c', rfl, hc', hr'⟩ := RdL.of_own encI_len hown (by rw [List.length_map, RdL.len HS.out])
      have HR9 := Lib.hid hr'
      have Hext := Lib.hid (HX1.out.trans' hext)
      clear hown hr' hext
      go_wp2
      (try rw [Exit.noGoto_ret])
      go_ret2
      exact ⟨A', _, c', by rw [HZ.out]; rfl, by rw [HP.out]; exact HR9.out, Hext.out⟩
end Go.Proofs.Ytbcpjdjlgmhohaa
