/-
  Walk: whiles in which so many nodes are free. Conditions: none.
-/
import Derived.Test.YtbcpjdjlgmhohaaWReq
import Derived.Test.YtbcpjdjlgmhohaaWTimes
namespace Go.Proofs.Ytbcpjdjlgmhohaa
open Go.RowKit

/-- whiles that are shut, and since when one is open -/
abbrev Hol := List Stp × Option Int
def holStep (n : Int) (h : Hol) (s : Stp) : Hol :=
  match h.2 with
  | none => if n ≤ s.2 then (h.1, some s.1) else h
  | some x => if n ≤ s.2 then h else (h.1 ++ [(x, s.1)], none)
def holTo (n : Int) (l : List Stp) : Hol := l.foldl (holStep n) ([], none)
theorem holTo_snoc (n : Int) (l : List Stp) (s : Stp) : holTo n (l ++ [s]) = holStep n (holTo n l) s := by simp [holTo]
def holOut (h : Hol) : List Stp := h.1 ++ (match h.2 with | some x => [(x, 2199023255550)] | none => [])
def holes (n : Int) (l : List Stp) : List Stp := holOut (holTo n l)
theorem holStep_nn {n : Int} {h : Hol} {a u : Int} (h2 : h.2 = none) (hu : ¬ n ≤ u) : holStep n h (a, u) = h := by simp [holStep, h2, hu]
theorem holStep_np {n : Int} {h : Hol} {a u : Int} (h2 : h.2 = none) (hu : n ≤ u) : holStep n h (a, u) = (h.1, some a) := by simp [holStep, h2, hu]
theorem holStep_sp {n : Int} {h : Hol} {a u x : Int} (h2 : h.2 = some x) (hu : n ≤ u) : holStep n h (a, u) = h := by simp [holStep, h2, hu]
theorem holStep_sn {n : Int} {h : Hol} {a u x : Int} (h2 : h.2 = some x) (hu : ¬ n ≤ u) : holStep n h (a, u) = (h.1 ++ [(x, a)], none) := by simp [holStep, h2, hu]
theorem holOut_none {h : Hol} (h2 : h.2 = none) : holOut h = h.1 := by simp [holOut, h2]
theorem holOut_some {h : Hol} {x : Int} (h2 : h.2 = some x) : holOut h = h.1 ++ [(x, 2199023255550)] := by simp [holOut, h2]
/-- how they lie in memory -/
def HolAt (w wr : World) (v o : Value) (h : Hol) : Prop :=
  o = .bool h.2.isSome ∧ wr.ownsRow w.heap.size 61 2 v (holOut h).length (flat encP (holOut h)) ∧ Ext w wr
/-- it hands back a new slice that reads as l -/
def GivesP (l : List Stp) (w : World) (e : Ending) (w' : World) : Prop := ∃ A m c, e = .returned (.slice A m c) ∧ RdP w' A m l ∧ Ext w w'
theorem flat_set_last (c : List Stp) (x y a : Int) : (flat encP (c ++ [(x, y)])).set (c.length * 2 + 1) (.int .i64 a) = flat encP (c ++ [(x, a)]) := by
  rw [flat_append, flat_append, flat_one, flat_one, ← flat_length encP_len c, List.set_append_right _ _ (by omega)]
  simp [encP]
theorem Try.infoWin : (Try.prog.info? 61).map (fun i => (i.zero, i.size, i.bytes)) = some (some (.agg #[.int .i64 0, .int .i64 0]), 2, 16) := by kernel_rfl

set_option maxRecDepth 100000 in
set_option maxHeartbeats 1000000 in
theorem fitHoles (A : Option Addr) (m c : Nat) (l : List Stp) (n : Int) (w : World) (hr : RdP w A m l) (hn : m ≤ 100000) :
    Calls Try.prog 60 #[.slice A m c, .int .i64 n] w (GivesP (holes n l) w) := by
  have HR := Lib.hid hr; clear hr
  obtain ⟨i0, hi0, hz0, hz1, hz2⟩ := info_parts Try.infoWin
  go_enter Try.func60, Try.ntmps60
  go_wp2
  go_loopw [5, 6, 11] (fun v o i wr => ∃ k : Nat, k ≤ m ∧ i = .int .i64 k ∧ HolAt w wr v o (holTo n (l.take k)) ∧ (holOut (holTo n (l.take k))).length ≤ k) (fun _ _ i _ => m - (intOf i).toNat)
  case atStart => exact ⟨0, by omega, rfl, ⟨rfl, by simpa [holTo, holOut, flat] using World.ownsRow_nil _ _ _ _, Ext.rfl'⟩, by simp [holTo, holOut]⟩
  case round =>
    obtain ⟨k, hk, rfl, ⟨rfl, hown, hext⟩, hle⟩ := hrel
    by_cases hlt : k < m
    · obtain ⟨bb, off, a, u, rfl, hbb, hx, hd0, hd1⟩ := RdP.cut HR.out hlt
      replace hd0 := hext.cell' hd0
      replace hd1 := hext.cell' hd1
      have HS : Hid (holTo n (l.take (k + 1)) = holStep n (holTo n (l.take k)) (a, u)) := by
        show _ = _
        rw [take_snoc' hx, holTo_snoc]
      have hbw : bb < wr.heap.size := by have := hext.size; omega
      have hi0' : (0 : Int) ≤ (k : Int) := Int.natCast_nonneg _
      have hi1 : (k : Int) < (m : Int) := by omega
      have Hext := Lib.hid hext; clear hext hx
      obtain ⟨h, Hh⟩ : ∃ h, Hid (h = holTo n (l.take k)) := ⟨_, rfl⟩
      rw [← Hh.out] at hown hle HS ⊢
      rcases h2 : h.2 with _ | x
      · have Ho := Lib.hid (holOut_none h2)
        by_cases hu : n ≤ u
        · have HN : Hid (holTo n (l.take (k + 1)) = (h.1, some a)) := HS.out.trans (holStep_np h2 hu)
          rw [Ho.out] at hown hle
          obtain ⟨L, HL⟩ : ∃ L, Hid (L = h.1.length) := ⟨_, rfl⟩
          obtain ⟨F, HF⟩ : ∃ F, Hid (F = flat encP h.1) := ⟨_, rfl⟩
          rw [← HL.out] at hown hle
          rw [← HF.out] at hown
          clear h2
          go_wp2_with (at_builtin; refine wpList_append_lies _ rfl _ _ _ rfl w.heap.size 61 i0 _ 2 16 Try.underlying82 hi0 hz0 hz1 hz2 rfl (by omega) u5 L F rfl ((hown.alloc _).alloc _) ⟨wr.heap.size + 1, 0, none⟩ 1 1 [.int .i64 a, .int .i64 2199023255550] rfl rfl (World.news_of_block (cs := #[.int .i64 a, .int .i64 2199023255550]) (t := 61) (fr := (0, 0)) (by have := heap_alloc_new (wr.alloc (.cells #[.int .i64 a, .int .i64 u] 48)) (.cells #[.int .i64 a, .int .i64 2199023255550] 61); simpa using this)) (by simp [Value.oneCell']) (by omega) (by simp only [maxLen]; omega) (by omega) (by have := Hext.out.size; simp; omega) (wr.heap.size + 2) (by simp) ?_; intro gg cap w1 hown1 hgrow hat hlt2; have Hown1 := Lib.hid hown1; have Hgrow := Lib.hid hgrow; clear hown1 hgrow hat)
          go_roundw
          case rel =>
            refine ⟨k + 1, by omega, by go_num, ⟨by rw [HN.out]; rfl, ?_, ?_⟩, ?_⟩
            · rw [HN.out, holOut_some rfl, flat_append, flat_one, List.length_append, ← HL.out, ← HF.out]
              exact Hown1.out
            · exact ((Hext.out.alloc Hext.out.size _).alloc (by have := Hext.out.size; simp; omega) _).grown Hgrow.out (by have := Hext.out.size; simp; omega) (fun q hq => (hown.lt q hq).1)
            · rw [HN.out, holOut_some rfl, List.length_append, ← HL.out]; simp; omega
          case measure => simp [intOf]; omega
        · have HN : Hid (holTo n (l.take (k + 1)) = h) := HS.out.trans (holStep_nn h2 hu)
          have du : decide (n ≤ u) = false := by simpa using hu
          have hs : h.2.isSome = false := by rw [h2]; rfl
          clear h2
          go_wp2
          go_roundw
          case rel => exact ⟨k + 1, by omega, by go_num, ⟨by rw [HN.out, hs], by rw [HN.out]; exact hown.alloc _, Hext.out.alloc Hext.out.size _⟩, by rw [HN.out]; omega⟩
          case measure => simp [intOf]; omega
      · have Ho := Lib.hid (holOut_some h2)
        have hs : h.2.isSome = true := by rw [h2]; rfl
        by_cases hu : n ≤ u
        · have HN : Hid (holTo n (l.take (k + 1)) = h) := HS.out.trans (holStep_sp h2 hu)
          have du : decide (u < n) = false := by simpa using hu
          clear h2
          go_wp2
          go_roundw
          case rel => exact ⟨k + 1, by omega, by go_num, ⟨by rw [HN.out, hs]; rfl, by rw [HN.out]; exact hown.alloc _, Hext.out.alloc Hext.out.size _⟩, by rw [HN.out]; omega⟩
          case measure => simp [intOf]; omega
        · have HN : Hid (holTo n (l.take (k + 1)) = (h.1 ++ [(x, a)], none)) := HS.out.trans (holStep_sn h2 hu)
          have du : decide (n ≤ u) = false := by simpa using hu
          rw [Ho.out, List.length_append, List.length_singleton] at hown
          rw [Ho.out, List.length_append, List.length_singleton] at hle
          obtain ⟨L, HL⟩ : ∃ L, Hid (L = h.1.length) := ⟨_, rfl⟩
          rw [← HL.out] at hown hle
          obtain ⟨g, cap, rfl, hgb, hgs⟩ := hown.form (by omega)
          have e0 : wr.cell? ⟨g, L * 2 + 1, none⟩ = some (.int .i64 2199023255550) := by
            rw [hown.cellAt _ (by omega), flat_append, HL.out, ← flat_length encP_len h.1, List.getElem?_append_right (by omega)]
            simp [flat, encP]
          have e1 : wr.frozen? ⟨g, L * 2 + 1, none⟩ = false := hown.frozenAt _
          clear h2
          go_wp2
          go_roundw
          case rel =>
            have hst := hown.stored (L * 2 + 1) (.int .i64 a)
            refine ⟨k + 1, by omega, by go_num, ⟨by rw [HN.out]; rfl, ?_, ?_⟩, ?_⟩
            · rw [HN.out, holOut_none rfl, List.length_append, ← HL.out, ← flat_set_last _ x 2199023255550 a, ← HL.out]
              exact hst.1.alloc _
            · exact (Hext.out.setCell (p := ⟨g, L * 2 + 1, none⟩) hgb _).alloc (by have := Hext.out.size; simp; omega) _
            · rw [HN.out, holOut_none rfl, List.length_append, ← HL.out]; simp; omega
          case measure => simp [intOf]; omega
    · have HE : Hid (l.take k = l) := take_all' (RdL.len HR.out) (by omega)
      rw [HE.out] at hown
      obtain ⟨A', c', rfl, hc', hr'⟩ := RdL.of_own encP_len hown rfl
      have Hr := Lib.hid hr'
      clear hown hr'
      go_wp2
      go_ret
      exact ⟨A', _, c', rfl, Hr.out, hext⟩
end Go.Proofs.Ytbcpjdjlgmhohaa
