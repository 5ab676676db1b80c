/-
  Walk: the document's times at which something may begin to fit. Conditions: none.
-/
import Derived.Test.YtbcpjdjlgmhohaaMChk
import Derived.Deep.RegionHeld3
import Derived.Deep.AppendLies
namespace Go.Proofs.Ytbcpjdjlgmhohaa
open Go.RowKit

/-- it hands back a new slice that reads as l -/
def GivesI (l : List Int) (w : World) (e : Ending) (w' : World) : Prop := ∃ A m c, e = .returned (.slice A m c) ∧ RdI w' A m l ∧ Ext w w'
/-- the times -/
def timesL (l : List Stp) (f b g : Int) : List Int := [f, b - g] ++ l.flatMap fun s => [s.1, s.1 - g, s.1 - g + 1, s.1 - 1]
theorem timesL_snoc (l : List Stp) (s : Stp) (f b g : Int) : timesL (l ++ [s]) f b g = timesL l f b g ++ [s.1, s.1 - g, s.1 - g + 1, s.1 - 1] := by simp [timesL]
theorem timesL_len (l : List Stp) (f b g : Int) : (timesL l f b g).length = 2 + l.length * 4 := by
  unfold timesL
  rw [List.length_append]
  have := flat_length (enc := fun s : Stp => [Value.int .i64 s.1, .int .i64 s.1, .int .i64 s.1, .int .i64 s.1]) (size := 4) (fun _ => rfl) l
  simp only [flat, List.length_flatMap] at this
  simp only [List.length_flatMap, List.length_cons, List.length_nil] at this ⊢
  omega
theorem flat_encI4 (a b c d : Int) : flat encI [a, b, c, d] = [.int .i64 a, .int .i64 b, .int .i64 c, .int .i64 d] := rfl
theorem flat_encI2 (a b : Int) : flat encI [a, b] = [.int .i64 a, .int .i64 b] := rfl

theorem Try.infoInt : (Try.prog.info? 3).map (fun i => (i.zero, i.size, i.bytes)) = some (some (.int .i64 0), 1, 8) := by kernel_rfl

set_option maxRecDepth 100000 in
set_option maxHeartbeats 3200000 in
theorem refTimes (A : Option Addr) (n c : Nat) (l : List Stp) (f b g : Int) (w : World) (hr : RdP w A n l) (hn : n ≤ 100000)
    (hf : 0 ≤ f ∧ f ≤ 1099511627775) (hb : 0 ≤ b ∧ b ≤ 1099511627775) (hg : 0 ≤ g ∧ g ≤ 1099511627775) (hl : ∀ (i : Nat) (a f : Int), l[i]? = some (a, f) → 0 ≤ a ∧ a ≤ 1099511627775) :
    Calls Try.prog 53 #[.slice A n c, .agg #[.int .i64 f, .int .i64 b], .int .i64 g] w (GivesI (timesL l f b g) w) := by
  have HR := Lib.hid hr; clear hr
  have HL := Lib.hid hl; clear hl
  obtain ⟨i0, hi0, hz0, hz1, hz2⟩ := info_parts Try.infoInt
  obtain ⟨f0, f1⟩ := hf
  obtain ⟨b0, b1⟩ := hb
  obtain ⟨g0, g1⟩ := hg
  go_enter Try.func53, Try.ntmps53
  go_wp2
  go_loopw [7, 8] (fun v i wr => ∃ k : Nat, k ≤ n ∧ i = .int .i64 k ∧ wr.ownsRow w.heap.size 3 1 v (2 + k * 4) (flat encI (timesL (l.take k) f b g)) ∧ Ext w wr) (fun _ i _ => n - (intOf i).toNat)
  case atStart => exact ⟨0, by omega, rfl, own_lit (w.alloc (.cells #[.int .i64 f, .int .i64 b] 61)) w.heap.size 3 1 2 _ _ #[.int .i64 f, .int .i64 (b - g)] _ (by simp) rfl (by simp [maxLen]) rfl (by simp) (by simp [timesL, flat_encI2]), ((Below.refl _ _).alloc (Nat.le_refl _) _).alloc (by simp) _⟩
  case round =>
    obtain ⟨k, hk, rfl, hown, hext⟩ := hrel
    by_cases hlt : k < n
    · obtain ⟨bb, off, a, u, rfl, hbb, hx, hd0, _⟩ := RdP.cut HR.out hlt
      obtain ⟨a0, a1⟩ := HL.out _ _ _ hx
      replace hd0 := hext.cell' hd0
      have HS : Hid (timesL (l.take (k + 1)) f b g = timesL (l.take k) f b g ++ [a, a - g, a - g + 1, a - 1]) := by
        show _ = _
        rw [take_snoc' hx, timesL_snoc]
      have hne : u7.ownBlock ≠ some bb := fun e => by have := (hown.lt _ e).1; omega
      have hbw : bb < wr.heap.size := by have := hext.size; omega
      have Hext := Lib.hid hext; clear hext hx
      have hi0' : (0 : Int) ≤ (k : Int) := Int.natCast_nonneg _
      have hi1 : (k : Int) < (n : Int) := by omega
      have e1 : IntKind.i64.wrap (a - g) = a - g := IntWalk.i64_in _ (by omega)
      have e2 : IntKind.i64.wrap (a - g + 1) = a - g + 1 := IntWalk.i64_in _ (by omega)
      have e3 : IntKind.i64.wrap (a - 1) = a - 1 := IntWalk.i64_in _ (by omega)
      go_wp2_with fail
      go_region_held3 (fun w' => w'.cell? ⟨bb, off + k * 2, none⟩ = some (.int .i64 a))
        (first
          | go_keep
          | (rw [hgrow.cell_far _ (by simp; omega) (Ne.symm hne)]; assumption))
        ((refine step_append_lies _ (by rfl) _ _ _ (by rfl) w.heap.size 3 i0 _ 1 8 Try.underlying31 hi0 hz0 hz1 hz2 rfl (by omega) u7 (2 + k * 4) _ (by rfl) ((hown.alloc _).drew)
            ⟨wr.heap.size, 0, none⟩ 4 4 [.int .i64 a, .int .i64 (a - g), .int .i64 (a - g + 1), .int .i64 (a - 1)] (by rfl) (by rfl) (World.news_of_block (cs := #[.int .i64 a, .int .i64 (a - g), .int .i64 (a - g + 1), .int .i64 (a - 1)]) (t := 3) (fr := (0, 0)) (heap_alloc_new wr _)) (by simp [Value.oneCell'])
            (by omega) (by simp only [maxLen]; omega) (by omega) (by have := Hext.out.size; simp; omega) (wr.heap.size + 1) (by simp) ?_; intro gg cap w1 hown1 hgrow hat hlt))
      clear e1 e2 e3
      have HO : Hid (w1.ownsRow w.heap.size 3 1 (.slice (some ⟨gg, 0, none⟩) (2 + k * 4 + 4) cap) (2 + (k + 1) * 4) (flat encI (timesL (l.take (k + 1)) f b g))) := by
        show World.ownsRow _ _ _ _ _ _ _
        rw [HS.out, flat_append, flat_encI4, show 2 + (k + 1) * 4 = 2 + k * 4 + 4 by omega]
        exact hown1
      have HX : Hid (Ext w w1) := (Hext.out.alloc Hext.out.size _).drew.grown hgrow (by have := Hext.out.size; simp; omega) (fun q hq => (hown.lt q hq).1)
      clear hown1 hgrow hat hlt hown
      go_wp2
      go_roundw
      case rel => exact ⟨k + 1, by omega, by go_num, HO, HX⟩
      case measure => simp [intOf]; omega
    · have HE : Hid (l.take k = l) := take_all' (RdL.len HR.out) (by omega)
      have hkn : k = n := by omega
      obtain ⟨A', c', rfl, hc', hr'⟩ := RdL.of_own encI_len hown (by rw [HE.out, timesL_len, RdL.len HR.out, hkn])
      rw [HE.out] at hr'
      have Hr := Lib.hid hr'
      clear hown hkn hr'
      go_wp2
      go_ret
      exact ⟨A', _, c', rfl, Hr.out, hext⟩
end Go.Proofs.Ytbcpjdjlgmhohaa
