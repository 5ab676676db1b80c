/-
  Walks: steps sorted by their times in place; a copy of steps. Conditions: none.
-/
import Derived.Test.YtbcpjdjlgmhohaaMSP
import Derived.Test.YtbcpjdjlgmhohaaMBase
namespace Go.Proofs.Ytbcpjdjlgmhohaa
open Go.Shelf Go.RowKit Go.Lib Go.Sort

set_option maxRecDepth 100000 in
theorem layP : SLayP Try.prog 2 where
  mixed := by kernel_rfl
  aE := fun _ => rfl
  zE := fun _ => rfl
  tyi := by kernel_rfl
  agi := fun _ => rfl
  szi := fun _ => rfl
  zvi := fun _ => rfl
  tyb := by kernel_rfl
  agb := fun _ => rfl
  szb := fun _ => rfl
  zvb := fun _ => rfl
  tyu := by kernel_rfl
  agu := fun _ => rfl
  szu := fun _ => rfl
  zvu := fun _ => rfl
  tys := by kernel_rfl
  ags := fun _ => rfl
  szs := fun _ => rfl
  zvs := fun _ => rfl
  tyf := by kernel_rfl
  agf := fun _ => rfl
  szf := fun _ => rfl
  zvf := fun _ => rfl
  tyn := by kernel_rfl
  agn := fun _ => rfl
  szn := fun _ => rfl
  zvn := fun _ => rfl
  f0 := Try.func76
  f1 := Try.func75
  f2 := Try.func73
  f3 := Try.func72
  f4 := Try.func70

def cfAt (x y : Int × Int) : Int := if x.1 < y.1 then -1 else if y.1 < x.1 then 1 else 0
theorem cfAt_neg (x y : Int × Int) : cfAt x y < 0 ↔ x.1 < y.1 := by
  unfold cfAt
  split
  · omega
  · split <;> omega
theorem order_at : Order cfAt := ⟨fun x y h => by rw [cfAt_neg] at h ⊢; omega, fun x y z h k => by rw [cfAt_neg] at h k ⊢; omega⟩
theorem tidyCmp (a u a' u' : Int) (w : World) :
    Calls Try.prog 67 #[.agg #[.int .i64 a, .int .i64 u], .agg #[.int .i64 a', .int .i64 u']] w fun e w' => e = .returned (.int .i64 (cfAt (a, u) (a', u'))) ∧ ∃ q os', w' = grow (w.drewN q) os' := by
  by_cases h : a < a'
  · have e : cfAt (a, u) (a', u') = -1 := by unfold cfAt; rw [if_pos h]
    rw [e]
    clear e
    go_enter Try.func67, Try.ntmps67
    go_wp2
    go_ret
    exact ⟨rfl, 0, #[_, _], by rw [alloc_eq_grow, alloc_eq_grow, grow_grow]; rfl⟩
  · by_cases h' : a' < a
    · have e : cfAt (a, u) (a', u') = 1 := by unfold cfAt; rw [if_neg h, if_pos h']
      rw [e]
      clear e
      go_enter Try.func67, Try.ntmps67
      go_wp2
      go_ret
      exact ⟨rfl, 0, #[_, _], by rw [alloc_eq_grow, alloc_eq_grow, grow_grow]; rfl⟩
    · have e : cfAt (a, u) (a', u') = 0 := by unfold cfAt; rw [if_neg h, if_neg h']
      rw [e]
      clear e
      go_enter Try.func67, Try.ntmps67
      go_wp2
      go_ret
      exact ⟨rfl, 0, #[_, _], by rw [alloc_eq_grow, alloc_eq_grow, grow_grow]; rfl⟩
theorem tidyLays (blk off size : Nat) (w : World) : CmpLays Try.prog 67 #[] encP 2 cfAt blk off size w := fun _ _ _ _ x y => tidyCmp x.1 x.2 y.1 y.2 _

set_option maxHeartbeats 2000000 in
theorem insNone (v : Value) (g : Value) (w : World) : Calls Try.prog 72 #[v, .int .i64 0, .int .i64 0, g] w fun e w' => e = .returned (.tuple #[]) ∧ w' = w := by
  go_enter Try.func72, Try.ntmps72
  go_wp2
  refine wp_loop_rounds 1 ?_
  rw [rounds_succ]
  go_wp2
  go_end0
  exact ⟨rfl, rfl⟩
set_option maxHeartbeats 2000000 in
theorem stableNone (v : Value) (g : Value) (w : World) : Calls Try.prog 70 #[v, .int .i64 0, g] w fun e w' => e = .returned (.tuple #[]) ∧ w' = w := by
  go_enter Try.func70, Try.ntmps70
  go_wp2
  refine wp_loop_rounds 1 ?_
  rw [rounds_succ]
  go_wp2_with fail
  refine (insNone _ _ _).mono ?_
  rintro e w2 ⟨rfl, rfl⟩
  go_wp2
  refine wp_loop_rounds 1 ?_
  rw [rounds_succ]
  go_wp2
  go_end0
  exact ⟨rfl, rfl⟩

def GivesSort (base : Nat) (T : TypeId) (v : Value) (n : Nat) (l : List (Int × Int)) (w : World) (e : Ending) (w' : World) : Prop :=
  e = .returned (.tuple #[]) ∧ ∃ r, Stab cfAt l r ∧ Srt cfAt r ∧ w'.ownsRow base T 2 v n (flat encP r) ∧ ∀ w0, Below base w0 w → Below base w0 w'

set_option maxHeartbeats 2000000 in
theorem sortSteps (base : Nat) (v : Value) (n : Nat) (l : List (Int × Int)) (w : World) (hown : w.ownsRow base 48 2 v n (flat encP l)) (hl : l.length = n) (hn : n < 1000000000) :
    Calls Try.prog 66 #[v, .func (.func 67) #[] #[]] w (GivesSort base 48 v n l w) := by
  rcases hown.2 with ⟨rfl, rfl⟩ | ⟨g, cap, cur, rfl, hbase, hb, h1, h2, h3, h4⟩
  · obtain rfl : l = [] := List.length_eq_zero_iff.1 hl
    have HO := Lib.hid hown; clear hown
    go_enter Try.func66, Try.ntmps66
    go_wp2_with fail
    refine (stableNone _ _ _).mono ?_
    rintro e w2 ⟨rfl, rfl⟩
    go_wp2
    go_end0
    exact ⟨rfl, [], .refl _, List.Pairwise.nil, HO.out, fun _ h => h⟩
  · have hH : HoldsK encP 2 w g 0 l.toArray := holdsK_of_block encP_len hb (by rw [hl]; exact h4)
    have hg : g < w.heap.size := (Array.getElem?_eq_some_iff.1 hb).1
    have hc := stableP layP encP encP_len (fun x v hv => by simp only [encP, List.mem_cons, List.not_mem_nil, or_false] at hv; rcases hv with rfl | rfl <;> rfl) cfAt 67 #[] g 0 cap l.toArray w
      (enters_of Try.func67 (by kernel_rfl) rfl) (tidyLays _ _ _ _) hH hg (by simp; omega) order_at (by simp; omega) l 0 #[] (by simp)
    rw [show SWl encP 2 w g 0 0 l #[] = w by show sortWorldK _ _ _ _ _ _ _ _ = _; unfold sortWorldK; rw [grow_empty]; exact putRowK_self encP 2 w g 0 l.toArray hH] at hc
    have hz : l.toArray.size = n := by simpa using hl
    rw [hz] at hc
    have HF : Hid (∀ w', (∃ (m : Nat) (r : List (Int × Int)) (os : Array Obj), w' = SWl encP 2 w g 0 m r os ∧ Stab cfAt l r ∧ Srt cfAt r) → GivesSort base 48 (.slice (some ⟨g, 0, none⟩) n cap) n l w (.returned (.tuple #[])) w') := by
      rintro w' ⟨m, r, os, rfl, st, sr⟩
      refine ⟨rfl, r, st, sr, ?_, fun w0 hB => hB.grown (grownBy_sortedK r.toArray) (by omega) (fun k hk => by cases hk; exact hbase)⟩
      have := ownsRow_sortedK (enc := encP) (k := 2) (w := w) (base := base) (g := g) (cap := cap) (n := m) (os := os) (l := l) (r := r) encP_len st.len hbase hb (by omega) h2 h3
      rwa [hl] at this
    have HC : Aside _ := hc
    clear hc hown hbase hb h1 h2 h3 h4 hH hg hz hl
    go_enter Try.func66, Try.ntmps66
    go_wp2_with fail
    refine Calls.mono HC.out ?_
    rintro e w2 ⟨rfl, m, r, os, hw, hr⟩
    have HF2 := Lib.hid (HF.out w2 ⟨m, r, os, hw, hr⟩)
    clear hw hr
    go_wp2
    go_end0
    exact HF2.out
end Go.Proofs.Ytbcpjdjlgmhohaa
