/-
  Walks: jobs sorted in place; jobs in order. Conditions: none.
-/
import Derived.Test.YtbcpjdjlgmhohaaMSJ
import Derived.Test.YtbcpjdjlgmhohaaMSP
import Derived.Test.YtbcpjdjlgmhohaaWCloneJ
import Derived.Deep.RegionHeld3
import Derived.Deep.AppendLies
namespace Go.Proofs.Ytbcpjdjlgmhohaa
open Go.Shelf Go.RowKit Go.Lib Go.Sort
set_option linter.unusedVariables false
set_option linter.unusedSimpArgs false

set_option maxRecDepth 100000 in
theorem layJ : SJ.SLayJ Try.prog 4 where
  mixed := by kernel_rfl
  aE := fun _ => rfl
  zE := fun _ => rfl
  tyi := by kernel_rfl
  agi := fun _ => rfl
  szi := fun _ => rfl
  zvi := fun _ => rfl
  tyb := by kernel_rfl
  agb := fun _ => rfl
  szb := fun _ => rfl
  zvb := fun _ => rfl
  tyu := by kernel_rfl
  agu := fun _ => rfl
  szu := fun _ => rfl
  zvu := fun _ => rfl
  tys := by kernel_rfl
  ags := fun _ => rfl
  szs := fun _ => rfl
  zvs := fun _ => rfl
  tyf := by kernel_rfl
  agf := fun _ => rfl
  szf := fun _ => rfl
  zvf := fun _ => rfl
  tyn := by kernel_rfl
  agn := fun _ => rfl
  szn := fun _ => rfl
  zvn := fun _ => rfl
  f0 := Try.func74
  f1 := Try.func71
  f2 := Try.func69
  f3 := Try.func68
  f4 := Try.func57

theorem third_cell (w : World) (a b : Obj) (cs : Array Value) (T : TypeId) (j : Nat) (v : Value) (h : cs.toList[j]? = some v) : (((w.alloc a).alloc b).alloc (.cells cs T)).cell? ⟨w.heap.size + 1 + 1, j, none⟩ = some v := by
  have h0 : ((w.alloc a).alloc b).heap.size = w.heap.size + 1 + 1 := by simp
  have h1 := World.news_of_block (cs := cs) (t := T) (fr := (0, 0)) (heap_alloc_new ((w.alloc a).alloc b) _) j v h
  rw [Addr.add_lit, Nat.zero_add, h0] at h1
  exact h1
theorem grow3 (w : World) (a b c : Obj) (n : Nat) : (((w.alloc a).alloc b).alloc c).drewN n = grow (w.drewN n) #[a, b, c] := by
  rw [alloc_eq_grow, alloc_eq_grow, alloc_eq_grow, grow_grow, grow_grow]
  rfl
set_option maxHeartbeats 2000000 in
theorem orderCmp (a1 a2 a3 a4 b1 b2 b3 b4 : Int) (w : World) :
    Calls Try.prog 34 #[.agg #[.int .i64 a1, .int .i64 a2, .int .i64 a3, .int .i64 a4], .agg #[.int .i64 b1, .int .i64 b2, .int .i64 b3, .int .i64 b4]] w fun e w' => e = .returned (.int .i64 (cfJ (a1, a2, a3, a4) (b1, b2, b3, b4))) ∧ ∃ q os', w' = grow (w.drewN q) os' := by
  obtain ⟨V, HV⟩ : ∃ V, Hid ((if cmpI b2 a2 = 0 then cmpI a1 b1 else cmpI b2 a2) = V) := ⟨_, rfl⟩
  have HE : Hid (cfJ (a1, a2, a3, a4) (b1, b2, b3, b4) = V) := HV.out
  go_enter Try.func34, Try.ntmps34
  go_wp2_with fail
  go_region_held3 (fun w' => w'.cell? ⟨w.heap.size, 0, none⟩ = some (.int .i64 a1) ∧ w'.cell? ⟨w.heap.size, 1, none⟩ = some (.int .i64 a2) ∧ w'.cell? ⟨w.heap.size + 1, 0, none⟩ = some (.int .i64 b1) ∧ w'.cell? ⟨w.heap.size + 1, 1, none⟩ = some (.int .i64 b2)) (go_keep)
    (first
      | (go_at_call 36; refine (cmpCompare _ _ _).mono ?_; rintro e w' ⟨rfl, rfl⟩)
      | (go_at_call 35; refine (cmpOrV HV.out _ _ (by exact third_cell _ _ _ _ _ 0 _ rfl) (by exact third_cell _ _ _ _ _ 1 _ rfl)).mono ?_; rintro e w' ⟨rfl, rfl⟩))
  all_goals
    go_wp2
    go_ret
    exact ⟨by rw [HE.out]; rfl, 1, #[_, _, _], grow3 _ _ _ _ 1⟩
theorem orderLays (blk off size : Nat) (w : World) : CmpLays Try.prog 34 #[] encQ 4 cfJ blk off size w := fun _ _ _ _ x y => orderCmp x.1 x.2.1 x.2.2.1 x.2.2.2 y.1 y.2.1 y.2.2.1 y.2.2.2 _

theorem insNoneJ (v : Value) (g : Value) (w : World) : Calls Try.prog 68 #[v, .int .i64 0, .int .i64 0, g] w fun e w' => e = .returned (.tuple #[]) ∧ w' = w := by
  go_enter Try.func68, Try.ntmps68
  go_wp2
  refine wp_loop_rounds 1 ?_
  rw [rounds_succ]
  go_wp2
  go_end0
  exact ⟨rfl, rfl⟩
set_option maxHeartbeats 2000000 in
theorem stableNoneJ (v : Value) (g : Value) (w : World) : Calls Try.prog 57 #[v, .int .i64 0, g] w fun e w' => e = .returned (.tuple #[]) ∧ w' = w := by
  go_enter Try.func57, Try.ntmps57
  go_wp2
  refine wp_loop_rounds 1 ?_
  rw [rounds_succ]
  go_wp2_with fail
  refine (insNoneJ _ _ _).mono ?_
  rintro e w2 ⟨rfl, rfl⟩
  go_wp2
  refine wp_loop_rounds 1 ?_
  rw [rounds_succ]
  go_wp2
  go_end0
  exact ⟨rfl, rfl⟩

def GivesSortJ (base : Nat) (T : TypeId) (v : Value) (n : Nat) (l : List (Int × Int × Int × Int)) (w : World) (e : Ending) (w' : World) : Prop :=
  e = .returned (.tuple #[]) ∧ ∃ r, Stab cfJ l r ∧ Srt cfJ r ∧ w'.ownsRow base T 4 v n (flat encQ r) ∧ ∀ w0, Below base w0 w → Below base w0 w'

set_option maxHeartbeats 2000000 in
theorem sortJobs (base : Nat) (v : Value) (n : Nat) (l : List (Int × Int × Int × Int)) (w : World) (hown : w.ownsRow base 45 4 v n (flat encQ l)) (hl : l.length = n) (hn : n < 1000000000) :
    Calls Try.prog 33 #[v, .func (.func 34) #[] #[]] w (GivesSortJ base 45 v n l w) := by
  rcases hown.2 with ⟨rfl, rfl⟩ | ⟨g, cap, cur, rfl, hbase, hb, h1, h2, h3, h4⟩
  · obtain rfl : l = [] := List.length_eq_zero_iff.1 hl
    have HO := Lib.hid hown; clear hown
    go_enter Try.func33, Try.ntmps33
    go_wp2_with fail
    refine (stableNoneJ _ _ _).mono ?_
    rintro e w2 ⟨rfl, rfl⟩
    go_wp2
    go_end0
    exact ⟨rfl, [], .refl _, List.Pairwise.nil, HO.out, fun _ h => h⟩
  · have hH : HoldsK encQ 4 w g 0 l.toArray := holdsK_of_block encQ_len hb (by rw [hl]; exact h4)
    have hg : g < w.heap.size := (Array.getElem?_eq_some_iff.1 hb).1
    have hc := SJ.stableJ layJ encQ encQ_len (fun x v hv => by simp only [encQ, List.mem_cons, List.not_mem_nil, or_false] at hv; rcases hv with rfl | rfl | rfl | rfl <;> rfl) cfJ 34 #[] g 0 cap l.toArray w
      (enters_of Try.func34 (by kernel_rfl) rfl) (orderLays _ _ _ _) hH hg (by simp; omega) order_j (by simp; omega) l 0 #[] (by simp)
    rw [show SJ.SWl encQ 4 w g 0 0 l #[] = w by show sortWorldK _ _ _ _ _ _ _ _ = _; unfold sortWorldK; rw [grow_empty]; exact putRowK_self encQ 4 w g 0 l.toArray hH] at hc
    have hz : l.toArray.size = n := by simpa using hl
    rw [hz] at hc
    have HF : Hid (∀ w', (∃ (m : Nat) (r : List (Int × Int × Int × Int)) (os : Array Obj), w' = SJ.SWl encQ 4 w g 0 m r os ∧ Stab cfJ l r ∧ Srt cfJ r) → GivesSortJ base 45 (.slice (some ⟨g, 0, none⟩) n cap) n l w (.returned (.tuple #[])) w') := by
      rintro w' ⟨m, r, os, rfl, st, sr⟩
      refine ⟨rfl, r, st, sr, ?_, fun w0 hB => hB.grown (grownBy_sortedK r.toArray) (by omega) (fun k hk => by cases hk; exact hbase)⟩
      have := ownsRow_sortedK (enc := encQ) (k := 4) (w := w) (base := base) (g := g) (cap := cap) (n := m) (os := os) (l := l) (r := r) encQ_len st.len hbase hb (by omega) h2 h3
      rwa [hl] at this
    have HC : Aside _ := hc
    clear hc hown hbase hb h1 h2 h3 h4 hH hg hz hl
    go_enter Try.func33, Try.ntmps33
    go_wp2_with fail
    refine Calls.mono HC.out ?_
    rintro e w2 ⟨rfl, m, r, os, hw, hr⟩
    have HF2 := Lib.hid (HF.out w2 ⟨m, r, os, hw, hr⟩)
    clear hw hr
    go_wp2
    go_end0
    exact HF2.out

def GivesOrd (l : List Jb) (w : World) (e : Ending) (w' : World) : Prop := ∃ v', e = .returned v' ∧ w'.ownsRow w.heap.size 45 4 v' l.length (flat encQ (orderJ l)) ∧ Ext w w'
set_option maxHeartbeats 1000000 in
theorem fillOrder (A : Option Addr) (n c : Nat) (l : List Jb) (w : World) (hr : RdQ w A n l) (hn : n ≤ 1000000) :
    Calls Try.prog 18 #[.slice A n c] w (GivesOrd l w) := by
  have HR := Lib.hid hr; clear hr
  go_enter Try.func18, Try.ntmps18
  go_wp2_with fail
  refine (cloneJ A n c l _ HR.out hn).mono ?_
  rintro e w1 ⟨v1, rfl, hown1, hx1⟩
  have HO1 := Lib.hid hown1
  have HX1 := Lib.hid hx1
  clear hown1 hx1
  go_wp2_with fail
  refine (sortJobs w.heap.size v1 n l w1 HO1.out (RdL.len HR.out) (by omega)).mono ?_
  rintro e w2 ⟨rfl, r, hst, hsr, hown2, hb2⟩
  have HE : Hid (r = orderJ l) := isort_stab order_j hst hsr
  rw [HE.out] at hown2
  have HO2 : Hid (w2.ownsRow w.heap.size 45 4 v1 l.length (flat encQ (orderJ l))) := by rw [RdL.len HR.out]; exact hown2
  have HX2 : Hid (Ext w w2) := hb2 w HX1.out
  clear hst hsr hown2 hb2 HO1 HX1
  go_wp2
  go_ret
  exact ⟨_, rfl, HO2.out, HX2.out⟩
end Go.Proofs.Ytbcpjdjlgmhohaa
