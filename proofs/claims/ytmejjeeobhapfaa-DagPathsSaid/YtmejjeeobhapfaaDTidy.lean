/-
  Walk: a row tidied: rising, each once. Conditions: none.
-/
import Derived.Test.YtmejjeeobhapfaaDMem
import Derived.Test.YtmejjeeobhapfaaDShelf
import Derived.Lib.OwnBridge
import Derived.Sort.OwnSorted
import Derived.Sort.Grow
import Derived.Shelf.AbstractIn
namespace Go.Proofs.Ytmejjeeobhapfaa
open Go.RowKit
set_option linter.unusedVariables false
set_option linter.unusedSimpArgs false
open Go.Sort Go.Shelf
def sortI (l : List Int) : List Int := l.mergeSort fun x y => decide (x ≤ y)
def tidyI (l : List Int) : List Int := Lib.compact (sortI l)
theorem sortI_len (l : List Int) : (sortI l).length = l.length := List.length_mergeSort l
/-- it hands back a new slice that reads as l -/
def GivesI (l : List Int) (w : World) (e : Ending) (w' : World) : Prop := ∃ v, e = .returned v ∧ OI w' w.heap.size v l ∧ Ext w w'
/-- slices.Clone of whatever slice that reads as l -/
theorem cloneI (A : Option Addr) (n c : Nat) (l : List Int) (w : World) (hr : RdI w A n l) (hn : n ≤ 1000000) :
    Calls Try.prog 35 #[.slice A n c] w (GivesI l w) := by
  have hl := RdL.len hr
  cases A with
  | none =>
    have h0 : n = 0 := by
      rcases hr.2.2.2 with h | ⟨b, off, h, _⟩
      · exact h
      · cases h
    subst h0
    obtain rfl : l = [] := List.length_eq_zero_iff.1 hl
    exact (Try.slices_Clone_int_nil 0 c w).mono fun e w' ⟨h1, h2⟩ => ⟨_, h1, by rw [h2]; exact World.ownsRow_nil _ _ _ _, by rw [h2]; exact Ext.rfl'⟩
  | some a =>
    rcases Nat.eq_zero_or_pos n with h0 | h0
    · subst h0
      obtain rfl : l = [] := List.length_eq_zero_iff.1 hl
      exact (Try.slices_Clone_int_zero a c w).mono fun e w' ⟨v, h1, h2, _, h3⟩ => ⟨v, h1, h2, h3⟩
    · rcases hr.2.2.2 with h | ⟨b, off, hA, _, hc⟩
      · omega
      injection hA with hA
      subst hA
      refine (Try.slices_Clone_int b off n c l w (by omega) (by omega) (fun j hj => ?_)).mono fun e w' ⟨v, h1, h2, _, h3⟩ => ⟨v, h1, ?_, h3⟩
      · refine hc j _ ?_
        rw [flat_encI, List.getElem?_map, List.getElem?_eq_getElem hj]
        simp [List.getD, hj]
      · rw [List.take_of_length_le (by omega), ← flat_encI, ← hl] at h2
        exact h2
theorem own_put {w : World} {base g n cap q k : Nat} {l ys : List Int} (h : OI w base (.slice (some ⟨g, 0, none⟩) n cap) l) (hl : l.length = n) (hy : ys.length = n) (hk : k ≤ n) :
    OI (putRow (Value.int .i64) (Sort.ahead w q) g 0 ys.toArray) base (.slice (some ⟨g, 0, none⟩) k cap) (ys.take k) := by
  have h1 : w.ownsRow base 3 1 (.slice (some ⟨g, 0, none⟩) n cap) n (l.map (Value.int .i64)) := by subst hl; rw [← flat_encI]; exact h
  have h2 := Lib.ownsRow_putRow (q := q) h1 hy hk
  have h3 : (ys.take k).length = k := by simp; omega
  show World.ownsRow _ _ _ _ _ (ys.take k).length (flat encI (ys.take k))
  rw [h3, flat_encI]; exact h2
theorem compact_len (l : List Int) : (Lib.compact l).length ≤ l.length := Lib.compact_length_le l
theorem own_grow {w : World} {base : Nat} {v : Value} {l : List Int} {os : Array Obj} (h : OI w base v l) : OI (grow w os) base v l := by
  refine ⟨h.1, ?_⟩
  rcases h.2 with h1 | ⟨g, cap, cur, h1, h2, h3, h4⟩
  · exact .inl h1
  · refine .inr ⟨g, cap, cur, h1, h2, ?_, h4⟩
    show (w.heap ++ os)[g]? = _
    rw [Array.getElem?_append_left (Array.getElem?_eq_some_iff.1 h3).1]; exact h3
theorem ext_grow {w w' : World} {os : Array Obj} (h : Ext w w') : Ext w (grow w' os) :=
  ⟨h.os, h.tape, h.output, by have := h.size; simp [grow]; omega, fun k hk => by
    show (w'.heap ++ os)[k]? = _
    rw [Array.getElem?_append_left (by have := h.size; omega)]; exact h.block k hk⟩
set_option maxHeartbeats 1000000 in
theorem tidyW (A : Option Addr) (n c : Nat) (l : List Int) (w : World) (hr : RdI w A n l) (hn : n ≤ 1000000) :
    Calls Try.prog 30 #[.slice A n c] w (GivesI (tidyI l) w) := by
  have hcl := cloneI A n c l w hr hn
  have hl := RdL.len hr
  have Hl := Lib.hid hl
  clear hr hl
  go_enter Try.func30, Try.ntmps30
  go_wp2_with fail
  refine hcl.mono ?_
  rintro e w1 ⟨v, rfl, ho, hx⟩
  rcases ho.2 with ⟨hv, h0⟩ | ⟨g, cap, cur, hv, hb, hg, hnc, hm, hs, ht⟩
  · obtain rfl : l = [] := List.length_eq_zero_iff.1 h0
    subst hv
    go_wp2_with fail
    refine (Try.slices_Sort_int_none none 0 w1).mono ?_
    rintro e w2 ⟨rfl, rfl⟩
    go_wp2_with fail
    refine (Try.slices_Compact_int_empty none 0 w2).mono ?_
    rintro e w3 ⟨rfl, rfl⟩
    go_wp2
    (try rw [Exit.noGoto_ret])
    go_ret
    refine ⟨_, rfl, ?_, hx⟩
    have e : tidyI [] = [] := by simp [tidyI, sortI, Lib.compact, Lib.compactUpTo]
    rw [e]
    exact World.ownsRow_nil _ _ _ _
  · subst hv
    have hgl : g < w1.heap.size := (Array.getElem?_eq_some_iff.1 hg).1
    have hlc : l.length ≤ cap := hnc
    have h1 : w1.ownsRow w.heap.size 3 1 (.slice (some ⟨g, 0, none⟩) l.length cap) l.length (l.map (Value.int .i64)) := by rw [← flat_encI]; exact ho
    obtain ⟨g', cap', hv', _, _, _, _, _, hH⟩ := Lib.holds_of_ownsRow h1 (by simp)
    injection hv' with hv' _ hv2
    injection hv' with hv'
    injection hv' with hv'
    subst hv'
    subst hv2
    have hsort := Try.slices_Sort_int g 0 cap l w1 hH hgl (by have := Hl.out; omega)
    have HO := Lib.hid ho
    have HX := Lib.hid hx
    clear ho h1 hH hx ht hs hg
    obtain ⟨n2, Hn2⟩ : ∃ n2, Hid (l.length = n2) := ⟨_, rfl⟩
    rw [Hn2.out] at hsort hlc hnc ⊢
    go_wp2_with fail
    refine hsort.mono ?_
    rintro e w2 ⟨rfl, q, os, rfl⟩
    have HS : Hid ((sortI l).length = n2) := by show _ = _; rw [sortI_len, Hn2.out]
    have h2 : OI (putRow (Value.int .i64) (Sort.ahead w1 q) g 0 (sortI l).toArray) w.heap.size (.slice (some ⟨g, 0, none⟩) n2 cap) (sortI l) := by
      have := own_put (q := q) (ys := sortI l) (k := n2) (Hn2.out ▸ HO.out) Hn2.out HS.out (Nat.le_refl _)
      rwa [List.take_of_length_le (by rw [HS.out]; exact Nat.le_refl _)] at this
    have hx2 : Ext w (putRow (Value.int .i64) (Sort.ahead w1 q) g 0 (sortI l).toArray) := Lib.below_putRow HX.out hb
    replace h2 := own_grow (os := os) h2
    replace hx2 := ext_grow (os := os) hx2
    obtain ⟨w2, HW2⟩ : ∃ w2, Hid (grow (putRow (Value.int .i64) (Sort.ahead w1 q) g 0 (sortI l).toArray) os = w2) := ⟨_, rfl⟩
    rw [show (l.mergeSort fun x y => decide (x ≤ y)) = sortI l from rfl]
    rw [HW2.out] at h2 hx2 ⊢
    obtain ⟨S, HSS⟩ : ∃ S, Hid (S = sortI l) := ⟨_, rfl⟩
    rw [← HSS.out] at h2 HS
    obtain ⟨g', cap', hv', _, _, _, _, _, hH⟩ := Lib.holds_of_ownsRow (show w2.ownsRow w.heap.size 3 1 (.slice (some ⟨g, 0, none⟩) n2 cap) n2 (S.map (Value.int .i64)) by rw [← flat_encI]; exact h2.n_ HS.out) (by simp)
    injection hv' with hv' _ hv2
    injection hv' with hv'
    injection hv' with hv'
    subst hv'
    subst hv2
    have hcomp := Try.slices_Compact_int g 0 cap S w2 hH (by have := HS.out; have := Hl.out; have := Hn2.out; omega) (by have := HS.out; omega)
    rw [HS.out] at hcomp
    have HO2 := Lib.hid h2
    have HX2 := Lib.hid hx2
    clear h2 hx2 hH hsort HO HX HW2
    go_wp2_with fail
    refine hcomp.mono ?_
    rintro e w3 ⟨rfl, q2, rfl⟩
    have hle := compact_len S
    have h3 := own_put (q := q2) (ys := Lib.compact S ++ List.replicate (n2 - (Lib.compact S).length) (0 : Int)) (k := (Lib.compact S).length) HO2.out HS.out (by have := HS.out; simp; omega) (by have := HS.out; omega)
    rw [List.take_left] at h3
    have hx3 : Ext w (putRow (Value.int .i64) (Sort.ahead w2 q2) g 0 (Lib.compact S ++ List.replicate (n2 - (Lib.compact S).length) (0 : Int)).toArray) := Lib.below_putRow HX2.out hb
    obtain ⟨w3, HW3⟩ : ∃ w3, Hid (putRow (Value.int .i64) (Sort.ahead w2 q2) g 0 (Lib.compact S ++ List.replicate (n2 - (Lib.compact S).length) (0 : Int)).toArray = w3) := ⟨_, rfl⟩
    rw [HW3.out] at h3 hx3 ⊢
    have HO3 := Lib.hid h3
    have HX3 := Lib.hid hx3
    have HT : Hid (tidyI l = Lib.compact S) := by show _ = _; rw [tidyI, HSS.out]
    clear h3 hx3 hle
    go_wp2
    (try rw [Exit.noGoto_ret])
    go_ret
    exact ⟨_, rfl, by rw [HT.out]; exact HO3.out, HX3.out⟩
end Go.Proofs.Ytmejjeeobhapfaa
