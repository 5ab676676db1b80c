/-
  Words: a row that the call owns, sorted in its place. Conditions: none.
-/
import Derived.Test.YtggfepphjaohiaaPSort
import Derived.Shelf.SlSortCmp.InsertionK
import Derived.Sort.OwnSorted
namespace Go.Proofs.Ytggfepphjaohiaa
open Go.Shelf Go.RowKit Go.Lib Go.Sort
section
variable {α : Type} [Inhabited α] {enc : α → List Value} {k : Nat}
theorem flatK_list (hk : ∀ x, (enc x).length = k) (l : List α) : (flatK enc k l.toArray).toList = flat enc l := by
  apply List.ext_getElem?
  intro t
  have hfl : (flat enc l).length = l.length * k := flat_length hk l
  rcases Nat.lt_or_ge t (l.length * k) with h | h
  · have k0 : 0 < k := by rcases Nat.eq_zero_or_pos k with h0 | h0
                          · subst h0; simp at h
                          · exact h0
    have hq : t / k < l.length := by rw [Nat.div_lt_iff_lt_mul k0]; exact h
    have h2 := flat_get hk l (t / k) (t % k) (Nat.mod_lt _ k0) l[t / k] (List.getElem?_eq_getElem hq)
    rw [Nat.mul_comm, Nat.div_add_mod] at h2
    have h3 := get_flatK enc k l.toArray t (by simpa using h)
    rw [h2, Array.getElem?_toList, Array.getElem?_eq_getElem (by simpa using h)]
    rw [getElem!_pos (flatK enc k l.toArray) t (by simpa using h)] at h3
    rw [h3]
    have e1 : l.toArray[t / k]! = l[t / k] := by rw [getElem!_pos l.toArray (t / k) (by simpa using hq)]; rfl
    rw [e1]
    have hm : t % k < (enc l[t / k]).length := by rw [hk]; exact Nat.mod_lt _ k0
    rw [List.getElem?_eq_getElem hm, getElem!_pos (enc l[t / k]) (t % k) hm]
  · rw [List.getElem?_eq_none (by simpa using h), List.getElem?_eq_none (by omega)]
theorem holdsK_of_block {w : World} {g : Nat} {cur : Array Value} {e : TypeId} {l : List α} (hk : ∀ x, (enc x).length = k) (hb : w.heap[g]? = some (.cells cur e (0, 0))) (ht : cur.toList.take (l.length * k) = flat enc l) : HoldsK enc k w g 0 l.toArray := by
  intro j hj
  have hj' : j < l.length * k := by simpa using hj
  refine ⟨?_, by simp [World.frozen?, hb]⟩
  have h1 : (cur.toList.take (l.length * k))[j]? = (flatK enc k l.toArray).toList[j]? := by rw [ht, flatK_list hk]
  rw [List.getElem?_take_of_lt hj'] at h1
  simp only [World.cell?, hb, Nat.zero_add]
  simp only [Option.isSome_none, Bool.false_eq_true, if_false]
  rw [← Array.getElem?_toList, h1, Array.getElem?_toList, Array.getElem?_eq_getElem hj, getElem!_pos (flatK enc k l.toArray) j hj]
  rfl
theorem heap_sortedK {w : World} {g n : Nat} {os : Array Obj} {cur : Array Value} {e : TypeId} {fr : Nat × Nat} (d : Array α) (hb : w.heap[g]? = some (.cells cur e fr)) :
    (sortWorldK enc k w g 0 n d os).heap[g]? = some (.cells (putCells id 0 (flatK enc k d) cur) e fr) := by
  have hg : g < w.heap.size := (Array.getElem?_eq_some_iff.1 hb).1
  unfold sortWorldK putRowK
  rw [heap_grow_old _ _ (by simpa using hg)]
  simp [putRow, mapBlock, Sort.ahead, Array.getElem?_modify, hb, onCells]
theorem grownBy_sortedK {w : World} {g n : Nat} {os : Array Obj} (d : Array α) : w.grownBy (sortWorldK enc k w g 0 n d os) (some g) := by
  unfold sortWorldK putRowK
  refine ⟨rfl, rfl, rfl, by simp, fun j hj hne => ?_⟩
  rw [heap_grow_old _ _ (by simpa using hj)]
  have : g ≠ j := fun e => hne (by rw [e])
  simp [putRow, mapBlock, Sort.ahead, Array.getElem?_modify, this]
theorem take_putCellsK (cur : Array Value) (F : Array Value) (h : F.size ≤ cur.size) : (putCells id 0 F cur).toList.take F.size = F.toList := by
  apply List.ext_getElem?
  intro j
  by_cases hj : j < F.size
  · rw [List.getElem?_take_of_lt hj, Array.getElem?_toList]
    simp [putCells, hj, show j < cur.size by omega]
  · rw [List.getElem?_take_eq_none (by omega), List.getElem?_eq_none (by simp; omega)]
theorem ownsRow_sortedK {w : World} {base g cap n : Nat} {e : TypeId} {os : Array Obj} {cur : Array Value} {l r : List α} (hk : ∀ x, (enc x).length = k) (hl : r.length = l.length) (hbase : base ≤ g) (hb : w.heap[g]? = some (.cells cur e (0, 0)))
    (h1 : l.length ≤ cap) (h2 : cap ≤ maxLen) (h3 : cur.size = cap * k) :
    (sortWorldK enc k w g 0 n r.toArray os).ownsRow base e k (.slice (some ⟨g, 0, none⟩) l.length cap) l.length (flat enc r) := by
  refine ⟨by rw [flat_length hk, hl], .inr ⟨g, cap, _, rfl, hbase, heap_sortedK _ hb, h1, h2, by simp [putCells, h3], ?_⟩⟩
  have hs : (flatK enc k r.toArray).size = l.length * k := by rw [size_flatK, List.size_toArray, hl]
  rw [← hs, take_putCellsK _ _ (by rw [hs, h3]; exact Nat.mul_le_mul_right k h1), flatK_list hk]
end
end Go.Proofs.Ytggfepphjaohiaa
