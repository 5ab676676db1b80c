/-
  What waits for what, as the program lays it: plain; and the words for its memory. Conditions: none.
-/
import Derived.Test.YtmejjeeobhapfaaDSort
import Derived.Test.YtmejjeeobhapfaaDTidy
namespace Go.Proofs.Ytmejjeeobhapfaa
open Go.RowKit
set_option linter.unusedVariables false

def pushB (k : Nat) (hs : List (List Int)) (u : Int) : List (List Int) := hs.set u.toNat (hs.getD u.toNat [] ++ [(k : Int)])
def behK (bs : List (List Int)) (n : Nat) : Nat → List (List Int)
  | 0 => List.replicate n []
  | k + 1 => (bs.getD k []).foldl (pushB k) (behK bs n k)
def befG (ls : List (List Int)) : List (List Int) := ls.map tidyI
def behG (ls : List (List Int)) : List (List Int) := behK (befG ls) ls.length ls.length
def inRg (n : Nat) (ls : List (List Int)) : Bool := ls.all fun l => l.all fun x => decide (0 ≤ x) && decide (x < n)
theorem pushes_len (k : Nat) : ∀ (l : List Int) (hs : List (List Int)), (l.foldl (pushB k) hs).length = hs.length
  | [], _ => rfl
  | x :: l, hs => by rw [List.foldl_cons, pushes_len k l, pushB, List.length_set]
theorem behK_len (bs : List (List Int)) (n : Nat) : ∀ k, (behK bs n k).length = n
  | 0 => by simp [behK]
  | k + 1 => by rw [behK, pushes_len, behK_len bs n k]
theorem mem_compactUpTo (d : Array Int) : ∀ (m : Nat), m ≤ d.size → ∀ x ∈ Lib.compactUpTo d m, x ∈ d.toList
  | 0, _, x, hx => by simp [Lib.compactUpTo] at hx
  | m + 1, hm, x, hx => by
    rw [Lib.compactUpTo_succ, List.mem_append] at hx
    rcases hx with hx | hx
    · exact mem_compactUpTo d m (by omega) x hx
    · split at hx
      · simp at hx; subst hx
        rw [getElem!_pos d m (by omega)]
        simp
      · simp at hx
theorem mem_compactUpTo_sub (l : List Int) : ∀ x ∈ Lib.compact l, x ∈ l := fun x hx => by
  have := mem_compactUpTo l.toArray l.length (by simp) x (by simpa [Lib.compact] using hx)
  simpa using this
theorem tidyI_mem_sub {l : List Int} {x : Int} (h : x ∈ tidyI l) : x ∈ l := by
  have := mem_compactUpTo_sub _ x h
  exact (List.mergeSort_perm l _).mem_iff.1 this
theorem tidyI_len (l : List Int) : (tidyI l).length ≤ l.length := by
  have := compact_len (sortI l)
  rw [sortI_len] at this; exact this

theorem own_obj {w : World} {base n size : Nat} {e : TypeId} {v : Value} {xs : List Value} (h : w.ownsRow base e size v n xs) {g : Nat} (hg : v.ownBlock = some g) : base ≤ g ∧ g < w.heap.size ∧ ∃ cur, w.heap[g]? = some (.cells cur e) := by
  rcases h.2 with ⟨rfl, _⟩ | ⟨g', cap, cur, rfl, hb, hg', _⟩
  · cases hg
  · cases hg; exact ⟨hb, (Array.getElem?_eq_some_iff.1 hg').1, cur, hg'⟩
theorem own_not {w : World} {base n size g : Nat} {e t : TypeId} {v : Value} {xs : List Value} {o : Array Value} (h : w.ownsRow base e size v n xs) (hobj : w.heap[g]? = some (.cells o t)) (ht : t ≠ e) : v.ownBlock ≠ some g := fun hg => by
  obtain ⟨_, _, cur, hc⟩ := own_obj h hg
  rw [hobj] at hc
  injection hc with hc
  injection hc with _ h2 _
  exact ht h2
theorem own_apart2 {w : World} {b b' s s' n n' : Nat} {e e' : TypeId} {v v' : Value} {xs xs' : List Value} (h : w.ownsRow b e s v n xs) (k : w.ownsRow b' e' s' v' n' xs') (ne : e ≠ e') : Apart v v' := fun g hg hg' => by
  obtain ⟨_, _, cur, hc⟩ := own_obj h hg
  exact own_not k hc ne hg'

/-- The memory of the graph that is laid. -/
structure NewSt (w wr : World) (gb : Nat) (vB vH : Value) (Br Hr : List Row) : Prop where
  sep : Sep wr w.heap.size (Br ++ Hr)
  ob : wr.ownsRow w.heap.size 23 1 vB Br.length (Br.map (·.1))
  oh : wr.ownsRow w.heap.size 23 1 vH Hr.length (Hr.map (·.1))
  ap : Apart vB vH
  og : wr.heap[gb]? = some (.cells #[vB, vH, .slice none 0 0] 49)
  ex : Ext w wr
  hgb : w.heap.size ≤ gb
section
variable {w wr w1 w2 : World} {gb : Nat} {vB vH : Value} {Br Hr : List Row}
theorem NewSt.ext (h : NewSt w wr gb vB vH Br Hr) (hx : Ext wr w1) : NewSt w w1 gb vB vH Br Hr :=
  ⟨h.sep.ext hx, (Mod.of_ext (S := []) hx).own h.ob (by simp), (Mod.of_ext (S := []) hx).own h.oh (by simp), h.ap, (Mod.of_ext (S := []) hx).obj h.og (by simp), h.ex.trans' hx, h.hgb⟩
/-- a row more, ahead -/
theorem NewSt.addB (h : NewSt w wr gb vB vH Br Hr) {v : Value} {l : List Int} {k gg cap : Nat} (hk : Br.length = k) (ho : OI w1 wr.heap.size v l) (hx : Ext wr w1) (hm : Mod vB.ownBlock.toList w1 w2)
    (hown : w2.ownsRow w.heap.size 23 1 (.slice (some ⟨gg, 0, none⟩) (k + 1) cap) (k + 1) (Br.map (·.1) ++ [v])) (hat : vB.ownBlock = some gg ∨ w1.heap.size ≤ gg) :
    NewSt w (w2.setCell ⟨gb, 0, none⟩ (.slice (some ⟨gg, 0, none⟩) (k + 1) cap)) gb (.slice (some ⟨gg, 0, none⟩) (k + 1) cap) vH (Br ++ [(v, l)]) Hr := by
  subst hk
  have h1 := h.ext hx
  have hnew := Sep.new (w0 := wr) h1.sep h.sep ho h.ex.size
  have s1 : Sep w1 w.heap.size ((Br ++ [(v, l)]) ++ Hr) := h1.sep.mid hnew.2 hnew.1
  have hB : ∀ s ∈ vB.ownBlock.toList, vB.ownBlock = some s := fun s hs => by simpa using hs
  have s2 : Sep w2 w.heap.size ((Br ++ [(v, l)]) ++ Hr) := s1.keep hm (fun s hs r hr => by
    have := own_apart2 (s1.1 r hr) h1.ob (by decide)
    intro e
    exact this s e (hB s hs))
  have oh2 := hm.own h1.oh (fun s hs hs2 => h1.ap s (hB s hs2) hs)
  have og2 := hm.obj h1.og (fun hs => own_not h1.ob h1.og (by decide) (hB gb hs))
  have hx2 : Ext w w2 := ((Mod.of_ext (S := vB.ownBlock.toList) h1.ex).trans hm (fun t ht => .inl ht)).ext (fun s hs => (own_obj h1.ob (hB s hs)).1)
  have hm3 : Mod [gb] w2 (w2.setCell ⟨gb, 0, none⟩ (.slice (some ⟨gg, 0, none⟩) (Br.length + 1) cap)) := (Mod.refl _ w2).setCell (.inl (by simp)) _
  refine ⟨s2.keep hm3 (fun s hs r hr => ?_), ?_, hm3.own oh2 (fun s hs hs2 => ?_), ?_, ?_, ?_, h.hgb⟩
  · simp at hs; subst hs; exact own_not (s2.1 r hr) og2 (by decide)
  · rw [List.length_append, List.map_append]
    exact hm3.own hown (fun s hs hs2 => by simp at hs2; subst hs2; exact own_not hown og2 (by decide) hs)
  · simp at hs2; subst hs2; exact own_not oh2 og2 (by decide) hs
  · intro g hg hg2
    cases hg
    rcases hat with h2 | h2
    · exact h1.ap _ h2 hg2
    · have := (own_obj h1.oh hg2).2.1; simp only at this; omega
  · rw [heap_setCell_same w2 gb 0 _ _ _ og2]; simp
  · exact hx2.setCell h.hgb _
/-- one number more in a row behind -/
theorem NewSt.addH {h0 n u gg cap c0 q : Nat} {x : Int} {v : Value} {l : List Int} (h : NewSt w wr gb vB (.slice (some ⟨h0, 0, none⟩) n c0) Br Hr) (hn : Hr.length = n) (hu : Hr[u]? = some (v, l)) (hq : l.length = q) (hm : Mod v.ownBlock.toList wr w1)
    (ho : OI w1 w.heap.size (.slice (some ⟨gg, 0, none⟩) (q + 1) cap) (l ++ [x])) (hat : v.ownBlock = some gg ∨ wr.heap.size ≤ gg) :
    NewSt w (w1.setCell ⟨h0, u, none⟩ (.slice (some ⟨gg, 0, none⟩) (q + 1) cap)) gb vB (.slice (some ⟨h0, 0, none⟩) n c0) Br (Hr.set u (.slice (some ⟨gg, 0, none⟩) (q + 1) cap, l ++ [x])) := by
  subst hn
  have hi : (Br ++ Hr)[Br.length + u]? = some (v, l) := by rw [List.getElem?_append_right (by omega)]; simpa using hu
  have hB : ∀ s ∈ v.ownBlock.toList, v.ownBlock = some s := fun s hs => by simpa using hs
  have hv := h.sep.at_ hi
  have s1 := h.sep.upd hi hm (fun s hs => .inl (hB s hs)) ho (fun g hg => by cases hg; exact hat)
  rw [List.set_append_right _ _ (by omega), Nat.add_sub_cancel_left] at s1
  have ob1 := hm.own h.ob (fun s hs hs2 => own_apart2 hv h.ob (by decide) s (hB s hs2) hs)
  have oh1 := hm.own h.oh (fun s hs hs2 => own_apart2 hv h.oh (by decide) s (hB s hs2) hs)
  have og1 := hm.obj h.og (fun hs => own_not hv h.og (by decide) (hB gb hs))
  have hx1 : Ext w w1 := ((Mod.of_ext (S := v.ownBlock.toList) h.ex).trans hm (fun t ht => .inl ht)).ext (fun s hs => (hv.obj (hB s hs)).1)
  have hst := World.ownsRow.stored oh1 u (.slice (some ⟨gg, 0, none⟩) (q + 1) cap)
  have hh0 := own_obj oh1 (g := h0) rfl
  have hm3 : Mod [h0] w1 (w1.setCell ⟨h0, u, none⟩ (.slice (some ⟨gg, 0, none⟩) (q + 1) cap)) := (Mod.refl _ w1).setCell (.inl (by simp)) _
  refine ⟨s1.keep hm3 (fun s hs r hr => ?_), hm3.own ob1 (fun s hs hs2 => ?_), ?_, h.ap, hm3.obj og1 (fun hs => ?_), hx1.setCell hh0.1 _, h.hgb⟩
  · simp at hs; subst hs
    exact fun e => own_apart2 (s1.1 r hr) oh1 (by decide) _ e rfl
  · simp at hs2; subst hs2; exact h.ap _ hs rfl
  · rw [List.length_set, List.map_set]; exact hst.1
  · simp at hs; subst hs; exact own_not oh1 og1 (by decide) rfl
end
end Go.Proofs.Ytmejjeeobhapfaa
