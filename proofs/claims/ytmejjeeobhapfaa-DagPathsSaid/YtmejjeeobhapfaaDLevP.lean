/-
  Words for a slice of rows of one's own; the levels, plain. Conditions: none.
-/
import Derived.Test.YtmejjeeobhapfaaDClo
namespace Go.Proofs.Ytmejjeeobhapfaa
open Go.RowKit
set_option linter.unusedVariables false
set_option linter.unusedSimpArgs false

/-- Rows of one's own, their slices in a row of one's own. -/
structure OutSt (w wr : World) (X : List Row) (vO : Value) (Or : List Row) : Prop where
  sep : Sep wr w.heap.size (X ++ Or)
  oo : wr.ownsRow w.heap.size 23 1 vO Or.length (Or.map (·.1))
  ex : Ext w wr
def GivesLL (ls : List (List Int)) (w : World) (e : Ending) (w' : World) : Prop := ∃ A c, e = .returned (.slice A ls.length c) ∧ RdLL (fun _ => True) w' A ls.length ls ∧ Ext w w'
section
variable {w wr w1 : World} {X Or : List Row} {vO : Value}
theorem OutSt.ext (h : OutSt w wr X vO Or) (hx : Ext wr w1) : OutSt w w1 X vO Or := ⟨h.sep.ext hx, (Mod.of_ext (S := []) hx).own h.oo (by simp), h.ex.trans' hx⟩
theorem OutSt.addNil {k gg cap : Nat} {o : Obj} (h : OutSt w wr X vO Or) (hk : Or.length = k) (hown : w1.ownsRow w.heap.size 23 1 (.slice (some ⟨gg, 0, none⟩) (k + 1) cap) (k + 1) (Or.map (·.1) ++ [.slice none 0 0]))
    (hg : (wr.alloc o).grownBy w1 vO.ownBlock) : OutSt w w1 X (.slice (some ⟨gg, 0, none⟩) (k + 1) cap) (Or ++ [(.slice none 0 0, [])]) := by
  subst hk
  have hmd : Mod vO.ownBlock.toList wr w1 := ((Mod.refl _ wr).alloc o).grown hg (fun j hj => .inl (by rw [hj]; simp))
  have hB : ∀ s ∈ vO.ownBlock.toList, vO.ownBlock = some s := fun s hs => by simpa using hs
  have s1 := h.sep.keep hmd (fun s hs r hr e => own_apart2 (h.sep.1 r hr) h.oo (by decide) s e (hB s hs))
  refine ⟨?_, by rw [List.length_append, List.map_append]; exact hown, ((Mod.of_ext (S := vO.ownBlock.toList) h.ex).trans hmd (fun t ht => .inl ht)).ext (fun s hs => (own_obj h.oo (hB s hs)).1)⟩
  rw [← List.append_assoc]
  exact s1.snoc (OI.nil _ _) (fun r _ g hg hg2 => by cases hg2)
theorem OutSt.addR {h0 n u gg cap c0 q : Nat} {x : Int} {v : Value} {l : List Int} (h : OutSt w wr X (.slice (some ⟨h0, 0, none⟩) n c0) Or) (hn : Or.length = n) (hu : Or[u]? = some (v, l)) (hq : l.length = q) (hm : Mod v.ownBlock.toList wr w1)
    (ho : OI w1 w.heap.size (.slice (some ⟨gg, 0, none⟩) (q + 1) cap) (l ++ [x])) (hat : v.ownBlock = some gg ∨ wr.heap.size ≤ gg) :
    OutSt w (w1.setCell ⟨h0, u, none⟩ (.slice (some ⟨gg, 0, none⟩) (q + 1) cap)) X (.slice (some ⟨h0, 0, none⟩) n c0) (Or.set u (.slice (some ⟨gg, 0, none⟩) (q + 1) cap, l ++ [x])) := by
  subst hn
  have hi : (X ++ Or)[X.length + u]? = some (v, l) := by rw [List.getElem?_append_right (by omega)]; simpa using hu
  have hB : ∀ s ∈ v.ownBlock.toList, v.ownBlock = some s := fun s hs => by simpa using hs
  have hv := h.sep.at_ hi
  have s1 := h.sep.upd hi hm (fun s hs => .inl (hB s hs)) ho (fun g hg => by cases hg; exact hat)
  rw [List.set_append_right _ _ (by omega), Nat.add_sub_cancel_left] at s1
  have oh1 := hm.own h.oo (fun s hs hs2 => own_apart2 hv h.oo (by decide) s (hB s hs2) hs)
  have hx1 : Ext w w1 := ((Mod.of_ext (S := v.ownBlock.toList) h.ex).trans hm (fun t ht => .inl ht)).ext (fun s hs => (hv.obj (hB s hs)).1)
  have hst := World.ownsRow.stored oh1 u (.slice (some ⟨gg, 0, none⟩) (q + 1) cap)
  have hh0 := own_obj oh1 (g := h0) rfl
  have hm3 : Mod [h0] w1 (w1.setCell ⟨h0, u, none⟩ (.slice (some ⟨gg, 0, none⟩) (q + 1) cap)) := (Mod.refl _ w1).setCell (.inl (by simp)) _
  refine ⟨s1.keep hm3 (fun s hs r hr => ?_), ?_, hx1.setCell hh0.1 _⟩
  · simp at hs; subst hs
    exact fun e => own_apart2 (s1.1 r hr) oh1 (by decide) _ e rfl
  · rw [List.length_set, List.map_set]; exact hst.1
theorem OutSt.gives (h : OutSt w wr X vO Or) : GivesLL (Or.map (·.2)) w (.returned vO) wr := by
  obtain ⟨A, c, rfl, _, hr⟩ := RdLL.of_sep (X := fun _ => True) h.sep.right h.oo (fun _ _ => trivial) (fun _ _ _ _ => trivial)
  exact ⟨A, c, by rw [List.length_map], by rw [List.length_map]; exact hr, h.ex⟩
end

def lvIn (v : Nat) (lv : List Int) (u : Int) : List Int := lv.set v (max (lv.getD v 0) (lv.getD u.toNat 0 + 1))
def lvOut (bs : List (List Int)) (lv : List Int) (v : Int) : List Int := (bs.getD v.toNat []).foldl (lvIn v.toNat) lv
def levs (bs : List (List Int)) (o : List Int) : List Int := o.foldl (lvOut bs) (List.replicate bs.length 0)
def padO (out : List (List Int)) (k : Nat) : List (List Int) := out ++ List.replicate (k + 1 - out.length) []
def putO (out : List (List Int)) (v : Nat) (k : Nat) : List (List Int) := (padO out k).set k ((padO out k).getD k [] ++ [(v : Int)])
def lvlK (lv : List Int) : Nat → List (List Int)
  | 0 => []
  | v + 1 => putO (lvlK lv v) v (lv.getD v 0).toNat
def levelsG (bs : List (List Int)) (o : List Int) : List (List Int) := lvlK (levs bs o) bs.length
def BL (T : Int) (lv : List Int) : Prop := ∀ x ∈ lv, 0 ≤ x ∧ x ≤ T
theorem BL.getD {T : Int} {lv : List Int} (h : BL T lv) (hT : 0 ≤ T) (i : Nat) : 0 ≤ lv.getD i 0 ∧ lv.getD i 0 ≤ T := by
  rw [List.getD]
  cases hh : lv[i]? with
  | none => exact ⟨Int.le_refl _, hT⟩
  | some x => exact h x (List.mem_of_getElem? hh)
theorem lvIn_ok {v : Nat} {T : Int} {lv : List Int} (hT : 0 ≤ T) (h : BL T lv) (u : Int) : BL (T + 1) (lvIn v lv u) := fun x hx => by
  rcases List.mem_or_eq_of_mem_set hx with h1 | h1
  · have := h x h1; omega
  · have h2 := h.getD hT v
    have h3 := h.getD hT u.toNat
    subst h1; omega
theorem lvIns_ok {v : Nat} : ∀ (l : List Int) (T : Int) (lv : List Int), 0 ≤ T → BL T lv → BL (T + l.length) (l.foldl (lvIn v) lv) ∧ (l.foldl (lvIn v) lv).length = lv.length
  | [], T, lv, _, h => ⟨by simpa using h, rfl⟩
  | x :: l, T, lv, hT, h => by
    have := lvIns_ok (v := v) l (T + 1) (lvIn v lv x) (by omega) (lvIn_ok hT h x)
    rw [List.foldl_cons]
    refine ⟨?_, by rw [this.2, lvIn, List.length_set]⟩
    have h1 := this.1
    rw [List.length_cons]
    rw [show T + 1 + (l.length : Int) = T + ((l.length + 1 : Nat) : Int) by omega] at h1
    exact h1
theorem levs_ok {bs : List (List Int)} (hb : ∀ l ∈ bs, l.length ≤ 100) (o : List Int) : ∀ k, k ≤ o.length → BL ((k : Int) * 100) ((o.take k).foldl (lvOut bs) (List.replicate bs.length 0)) ∧ ((o.take k).foldl (lvOut bs) (List.replicate bs.length 0)).length = bs.length
  | 0, _ => ⟨fun x hx => by simp at hx; obtain ⟨_, rfl⟩ := hx; omega, by simp⟩
  | k + 1, hk => by
    obtain ⟨h1, h2⟩ := levs_ok hb o k (by omega)
    rw [take_snoc' (List.getElem?_eq_getElem (show k < o.length by omega)), List.foldl_append]
    have h3 : (bs.getD o[k].toNat []).length ≤ 100 := by
      rw [List.getD]
      cases hh : bs[o[k].toNat]? with
      | none => simp
      | some r => exact hb r (List.mem_of_getElem? hh)
    have h4 := lvIns_ok (v := o[k].toNat) (bs.getD o[k].toNat []) ((k : Int) * 100) _ (by omega) h1
    simp only [List.foldl_cons, List.foldl_nil, lvOut]
    refine ⟨fun x hx => ?_, by rw [h4.2, h2]⟩
    have := h4.1 x hx
    omega
theorem padO_len (out : List (List Int)) (k : Nat) : (padO out k).length = max out.length (k + 1) := by simp [padO]; omega
theorem putO_len (out : List (List Int)) (v k : Nat) : (putO out v k).length = max out.length (k + 1) := by rw [putO, List.length_set, padO_len]
theorem lvlK_ok {lv : List Int} {T : Nat} (h : BL (T : Int) lv) : ∀ k, (lvlK lv k).length ≤ T + 1
  | 0 => by simp [lvlK]
  | k + 1 => by
    have := lvlK_ok h k
    have h2 := h.getD (by omega) k
    rw [lvlK, putO_len]; omega
theorem padO_rows {out : List (List Int)} {k B : Nat} (h : ∀ r ∈ out, r.length ≤ B) : ∀ r ∈ padO out k, r.length ≤ B := fun r hr => by
  rcases List.mem_append.1 hr with h1 | h1
  · exact h r h1
  · rw [List.eq_of_mem_replicate h1]; simp
theorem lvlK_rows (lv : List Int) : ∀ k, ∀ r ∈ lvlK lv k, r.length ≤ k
  | 0, r, hr => by simp [lvlK] at hr
  | k + 1, r, hr => by
    have h1 := padO_rows (k := (lv.getD k 0).toNat) (lvlK_rows lv k)
    rw [lvlK, putO] at hr
    rcases List.mem_or_eq_of_mem_set hr with h2 | h2
    · have := h1 r h2; omega
    · have h3 : ((padO (lvlK lv k) (lv.getD k 0).toNat).getD (lv.getD k 0).toNat []).length ≤ k := by
        rw [List.getD]
        cases hh : (padO (lvlK lv k) (lv.getD k 0).toNat)[(lv.getD k 0).toNat]? with
        | none => simp
        | some s => exact h1 s (List.mem_of_getElem? hh)
      rw [h2, List.length_append, List.length_singleton]; omega
end Go.Proofs.Ytmejjeeobhapfaa
