/-
  Walk: all that one comes to. Conditions: none.
-/
import Derived.Test.YtmejjeeobhapfaaDRef
namespace Go.Proofs.Ytmejjeeobhapfaa
open Go.RowKit
set_option linter.unusedVariables false
set_option linter.unusedSimpArgs false

theorem Try.infoBD : (Try.prog.info? 4).map (fun i => (i.zero, i.size, i.bytes)) = some (some (.bool false), 1, 1) := by kernel_rfl
/-- nothing is appended -/
theorem wpList_append_zero {P : Program} {w : World} {ops : Array Oper} {rest : List Oper} {o : Oper} {a : Act} {Q : Exit → Act → World → Prop} (hgd : o.guard = none) (s x : Operand) (t : TypeId)
    (ho : o.op = .call { callee := .builtin .append, args := #[s, x], argTypes := #[t, t] }) (e : TypeId) (i : TypeInfo) (ht : P.underlying t = some (.slice e)) (hi : P.info? e = some i)
    (A B : Option Addr) (n c d : Nat) (hs : a.eval s = .slice A n c) (hnc : n ≤ c) (hx : a.eval x = .slice B 0 d)
    (h : wpList P ops Q rest (a.put o.dst (.slice A n c)) w) : wpList P ops Q (o :: rest) a w := by
  refine wpList_plain hgd fun K hK => ?_
  have hrun : (Builtin.append_ #[t, t] o.type #[.slice A n c, .slice B 0 d]).run P w = .ok (.slice A n c) w := by
    cases A <;> cases B <;> simp [Builtin.append_, run_underlying ht, sizeOf, typeInfo, hi, Builtin.lenOf, Builtin.firstCells, hnc, storeCells, loadCells, loadCellsFrom]
  unfold Oper.wp
  simp [execOp, ho, resolve, invoke, builtin, hs, hx, hrun, Result.andThen]
  exact hK _ _ h
def encB (p : Bool) : List Value := [.bool p]
/-- A row of yes and no of one's own. -/
abbrev OB (w : World) (base : Nat) (v : Value) (l : List Bool) : Prop := w.ownsRow base 4 1 v l.length (l.map Value.bool)
theorem OB.cells2 {w : World} {base g n cap : Nat} {l : List Bool} (h : OB w base (.slice (some ⟨g, 0, none⟩) n cap) l) : (∀ j x, l[j]? = some x → w.cell? ⟨g, j, none⟩ = some (.bool x)) ∧ ∀ j, w.frozen? ⟨g, j, none⟩ = false := by
  rcases h.2 with ⟨h0, _⟩ | ⟨g', cap', cur, hv, hb, hg, hn, hm, hs, ht⟩
  · cases h0
  · injection hv with hv hn' hc'
    subst hn'
    exact ⟨fun j x hx => by
      have hjl : j < l.length := (List.getElem?_eq_some_iff.1 hx).1
      rw [World.ownsRow.cellAt h j (by omega), List.getElem?_map, hx]; rfl, fun j => World.ownsRow.frozenAt h j⟩
theorem OB.store {w : World} {base g n cap : Nat} {l : List Bool} (h : OB w base (.slice (some ⟨g, 0, none⟩) n cap) l) (hl : l.length = n) (j : Nat) (x : Bool) : OB (w.setCell ⟨g, j, none⟩ (.bool x)) base (.slice (some ⟨g, 0, none⟩) n cap) (l.set j x) := by
  subst hl
  have := (World.ownsRow.stored h j (.bool x)).1
  rw [← List.map_set] at this
  simpa [OB] using this

def tod0 (es : List (List Int)) (l : List Int) : List Int := l.foldl (fun (t : List Int) (v : Int) => if 0 ≤ v ∧ v < es.length then t ++ es.getD v.toNat [] else t) []
def cloL (es : List (List Int)) : Nat → List Bool × List Int → List Bool
  | 0, s => s.1
  | f + 1, s => match s.2.getLast? with
    | none => s.1
    | some v => if s.1.getD v.toNat true then cloL es f (s.1, s.2.dropLast) else cloL es f (s.1.set v.toNat true, s.2.dropLast ++ es.getD v.toNat [])
def meas (s : List Bool × List Int) : Nat := (s.1.count false) * 101 + s.2.length
def cloS (es : List (List Int)) (l : List Int) : List Bool := cloL es (es.length * 101 + (tod0 es l).length) (List.replicate es.length false, tod0 es l)
def cloG (es : List (List Int)) (l : List Int) : List Int := numsK (fun i => (cloS es l).getD i false) es.length
theorem cloL_nil {es : List (List Int)} {f : Nat} {s : List Bool × List Int} (h : s.2 = []) : cloL es f s = s.1 := by
  cases f with
  | zero => rfl
  | succ f => rw [cloL, h]; rfl
theorem cloL_len (es : List (List Int)) : ∀ (f : Nat) (s : List Bool × List Int), (cloL es f s).length = s.1.length
  | 0, s => rfl
  | f + 1, s => by
    rw [cloL]
    split
    · rfl
    · split
      · rw [cloL_len es f]
      · rw [cloL_len es f]; simp
theorem tod0_snoc (es : List (List Int)) (l : List Int) (v : Int) : tod0 es (l ++ [v]) = if 0 ≤ v ∧ v < es.length then tod0 es l ++ es.getD v.toNat [] else tod0 es l := by
  rw [tod0, List.foldl_append]; rfl
theorem tod0_ok {n : Nat} {es : List (List Int)} (he : ∀ l ∈ es, l.length ≤ 100 ∧ Rng n l) : ∀ (l : List Int) (k : Nat), k ≤ l.length → (tod0 es (l.take k)).length ≤ k * 100 ∧ Rng n (tod0 es (l.take k))
  | l, 0, _ => ⟨by simp [tod0], by simp [tod0, Rng]⟩
  | l, k + 1, hk => by
    obtain ⟨h1, h2⟩ := tod0_ok he l k (by omega)
    rw [take_snoc' (List.getElem?_eq_getElem (show k < l.length by omega)), tod0_snoc]
    have h3 : ∀ v : Int, (es.getD v.toNat []).length ≤ 100 ∧ Rng n (es.getD v.toNat []) := fun v => by
      rw [List.getD]
      cases hh : es[v.toNat]? with
      | none => exact ⟨by simp, by simp [Rng]⟩
      | some r => exact he r (List.mem_of_getElem? hh)
    split
    · refine ⟨?_, fun x hx => ?_⟩
      · rw [List.length_append]; have := (h3 l[k]).1; omega
      · rcases List.mem_append.1 hx with h | h
        · exact h2 x h
        · exact (h3 l[k]).2 x h
    · exact ⟨by omega, h2⟩
theorem count_set {l : List Bool} {i : Nat} (h : l[i]? = some false) : (l.set i true).count false + 1 = l.count false := by
  induction l generalizing i with
  | nil => simp at h
  | cons x l ih =>
    cases i with
    | zero => simp at h; subst h; simp
    | succ i => simp at h; have := ih h; simp [List.count_cons] at this ⊢; omega
theorem cloL_go {es : List (List Int)} {f : Nat} {s : List Bool × List Int} {v : Int} (hf : meas s ≤ f) (hv : s.2.getLast? = some v) (hb : s.1.getD v.toNat true = true) :
    ∃ f', meas (s.1, s.2.dropLast) ≤ f' ∧ cloL es f s = cloL es f' (s.1, s.2.dropLast) := by
  have hp : 0 < s.2.length := by cases hs : s.2 with
    | nil => rw [hs] at hv; cases hv
    | cons a b => simp
  have h1 : s.2.dropLast.length + 1 = s.2.length := by rw [List.length_dropLast]; omega
  obtain ⟨f', rfl⟩ : ∃ f', f = f' + 1 := ⟨f - 1, by unfold meas at hf; omega⟩
  refine ⟨f', by unfold meas at hf ⊢; simp only; omega, ?_⟩
  rw [cloL, hv]; simp only [hb, if_true]
theorem cloL_new {es : List (List Int)} {f : Nat} {s : List Bool × List Int} {v : Int} (he : (es.getD v.toNat []).length ≤ 100) (hf : meas s ≤ f) (hv : s.2.getLast? = some v) (hb : s.1[v.toNat]? = some false) :
    ∃ f', meas (s.1.set v.toNat true, s.2.dropLast ++ es.getD v.toNat []) ≤ f' ∧ cloL es f s = cloL es f' (s.1.set v.toNat true, s.2.dropLast ++ es.getD v.toNat []) := by
  have hp : 0 < s.2.length := by cases hs : s.2 with
    | nil => rw [hs] at hv; cases hv
    | cons a b => simp
  have h1 : s.2.dropLast.length + 1 = s.2.length := by rw [List.length_dropLast]; omega
  obtain ⟨f', rfl⟩ : ∃ f', f = f' + 1 := ⟨f - 1, by unfold meas at hf; omega⟩
  have h2 := count_set hb
  refine ⟨f', by unfold meas at hf ⊢; simp only [List.length_append]; omega, ?_⟩
  rw [cloL, hv]
  have : s.1.getD v.toNat true = false := by rw [List.getD, hb]; rfl
  simp only [this]; simp
end Go.Proofs.Ytmejjeeobhapfaa
