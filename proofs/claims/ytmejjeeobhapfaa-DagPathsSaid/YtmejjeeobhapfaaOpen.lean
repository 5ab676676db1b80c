/-
  What the row hands over, opened: a slice of structs of numbers, a struct of two numbers. Conditions: none.
-/
import Derived.Test.YtmejjeeobhapfaaMem
import Derived.ProofKit
import Derived.OpenShut
import Derived.ShutString
import Derived.ChangeOld
import Derived.Deep.Slices
import Derived.Deep.Fields
import Derived.ChangeSame
import Derived.Lib.SmallJoins
namespace Go.Proofs.Ytmejjeeobhapfaa
open Go.RowKit Go.ChangeShapes Go.WideShapes Go.Deep Go.Joins

section
variable {H : Type} {enc : TypeId × Value → H} {P : Program} {w : World}
theorem open_nums {t e : TypeId} {fs : Array Field} {A : Option Addr} {n c : Nat} {d : DataW H} {p : List MemPlace} (ht : P.underlying t = some (.slice e)) (he : P.underlying e = some (.struct fs))
    (hone : oneCellFields P fs = true) (hC : P.cellsOf e = fs.size) (hint : ∀ (j : Nat) (f : Field), fs[j]? = some f → P.underlying f.type = some (.int .i64))
    (h : DataW.Trod enc P w 0 (fun _ => true) true t (.slice A n c) d p) (hpos : 0 < fs.size) :
    n ≤ c ∧ c ≤ maxLen ∧ ∃ vals : Nat → Nat → Int, (∀ i j, i < n → j < fs.size → (Lit.int .i64 (vals i j)).wf = true) ∧
      (n = 0 ∨ ∃ b off, A = some ⟨b, off, none⟩ ∧ b < w.heap.size ∧ ∀ i, i < n → ∀ j, j < fs.size → w.cell? ⟨b, off + (i * fs.size + j), none⟩ = some (.int .i64 (vals i j))) := by
  obtain ⟨fuel, hf⟩ := h
  rcases open_slice ht hf with ⟨hcs, _⟩ | ⟨a, len, cap, m, n', D, Pl, hcs, _, hl, hm, hmm, _, hi⟩
  · simp [Value.cells] at hcs
    obtain ⟨rfl, rfl, rfl⟩ := hcs
    exact ⟨Nat.le_refl _, by simp [maxLen], fun _ _ => 0, fun i j hi => absurd hi (by omega), .inl rfl⟩
  · simp [Value.cells] at hcs
    obtain ⟨rfl, rfl, rfl⟩ := hcs
    simp only [if_true] at hmm
    have hcell : ∀ i j, i < n → j < fs.size → ∃ z : Int, w.cell? (a.add (i * fs.size + j)) = some (.int .i64 z) ∧ (Lit.int .i64 z).wf = true := fun i j hin hj => by
      obtain ⟨cs', hc, ht'⟩ := hi i (by omega)
      rw [hC] at hc
      obtain ⟨ys, n'', _, _, hlen, hyl, hfd⟩ := DataW.trod_struct he ht'
      obtain ⟨_, hcl, hat⟩ := World.cells?_some hc
      have hfj : fs[j]? = some fs[j] := Array.getElem?_eq_getElem hj
      obtain ⟨ho, hk⟩ := hone_of hone j _ hfj
      have h1 := hfd j _ hfj
      rw [ho, hk] at h1
      have hcj := hat j hj
      have hv : cs'[j]? = some (cs'[j]'(by omega)) := List.getElem?_eq_getElem (by omega)
      have hone' : (cs'.drop j).take 1 = [cs'[j]'(by omega)] := by rw [List.drop_eq_getElem_cons (by omega)]; rfl
      have hys : ys[j]? = some (ys[j]'(by omega)) := List.getElem?_eq_getElem (by omega)
      rw [hone', hys] at h1
      obtain ⟨z, hz, _, hw⟩ := DataW.trod_int (hint j _ hfj) h1
      refine ⟨z, ?_, hw⟩
      rw [← Go.Deep.add_add, hcj, hv]
      injection hz with hz
      rw [hz]
    have hcell' : ∀ i, ∃ g : Nat → Int, ∀ j, i < n → j < fs.size → w.cell? (a.add (i * fs.size + j)) = some (.int .i64 (g j)) ∧ (Lit.int .i64 (g j)).wf = true := fun i => by
      have hz : ∀ j, ∃ z : Int, i < n → j < fs.size → w.cell? (a.add (i * fs.size + j)) = some (.int .i64 z) ∧ (Lit.int .i64 z).wf = true := fun j => by
        by_cases hij : i < n ∧ j < fs.size
        · obtain ⟨z, hz⟩ := hcell i j hij.1 hij.2
          exact ⟨z, fun _ _ => hz⟩
        · exact ⟨0, fun h1 h2 => absurd ⟨h1, h2⟩ hij⟩
      exact Classical.skolem.1 hz
    obtain ⟨vals, hv⟩ := Classical.skolem.1 hcell'
    refine ⟨hl, hm, vals, fun i j hin hj => (hv i j hin hj).2, ?_⟩
    rcases Nat.eq_zero_or_pos n with h0 | h0
    · exact .inl h0
    · right
      have hz := (hv 0 0 h0 hpos).1
      have hsp := World.cell?_spot hz
      obtain ⟨b, off, spot⟩ := a
      have hspot : spot = none := by simpa [Addr.add] using hsp
      subst hspot
      have hb := World.block_lt_of_cell? w _ hz
      refine ⟨b, off, rfl, by rw [Addr.add_lit] at hb; exact hb, fun i hin j hj => ?_⟩
      have := (hv i j hin hj).1
      rwa [Addr.add_lit] at this
theorem rd_of_vals {α : Type} {encd : α → List Value} {size n : Nat} {A : Option Addr} (f : Nat → α) (he : ∀ x, (encd x).length = size)
    (h : n = 0 ∨ ∃ b off, A = some ⟨b, off, none⟩ ∧ b < w.heap.size ∧ ∀ i, i < n → ∀ j, j < size → ∃ u, (encd (f i))[j]? = some u ∧ w.cell? ⟨b, off + (i * size + j), none⟩ = some u) :
    RdL encd size w A n ((List.range n).map f) := by
  have hlen : (flat encd ((List.range n).map f)).length = n * size := by rw [flat_length he]; simp
  refine ⟨he, by simp, hlen, ?_⟩
  rcases h with h0 | ⟨b, off, hA, hb, hc⟩
  · exact .inl h0
  · refine .inr ⟨b, off, hA, hb, fun j u hu => ?_⟩
    have hj : j < n * size := by
      have := (List.getElem?_eq_some_iff.1 hu).1
      omega
    have hs : 0 < size := by
      rcases Nat.eq_zero_or_pos size with h | h
      · subst h; simp at hj
      · exact h
    have hi : j / size < n := (Nat.div_lt_iff_lt_mul hs).2 hj
    have hm : j % size < size := Nat.mod_lt _ hs
    have hdm : j / size * size + j % size = j := by rw [Nat.mul_comm]; exact Nat.div_add_mod j size
    obtain ⟨u', hu', hcell⟩ := hc (j / size) hi (j % size) hm
    have hg := flat_get he ((List.range n).map f) (j / size) (j % size) hm (f (j / size)) (by simp [hi])
    rw [hdm] at hg hcell
    rw [hg, hu'] at hu
    injection hu with hu
    rw [hcell, hu]
theorem open_pairs {t e : TypeId} {f0 f1 : Field} {A : Option Addr} {n c : Nat} {d : DataW H} {p : List MemPlace} (ht : P.underlying t = some (.slice e)) (he : P.underlying e = some (.struct #[f0, f1]))
    (hone : oneCellFields P #[f0, f1] = true) (hC : P.cellsOf e = 2) (h0 : P.underlying f0.type = some (.int .i64)) (h1 : P.underlying f1.type = some (.int .i64))
    (h : DataW.Trod enc P w 0 (fun _ => true) true t (.slice A n c) d p) : n ≤ c ∧ c ≤ maxLen ∧ ∃ l : List (Int × Int), RdP w A n l ∧ ∀ s ∈ l, (Lit.int .i64 s.1).wf = true ∧ (Lit.int .i64 s.2).wf = true := by
  obtain ⟨a, b, vals, hw, hc⟩ := open_nums ht he hone hC (by
    intro j f hj
    match j, hj with
    | 0, hj => simp at hj; subst hj; exact h0
    | 1, hj => simp at hj; subst hj; exact h1
    | j + 2, hj => simp at hj) h (by simp)
  refine ⟨a, b, (List.range n).map fun i => (vals i 0, vals i 1), rd_of_vals _ encP_len ?_, ?_⟩
  · rcases hc with hc | ⟨b, off, hA, hb, hc⟩
    · exact .inl hc
    · refine .inr ⟨b, off, hA, hb, fun i hi j hj => ?_⟩
      have := hc i hi j hj
      match j, hj with
      | 0, _ => exact ⟨_, rfl, this⟩
      | 1, _ => exact ⟨_, rfl, this⟩
  · intro s hs
    obtain ⟨i, hi, rfl⟩ := List.mem_map.1 hs
    exact ⟨hw i 0 (by simpa using hi) (by simp), hw i 1 (by simpa using hi) (by simp)⟩
theorem open_quads {t e : TypeId} {f0 f1 f2 f3 : Field} {A : Option Addr} {n c : Nat} {d : DataW H} {p : List MemPlace} (ht : P.underlying t = some (.slice e)) (he : P.underlying e = some (.struct #[f0, f1, f2, f3]))
    (hone : oneCellFields P #[f0, f1, f2, f3] = true) (hC : P.cellsOf e = 4) (h0 : P.underlying f0.type = some (.int .i64)) (h1 : P.underlying f1.type = some (.int .i64))
    (h2 : P.underlying f2.type = some (.int .i64)) (h3 : P.underlying f3.type = some (.int .i64))
    (h : DataW.Trod enc P w 0 (fun _ => true) true t (.slice A n c) d p) : n ≤ c ∧ c ≤ maxLen ∧ ∃ l : List (Int × Int × Int × Int), RdQ w A n l ∧
      ∀ s ∈ l, (Lit.int .i64 s.1).wf = true ∧ (Lit.int .i64 s.2.1).wf = true ∧ (Lit.int .i64 s.2.2.1).wf = true ∧ (Lit.int .i64 s.2.2.2).wf = true := by
  obtain ⟨a, b, vals, hw, hc⟩ := open_nums ht he hone hC (by
    intro j f hj
    match j, hj with
    | 0, hj => simp at hj; subst hj; exact h0
    | 1, hj => simp at hj; subst hj; exact h1
    | 2, hj => simp at hj; subst hj; exact h2
    | 3, hj => simp at hj; subst hj; exact h3
    | j + 4, hj => simp at hj) h (by simp)
  refine ⟨a, b, (List.range n).map fun i => (vals i 0, vals i 1, vals i 2, vals i 3), rd_of_vals _ encQ_len ?_, ?_⟩
  · rcases hc with hc | ⟨b, off, hA, hb, hc⟩
    · exact .inl hc
    · refine .inr ⟨b, off, hA, hb, fun i hi j hj => ?_⟩
      have := hc i hi j hj
      match j, hj with
      | 0, _ => exact ⟨_, rfl, this⟩
      | 1, _ => exact ⟨_, rfl, this⟩
      | 2, _ => exact ⟨_, rfl, this⟩
      | 3, _ => exact ⟨_, rfl, this⟩
  · intro s hs
    obtain ⟨i, hi, rfl⟩ := List.mem_map.1 hs
    exact ⟨hw i 0 (by simpa using hi) (by simp), hw i 1 (by simpa using hi) (by simp), hw i 2 (by simpa using hi) (by simp), hw i 3 (by simpa using hi) (by simp)⟩
/-- a struct of two numbers, by value -/
theorem open_two {t : TypeId} {f0 f1 : Field} {v : Value} {d : DataW H} {p : List MemPlace} {r : Reach} {b0 : Nat} (hs : P.underlying t = some (.struct #[f0, f1])) (hone : oneCellFields P #[f0, f1] = true) (hC : P.cellsOf t = 2)
    (h0 : P.underlying f0.type = some (.int .i64)) (h1 : P.underlying f1.type = some (.int .i64))
    (hv : Value.okWide P w r b0 t v) (h : DataW.Trod enc P w 0 (fun _ => true) true t v d p) : ∃ x y : Int, v = .agg #[.int .i64 x, .int .i64 y] ∧ (Lit.int .i64 x).wf = true ∧ (Lit.int .i64 y).wf = true := by
  obtain ⟨v0, v1, y0, y1, n, rfl, _, _, t0, t1⟩ := open_agg2 hs hone hC hv h
  obtain ⟨x, e0, _, w0⟩ := DataW.trod_int h0 t0
  obtain ⟨y, e1, _, w1⟩ := DataW.trod_int h1 t1
  injection e0 with e0
  injection e1 with e1
  subst e0; subst e1
  exact ⟨x, y, rfl, w0, w1⟩
end
theorem wf64 {x : Int} (h : (Lit.int .i64 x).wf = true) : -9223372036854775808 ≤ x ∧ x ≤ 9223372036854775807 := by
  simpa [Lit.wf, IntKind.min, IntKind.max, IntKind.signed, IntKind.bits] using h
theorem wf8 {x : Int} (h : (Lit.int .u8 x).wf = true) : 0 ≤ x ∧ x ≤ 255 := by
  simpa [Lit.wf, IntKind.min, IntKind.max, IntKind.signed, IntKind.bits] using h
end Go.Proofs.Ytmejjeeobhapfaa
