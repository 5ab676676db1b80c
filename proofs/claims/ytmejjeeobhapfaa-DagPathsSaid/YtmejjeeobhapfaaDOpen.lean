/-
  What the row hands over, opened: a slice of slices of numbers, a slice of numbers. Conditions: none.
-/
import Derived.Test.YtmejjeeobhapfaaOpen
import Derived.Test.YtmejjeeobhapfaaDMem
import Derived.SizedLaws
import Derived.Deep.Matrix
import Derived.ChangeSlices
namespace Go.Proofs.Ytmejjeeobhapfaa
open Go.RowKit Go.ChangeShapes Go.WideShapes Go.Deep Go.Joins Go.ChangeAt

theorem weightsAll_mem {H : Type} {P : Program} {e : TypeId} : ∀ {l : List (DataW H)} {d : DataW H}, d ∈ l → ∀ n ∈ d.weights P e, n ∈ DataW.weightsAll P e l
  | d' :: r, d, hd, n, hn => by
    simp only [DataW.weightsAll, List.mem_append]
    rcases List.mem_cons.1 hd with rfl | h
    · exact Or.inl hn
    · exact Or.inr (weightsAll_mem h n hn)
theorem sized_inner {H : Type} {P : Program} {ts : List TypeId} {ds : List (DataW H)} (h : (DataW.weightsEach P ts ds).all (· ≤ reachBytes) = true) {j : Nat} {t e q : TypeId} {elems spare e' sp' : List (DataW H)}
    (ht : ts[j]? = some t) (hd : ds[j]? = some (.slice elems spare)) (hu : P.underlying t = some (.slice e)) (hu2 : P.underlying e = some (.slice q)) (hx : DataW.slice e' sp' ∈ elems) : (e'.length + sp'.length) * P.bytesOf q ≤ reachBytes := by
  refine of_decide_eq_true (List.all_eq_true.1 h _ (DataW.weights_mem_each ht hd _ ?_))
  simp only [DataW.weights, hu, List.mem_cons, List.mem_append]
  exact Or.inr (Or.inl (weightsAll_mem hx _ (by simp [DataW.weights, hu2])))
section
variable {H : Type} {enc : TypeId × Value → H} {P : Program} {w : World}
theorem open_rows {t e q : TypeId} {A : Option Addr} {n c : Nat} {d : DataW H} {p : List MemPlace} {ts : List TypeId} {ds : List (DataW H)} {j0 : Nat} (ht : P.underlying t = some (.slice e)) (he : P.underlying e = some (.slice q)) (hq : P.underlying q = some (.int .i64))
    (ce : P.cellsOf e = 1) (cq : P.cellsOf q = 1) (be : P.bytesOf e = 24) (bq : P.bytesOf q = 8) (h : DataW.Trod enc P w 0 (fun _ => true) true t (.slice A n c) d p)
    (hsz : (DataW.weightsEach P ts ds).all (· ≤ reachBytes) = true) (hts : ts[j0]? = some t) (hds : ds[j0]? = some d) :
    ∃ ls : List (List Int), RdLL (fun _ => True) w A n ls ∧ n ≤ 140737488355328 ∧ ∀ l ∈ ls, l.length ≤ 140737488355328 := by
  obtain ⟨fuel, hf⟩ := h
  rcases open_int_rows ht he hq ce cq hf with ⟨hcs, hx⟩ | ⟨a, len, cap, B, L, C, Z, hcs, _, hl, hm, hx, hrows⟩
  · simp [Value.cells] at hcs
    obtain ⟨rfl, rfl, rfl⟩ := hcs
    exact ⟨[], ⟨rfl, fun i l hl => by simp at hl⟩, by omega, by simp⟩
  · simp [Value.cells] at hcs
    obtain ⟨rfl, rfl, rfl⟩ := hcs
    simp only [Prod.mk.injEq] at hx
    obtain ⟨rfl, rfl⟩ := hx
    have hout := sized_slice hsz hts hds ht
    simp only [List.length_map, List.length_range, be, show reachBytes = 140737488351232 from rfl] at hout
    have hnil : ∀ r, r < n → B r = none → L r = 0 := fun r hr hA => by
      obtain ⟨_, h1, _, _, _, h3, _⟩ := hrows r (by omega)
      have := h3 hA; omega
    refine ⟨(List.range n).map fun r => (Z r).take (L r), ⟨by simp, fun i l hl => ?_⟩, by omega, fun l hl => ?_⟩
    · have hin : i < n := by have := (List.getElem?_eq_some_iff.1 hl).1; simpa using this
      rw [List.getElem?_map, List.getElem?_range hin] at hl
      obtain rfl : (Z i).take (L i) = l := by simpa using hl
      obtain ⟨h1, h2, h3, h4, _, h6, h7⟩ := hrows i (by omega)
      have hlen : ((Z i).take (L i)).length = L i := by simp; omega
      obtain ⟨gb, go, gs⟩ := a
      have hgs : gs = none := by simpa [Addr.add] using World.cell?_spot (hrows 0 (by omega)).1
      subst hgs
      rw [Addr.add_lit] at h1
      refine ⟨gb, go, B i, C i, rfl, World.block_lt_of_cell? w _ h1, trivial, by rw [hlen]; exact h1, by omega, fun j x hx => ?_⟩
      have hj : j < L i := by have := (List.getElem?_eq_some_iff.1 hx).1; omega
      cases hB : B i with
      | none => have := hnil i hin hB; omega
      | some a' =>
        obtain ⟨ab, ao, asp⟩ := a'
        obtain ⟨_, hcell⟩ := h7 _ hB
        have has : asp = none := by simpa [Addr.add] using World.cell?_spot (hcell 0 (by omega))
        subst has
        have hc := hcell j (by omega)
        rw [Addr.add_lit] at hc
        refine ⟨ab, ao, rfl, World.block_lt_of_cell? w _ hc, trivial, ?_⟩
        rw [hc]
        rw [List.getElem?_take, if_pos hj] at hx
        rw [List.getD, hx]; rfl
    · obtain ⟨r, hr, rfl⟩ := List.mem_map.1 hl
      have hr' : r < n := by simpa using hr
      obtain ⟨h1, h2, h3, h4, _, h6, h7⟩ := hrows r (by omega)
      cases hB : B r with
      | none => have := hnil r hr' hB; simp; omega
      | some a' =>
        have hin := sized_inner hsz hts hds ht he (e' := lits .i64 ((Z r).take (L r))) (sp' := lits .i64 ((Z r).drop (L r))) (List.mem_map.2 ⟨r, hr, by simp [intRow, hB]⟩)
        simp only [lits, List.length_map, List.length_take, bq, show reachBytes = 140737488351232 from rfl] at hin
        simp only [List.length_take]
        omega
theorem open_nums1 {t e : TypeId} {A : Option Addr} {n c : Nat} {d : DataW H} {p : List MemPlace} {ts : List TypeId} {ds : List (DataW H)} {j0 : Nat} (ht : P.underlying t = some (.slice e)) (he : P.underlying e = some (.int .i64))
    (ce : P.cellsOf e = 1) (be : P.bytesOf e = 8) (h : DataW.Trod enc P w 0 (fun _ => true) true t (.slice A n c) d p)
    (hsz : (DataW.weightsEach P ts ds).all (· ≤ reachBytes) = true) (hts : ts[j0]? = some t) (hds : ds[j0]? = some d) : ∃ l : List Int, RdI w A n l ∧ n ≤ 140737488355328 := by
  obtain ⟨fuel, hf⟩ := h
  rcases open_ints ht he ce hf with ⟨hcs, hx⟩ | ⟨a, len, cap, zs, hcs, _, hl, hm, hzl, hx, hc, _⟩
  · simp [Value.cells] at hcs
    obtain ⟨rfl, rfl, rfl⟩ := hcs
    exact ⟨[], ⟨encI_len, rfl, Rd.nil' _ _ _⟩, by omega⟩
  · simp [Value.cells] at hcs
    obtain ⟨rfl, rfl, rfl⟩ := hcs
    simp only [Prod.mk.injEq] at hx
    obtain ⟨rfl, rfl⟩ := hx
    simp only [if_true] at hzl
    have hout := sized_slice hsz hts hds ht
    simp only [lits, List.length_map, List.length_take, List.length_drop, be, show reachBytes = 140737488351232 from rfl] at hout
    have hlen : (zs.take n).length = n := by simp; omega
    refine ⟨zs.take n, ⟨encI_len, hlen, by rw [flat_encI]; simp; omega, ?_⟩, by omega⟩
    rcases Nat.eq_zero_or_pos n with h0 | h0
    · exact .inl h0
    · obtain ⟨ab, ao, asp⟩ := a
      have has : asp = none := by simpa [Addr.add] using World.cell?_spot (hc 0 (by omega))
      subst has
      have hc0 := hc 0 (by omega)
      rw [Addr.add_lit] at hc0
      refine .inr ⟨ab, ao, rfl, World.block_lt_of_cell? w _ hc0, fun j u hu => ?_⟩
      rw [flat_encI, List.getElem?_map] at hu
      cases hx : (zs.take n)[j]? with
      | none => rw [hx] at hu; cases hu
      | some x =>
        rw [hx] at hu; cases hu
        have hj : j < n := by have := (List.getElem?_eq_some_iff.1 hx).1; omega
        have h2 := hc j (by omega)
        rw [Addr.add_lit] at h2
        rw [h2]
        rw [List.getElem?_take, if_pos hj] at hx
        rw [List.getD, hx]; rfl
end
end Go.Proofs.Ytmejjeeobhapfaa
