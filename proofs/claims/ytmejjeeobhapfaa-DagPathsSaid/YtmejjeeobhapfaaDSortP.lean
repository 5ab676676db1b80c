/-
  The order, as the program finds it: plain; and the words for its memory. Conditions: none.
-/
import Derived.Test.YtmejjeeobhapfaaDPop
namespace Go.Proofs.Ytmejjeeobhapfaa
open Go.RowKit
set_option linter.unusedVariables false

def lensK (bs : List (List Int)) (n k : Nat) : List Int := (List.range n).map fun i => if i < k then ((bs.getD i []).length : Int) else 0
def readyK (bs : List (List Int)) : Nat → List Int
  | 0 => []
  | k + 1 => if (bs.getD k []).length = 0 then hpush (readyK bs k) (k : Int) else readyK bs k
def decOne (s : List Int × List Int) (u : Int) : List Int × List Int :=
  (s.1.set u.toNat (IntKind.i64.wrap (s.1.getD u.toNat 0 - 1)), if IntKind.i64.wrap (s.1.getD u.toNat 0 - 1) = 0 then hpush s.2 u else s.2)
abbrev SS := List Int × List Int × List Int
def stepS (hs : List (List Int)) (s : SS) : SS :=
  if s.2.1.length = 0 then s else
    (((hs.getD (s.2.1.getD 0 0).toNat []).foldl decOne (s.1, hpop s.2.1)).1, ((hs.getD (s.2.1.getD 0 0).toNat []).foldl decOne (s.1, hpop s.2.1)).2, s.2.2 ++ [s.2.1.getD 0 0])
def itS (hs : List (List Int)) (s : SS) : Nat → SS
  | 0 => s
  | k + 1 => stepS hs (itS hs s k)
def startS (bs : List (List Int)) : SS := (lensK bs bs.length bs.length, readyK bs bs.length, [])
def ordS (bs hs : List (List Int)) : List Int := (itS hs (startS bs) bs.length).2.2

theorem lensK_len (bs : List (List Int)) (n k : Nat) : (lensK bs n k).length = n := by simp [lensK]
theorem lensK_zero (bs : List (List Int)) (n : Nat) : lensK bs n 0 = List.replicate n 0 := by
  apply List.ext_getElem
  · simp [lensK]
  · intro i h1 h2; simp [lensK]
theorem lensK_set {bs : List (List Int)} {n k : Nat} (hk : k < n) : (lensK bs n k).set k ((bs.getD k []).length : Int) = lensK bs n (k + 1) := by
  apply List.ext_getElem
  · simp [lensK]
  · intro i h1 h2
    rw [List.getElem_set]
    simp only [lensK, List.getElem_map, List.getElem_range]
    by_cases h : k = i
    · subst h; simp
    · rw [if_neg h]
      by_cases h3 : i < k
      · rw [if_pos h3, if_pos (by omega)]
      · rw [if_neg h3, if_neg (by omega)]
theorem itS_stop {hs : List (List Int)} {s : SS} {k : Nat} (h : (itS hs s k).2.1.length = 0) : ∀ m, k ≤ m → itS hs s m = itS hs s k := by
  intro m hm
  induction m with
  | zero => obtain rfl : k = 0 := by omega
            rfl
  | succ m ih =>
    rcases Nat.lt_or_ge m k with h1 | h1
    · obtain rfl : k = m + 1 := by omega
      rfl
    · rw [itS, ih h1, stepS, if_pos h]

/-- what lies in the heap is in range, and not too much -/
def Rng (n : Nat) (l : List Int) : Prop := ∀ x ∈ l, 0 ≤ x ∧ x < n
theorem Rng.push {n : Nat} {l : List Int} (h : Rng n l) {x : Int} (hx : 0 ≤ x ∧ x < n) : Rng n (hpush l x) := fun y hy => by
  rcases List.mem_cons.1 ((hpush_perm l x).mem_iff.1 hy) with rfl | h1
  · exact hx
  · exact h y h1
theorem Rng.pop {n : Nat} {l : List Int} (h : Rng n l) : Rng n (hpop l) := fun y hy => by
  cases l with
  | nil => simp [hpop, downH] at hy
  | cons x l => exact h y ((hpop_perm (x := x) (l := l)).mem_iff.1 (List.mem_cons_of_mem _ hy))
theorem readyK_ok (bs : List (List Int)) (n : Nat) : ∀ k, k ≤ n → Rng n (readyK bs k) ∧ (readyK bs k).length ≤ k
  | 0, _ => ⟨by simp [readyK, Rng], by simp [readyK]⟩
  | k + 1, hk => by
    obtain ⟨h1, h2⟩ := readyK_ok bs n k (by omega)
    rw [readyK]
    split
    · exact ⟨h1.push ⟨by omega, by omega⟩, by rw [hpush_len]; omega⟩
    · exact ⟨h1, by omega⟩
theorem decs_ok {n : Nat} : ∀ (l : List Int) (s : List Int × List Int), Rng n l → Rng n s.2 → s.1.length = n →
    Rng n (l.foldl decOne s).2 ∧ (l.foldl decOne s).1.length = n ∧ (l.foldl decOne s).2.length ≤ s.2.length + l.length
  | [], s, _, h, h1 => ⟨h, h1, by simp⟩
  | x :: l, s, hl, h, h1 => by
    have hx := hl x (List.mem_cons_self ..)
    have := decs_ok l (decOne s x) (fun y hy => hl y (List.mem_cons_of_mem _ hy)) (by unfold decOne; split; exact h.push hx; exact h) (by simp [decOne, h1])
    refine ⟨this.1, this.2.1, ?_⟩
    have h3 := this.2.2
    have h4 : (decOne s x).2.length ≤ s.2.length + 1 := by
      unfold decOne; simp only; split
      · rw [hpush_len]; exact Nat.le_refl _
      · exact Nat.le_succ _
    simp only [List.foldl_cons, List.length_cons]; omega
theorem itS_ok {n : Nat} {bs hs : List (List Int)} (hb : bs.length = n) (hn : n ≤ 100) (hh : ∀ l ∈ hs, l.length ≤ 100 ∧ Rng n l) : ∀ k, k ≤ n →
    Rng n (itS hs (startS bs) k).2.1 ∧ (itS hs (startS bs) k).1.length = n ∧ (itS hs (startS bs) k).2.1.length ≤ n + k * 100 ∧ (itS hs (startS bs) k).2.2.length ≤ k
  | 0, _ => by
    have := readyK_ok bs n n (Nat.le_refl _)
    simp only [itS, startS, hb, lensK_len]
    exact ⟨this.1, trivial, by omega, by simp⟩
  | k + 1, hk => by
    obtain ⟨h1, h2, h3, h4⟩ := itS_ok hb hn hh k (by omega)
    have hH : (hs.getD ((itS hs (startS bs) k).2.1.getD 0 0).toNat []).length ≤ 100 ∧ Rng n (hs.getD ((itS hs (startS bs) k).2.1.getD 0 0).toNat []) := by
      rw [List.getD]
      cases he : hs[((itS hs (startS bs) k).2.1.getD 0 0).toNat]? with
      | none => exact ⟨by simp, by simp [Rng]⟩
      | some l => exact hh l (List.mem_of_getElem? he)
    have := decs_ok _ ((itS hs (startS bs) k).1, hpop (itS hs (startS bs) k).2.1) hH.2 h1.pop h2
    rw [itS, stepS]
    split
    · exact ⟨h1, h2, by omega, by omega⟩
    · refine ⟨this.1, this.2.1, ?_, by simp; omega⟩
      have h5 := this.2.2
      simp only [hpop_len] at h5
      simp only
      omega

/-- The memory of the search. -/
structure SortSt (w wr : World) (gb hb : Nat) (c0 c1 vW : Value) (wait hp ord : List Int) (vh vo : Value) : Prop where
  sep : Sep wr w.heap.size [(vW, wait), (vh, hp), (vo, ord)]
  oh : wr.heap[hb]? = some (.cells #[vh] 60)
  og : wr.heap[gb]? = some (.cells #[c0, c1, vo] 49)
  md : Mod [gb] w wr
  hhb : w.heap.size ≤ hb
  hgb : gb < w.heap.size
theorem nat_obj {w : World} {base g : Nat} {v : Value} {l : List Int} {o : Array Value} {t : TypeId} (ho : OI w base v l) (hobj : w.heap[g]? = some (.cells o t)) (ht : t ≠ 3) : v.ownBlock ≠ some g := fun h => by
  obtain ⟨_, cur, hc⟩ := ho.obj h
  rw [hobj] at hc
  injection hc with hc
  injection hc with _ h2 _
  exact ht h2
section
variable {w wr w' : World} {gb hb : Nat} {c0 c1 vW vh vo : Value} {wait hp ord : List Int}
theorem SortSt.oW (h : SortSt w wr gb hb c0 c1 vW wait hp ord vh vo) : OI wr w.heap.size vW wait := h.sep.at_ (i := 0) rfl
theorem SortSt.oH (h : SortSt w wr gb hb c0 c1 vW wait hp ord vh vo) : OI wr w.heap.size vh hp := h.sep.at_ (i := 1) rfl
theorem SortSt.oO (h : SortSt w wr gb hb c0 c1 vW wait hp ord vh vo) : OI wr w.heap.size vo ord := h.sep.at_ (i := 2) rfl
theorem SortSt.no_hb (h : SortSt w wr gb hb c0 c1 vW wait hp ord vh vo) : ∀ r ∈ [(vW, wait), (vh, hp), (vo, ord)], (r : Row).1.ownBlock ≠ some hb := fun r hr =>
  nat_obj (h.sep.1 r hr) h.oh (by decide)
theorem SortSt.no_gb (h : SortSt w wr gb hb c0 c1 vW wait hp ord vh vo) : ∀ r ∈ [(vW, wait), (vh, hp), (vo, ord)], (r : Row).1.ownBlock ≠ some gb := fun r hr =>
  nat_obj (h.sep.1 r hr) h.og (by decide)
theorem SortSt.size (h : SortSt w wr gb hb c0 c1 vW wait hp ord vh vo) : w.heap.size ≤ wr.heap.size := h.md.size
/-- behind a call that writes the heap alone -/
theorem SortSt.heap (h : SortSt w wr gb hb c0 c1 vW wait hp ord vh vo) {v' : Value} {l' : List Int} (ho : OI w' w.heap.size v' l') (hobj : w'.heap[hb]? = some (.cells #[v'] 60))
    (hm : Mod (hb :: vh.ownBlock.toList) wr w') (hv : ∀ g, v'.ownBlock = some g → vh.ownBlock = some g ∨ wr.heap.size ≤ g) : SortSt w w' gb hb c0 c1 vW wait l' ord v' vo := by
  refine ⟨h.sep.upd (i := 1) rfl hm (fun s hs => ?_) ho hv, hobj, hm.obj h.og ?_, h.md.trans hm (fun t ht => ?_), h.hhb, h.hgb⟩
  · rcases List.mem_cons.1 hs with rfl | hs
    · exact .inr h.no_hb
    · exact .inl (by simpa using hs)
  · intro hs
    rcases List.mem_cons.1 hs with e | hs
    · have := h.hhb; have := h.hgb; omega
    · have := (h.oH.obj (g := gb) (by simpa using hs)).1; have := h.hgb; omega
  · rcases List.mem_cons.1 ht with rfl | ht
    · exact .inr h.hhb
    · exact .inr (h.oH.obj (g := t) (by simpa using ht)).1
theorem SortSt.push (h : SortSt w wr gb hb c0 c1 vW wait hp ord vh vo) {x : Int} (hp' : GivesPush hb w.heap.size vh (hpush hp x) wr w') : ∃ vh', SortSt w w' gb hb c0 c1 vW wait (hpush hp x) ord vh' vo := by
  obtain ⟨v', h1, h2, h3, h4⟩ := hp'
  exact ⟨v', h.heap h1 h2 h3 h4⟩
theorem SortSt.pop {g cap n : Nat} (h : SortSt w wr gb hb c0 c1 vW wait hp ord (.slice (some ⟨g, 0, none⟩) n cap) vo) (hp' : GivesPop hb w.heap.size g cap (hpop hp) wr w') :
    ∃ vh', SortSt w w' gb hb c0 c1 vW wait (hpop hp) ord vh' vo := by
  obtain ⟨h1, h2, h3⟩ := hp'
  exact ⟨_, h.heap h1 h2 h3 (fun s hs => .inl (by cases hs; rfl))⟩
/-- a number of the row 'wait' is written -/
theorem SortSt.setw {g n cap : Nat} (h : SortSt w wr gb hb c0 c1 (.slice (some ⟨g, 0, none⟩) n cap) wait hp ord vh vo) (hn : wait.length = n) (i : Nat) (x : Int) :
    SortSt w (wr.setCell ⟨g, i, none⟩ (.int .i64 x)) gb hb c0 c1 (.slice (some ⟨g, 0, none⟩) n cap) (wait.set i x) hp ord vh vo := by
  have hm : Mod [g] wr (wr.setCell ⟨g, i, none⟩ (.int .i64 x)) := (Mod.refl _ wr).setCell (.inl (by simp)) _
  have h1 := (h.oW.obj (g := g) rfl).1
  have hb1 := h.no_hb (.slice (some ⟨g, 0, none⟩) n cap, wait) (by simp)
  have hb2 : g ≠ hb := fun e => hb1 (by rw [← e]; rfl)
  refine ⟨h.sep.upd (i := 0) rfl hm (fun s hs => .inl (by simp at hs; subst hs; rfl)) (h.oW.store2 hn i x) (fun s hs => .inl hs), hm.obj h.oh (by simpa using hb2.symm), hm.obj h.og (by have := h.hgb; simp; omega), h.md.trans hm (fun t ht => .inr (by simp at ht; omega)), h.hhb, h.hgb⟩
/-- one number more in the order -/
theorem SortSt.ord1 (h : SortSt w wr gb hb c0 c1 vW wait hp ord vh vo) {w1 : World} {gg cap : Nat} {x : Int} (ho : OI w1 w.heap.size (.slice (some ⟨gg, 0, none⟩) (ord.length + 1) cap) (ord ++ [x])) (hm : Mod vo.ownBlock.toList wr w1)
    (hv : vo.ownBlock = some gg ∨ wr.heap.size ≤ gg) : SortSt w (w1.setCell ⟨gb, 2, none⟩ (.slice (some ⟨gg, 0, none⟩) (ord.length + 1) cap)) gb hb c0 c1 vW wait hp (ord ++ [x]) vh (.slice (some ⟨gg, 0, none⟩) (ord.length + 1) cap) := by
  have hnb : ∀ s ∈ vo.ownBlock.toList, s ≠ gb ∧ s ≠ hb := fun s hs => ⟨fun e => h.no_gb (vo, ord) (by simp) (by rw [← e]; simpa using hs), fun e => h.no_hb (vo, ord) (by simp) (by rw [← e]; simpa using hs)⟩
  have s1 := h.sep.upd (i := 2) (v' := .slice (some ⟨gg, 0, none⟩) (ord.length + 1) cap) (l' := ord ++ [x]) rfl hm (fun s hs => .inl (by simpa using hs)) ho (fun g hg => by cases hg; exact hv)
  have og1 := hm.obj h.og (fun hs => (hnb gb hs).1 rfl)
  have oh1 := hm.obj h.oh (fun hs => (hnb hb hs).2 rfl)
  have hne : gb ≠ hb := by have := h.hgb; have := h.hhb; omega
  have hm2 : Mod [gb] w1 (w1.setCell ⟨gb, 2, none⟩ (.slice (some ⟨gg, 0, none⟩) (ord.length + 1) cap)) := (Mod.refl _ w1).setCell (.inl (by simp)) _
  refine ⟨s1.keep hm2 (fun s hs r hr => ?_), hm2.obj oh1 (by simpa using hne.symm), ?_, (h.md.trans hm (fun t ht => ?_)).trans hm2 (fun t ht => .inl ht), h.hhb, h.hgb⟩
  · simp at hs; subst hs
    exact nat_obj (s1.1 r hr) og1 (by decide)
  · rw [heap_setCell_same w1 gb 2 _ _ _ og1]; simp
  · exact .inr (h.oO.obj (g := t) (by simpa using ht)).1
theorem SortSt.ord2 {q : Nat} (hq : ord.length = q) (h : SortSt w wr gb hb c0 c1 vW wait hp ord vh vo) {w1 : World} {gg cap : Nat} {x : Int} (ho : OI w1 w.heap.size (.slice (some ⟨gg, 0, none⟩) (q + 1) cap) (ord ++ [x])) (hm : Mod vo.ownBlock.toList wr w1)
    (hv : vo.ownBlock = some gg ∨ wr.heap.size ≤ gg) : SortSt w (w1.setCell ⟨gb, 2, none⟩ (.slice (some ⟨gg, 0, none⟩) (q + 1) cap)) gb hb c0 c1 vW wait hp (ord ++ [x]) vh (.slice (some ⟨gg, 0, none⟩) (q + 1) cap) := by
  subst hq; exact h.ord1 ho hm hv
theorem SortSt.ext (h : SortSt w wr gb hb c0 c1 vW wait hp ord vh vo) (hx : Ext wr w') : SortSt w w' gb hb c0 c1 vW wait hp ord vh vo :=
  ⟨h.sep.ext hx, (Mod.of_ext (S := []) hx).obj h.oh (by simp), (Mod.of_ext (S := []) hx).obj h.og (by simp), h.md.then_ext hx, h.hhb, h.hgb⟩
theorem SortSt.og1 (h : SortSt w wr gb hb c0 c1 vW wait hp ord vh vo) (hm : Mod vo.ownBlock.toList wr w') : w'.heap[gb]? = some (.cells #[c0, c1, vo] 49) ∧ Mod [gb] w w' :=
  ⟨hm.obj h.og (fun hs => h.no_gb (vo, ord) (by simp) (by simpa using hs)), h.md.trans hm (fun t ht => .inr (h.oO.obj (g := t) (by simpa using ht)).1)⟩
theorem SortSt.drew (h : SortSt w wr gb hb c0 c1 vW wait hp ord vh vo) : SortSt w wr.drew gb hb c0 c1 vW wait hp ord vh vo := ⟨h.sep, h.oh, h.og, h.md.drew, h.hhb, h.hgb⟩
end
end Go.Proofs.Ytmejjeeobhapfaa
