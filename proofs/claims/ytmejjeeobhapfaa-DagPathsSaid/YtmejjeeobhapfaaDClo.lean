/-
  Walk: all that one comes to. Conditions: none.
-/
import Derived.Test.YtmejjeeobhapfaaDCloP
namespace Go.Proofs.Ytmejjeeobhapfaa
open Go.RowKit
set_option linter.unusedVariables false
set_option linter.unusedSimpArgs false

def isF : Option Value → Bool
  | some (.bool false) => true
  | _ => false
def cntF (w : World) (N n : Nat) : Nat := (List.range n).countP fun i => isF (w.cell? ⟨N, i, none⟩)
def slLenD : Value → Nat
  | .slice _ n _ => n
  | _ => 0
theorem cntF_eq {w : World} {N n : Nat} {seen : List Bool} (hl : seen.length = n) (h : ∀ j x, seen[j]? = some x → w.cell? ⟨N, j, none⟩ = some (.bool x)) : cntF w N n = seen.count false := by
  have e : seen = (List.range n).map (fun i => seen.getD i true) := by
    apply List.ext_getElem
    · simp [hl]
    · intro i h1 h2; simp [List.getD, h1]
  rw [e, List.count_eq_countP, List.countP_map, cntF]
  refine List.countP_congr fun i hi => ?_
  have hi' : i < seen.length := by rw [hl]; simpa using hi
  rw [h i seen[i] (List.getElem?_eq_getElem hi')]
  simp only [Function.comp, List.getD, List.getElem?_eq_getElem hi', Option.getD]
  cases seen[i] <;> simp [isF]
theorem of_pushN {w : World} {base g cap n m : Nat} {l r : List Int} (h : w.ownsRow base 3 1 (.slice (some ⟨g, 0, none⟩) (n + m) cap) (n + m) (flat encI l ++ r.map (Value.int .i64))) (hn : l.length = n) (hm : r.length = m) : OI w base (.slice (some ⟨g, 0, none⟩) (n + m) cap) (l ++ r) := by
  show w.ownsRow _ _ _ _ (l ++ r).length (flat encI (l ++ r))
  rw [flat_append, List.length_append, hn, hm, flat_encI r]; exact h
/-- The memory of the search. -/
structure CloSt (w wr : World) (vS v : Value) (seen : List Bool) (todo : List Int) : Prop where
  ot : OI wr w.heap.size v todo
  os : OB wr w.heap.size vS seen
  ex : Ext w wr
theorem CloSt.app {w wr w1 : World} {vS v : Value} {seen : List Bool} {todo r : List Int} {q m gg cap : Nat} (h : CloSt w wr vS v seen todo) (hq : todo.length = q) (hm : r.length = m)
    (hown : w1.ownsRow w.heap.size 3 1 (.slice (some ⟨gg, 0, none⟩) (q + m) cap) (q + m) (flat encI todo ++ r.map (Value.int .i64))) (hg : wr.grownBy w1 v.ownBlock) : CloSt w w1 vS (.slice (some ⟨gg, 0, none⟩) (q + m) cap) seen (todo ++ r) := by
  have hmd : Mod v.ownBlock.toList wr w1 := (Mod.refl _ wr).grown hg (fun j hj => .inl (by rw [hj]; simp))
  have hB : ∀ s ∈ v.ownBlock.toList, v.ownBlock = some s := fun s hs => by simpa using hs
  exact ⟨of_pushN hown hq hm, hmd.own h.os (fun s hs hs2 => own_apart2 h.ot h.os (by decide) s (hB s hs2) hs), ((Mod.of_ext (S := v.ownBlock.toList) h.ex).trans hmd (fun t ht => .inl ht)).ext (fun s hs => (h.ot.obj (hB s hs)).1)⟩
theorem CloSt.mark {w wr : World} {g n c : Nat} {v : Value} {seen : List Bool} {todo : List Int} (h : CloSt w wr (.slice (some ⟨g, 0, none⟩) n c) v seen todo) (hl : seen.length = n) (i : Nat) : CloSt w (wr.setCell ⟨g, i, none⟩ (.bool true)) (.slice (some ⟨g, 0, none⟩) n c) v (seen.set i true) todo := by
  have hm : Mod [g] wr (wr.setCell ⟨g, i, none⟩ (.bool true)) := (Mod.refl _ wr).setCell (.inl (by simp)) _
  exact ⟨hm.own h.ot (fun s hs hs2 => own_apart2 h.ot h.os (by decide) s hs (by simp at hs2; subst hs2; rfl)), h.os.store hl i true, h.ex.setCell (own_obj h.os (g := g) rfl).1 _⟩
theorem CloSt.cut {w wr : World} {vS : Value} {A : Option Addr} {q c : Nat} {seen : List Bool} {todo : List Int} (h : CloSt w wr vS (.slice A (q + 1) c) seen todo) (hq : todo.length = q + 1) : CloSt w wr vS (.slice A q c) seen todo.dropLast := by
  have := OI.take h.ot (k := q) (by omega)
  rw [List.dropLast_eq_take, hq]
  exact ⟨this, h.os, h.ex⟩
set_option maxRecDepth 100000 in
set_option maxHeartbeats 2000000 in
theorem closG (gb n cb ce m c : Nat) (B0 E A : Option Addr) (es : List (List Int)) (l : List Int) (w : World) (hg : w.cell? ⟨gb, 0, none⟩ = some (.slice B0 n cb)) (hE : RdLL (fun _ => True) w E n es) (hl : RdI w A m l)
    (hn : n ≤ 100) (hm : m ≤ 1000) (he : ∀ r ∈ es, r.length ≤ 100 ∧ Rng n r) : Calls Try.prog 32 #[.pointer (some ⟨gb, 0, none⟩), .slice E n ce, .slice A m c] w (GivesI (cloG es l) w) := by
  obtain ⟨i0, hi0, hz0, hz1, hz2⟩ := info_parts Try.infoIntD
  obtain ⟨i1, hj0, hy0, hy1, hy2⟩ := info_parts Try.infoBD
  have HG := Lib.hid hg
  have HE := Lib.hid hE
  have HL := Lib.hid hl
  have HEB := Lib.hid he
  have HLE : Hid (es.length = n) := hE.len
  have HLL : Hid (l.length = m) := RdL.len hl
  clear hg hE hl he
  go_enter Try.func32, Try.ntmps32
  go_wp2_with (at_make; refine wpList_make_full w rfl _ _ 39 rfl w.heap.size 4 i1 (.bool false) 1 Try.underlying39 hj0 hy0 hy1 .i64 .i64 _ _ n rfl rfl rfl rfl (by rw [hy2]; omega) (by simp only [maxLen]; omega) (Nat.le_refl _) ?_; intro wm hown hgrow; have HM : Hid (Ext w wm) := (Ext.rfl' (w := w)).grown hgrow (Nat.le_refl _) (fun k hk => by cases hk); have HOm := Lib.hid hown; clear hown hgrow)
  have hst : CloSt w wm (.slice (some ⟨w.heap.size, 0, none⟩) n n) (.slice none 0 0) (List.replicate n false) [] := by
    refine ⟨OI.nil _ _, ?_, HM.out⟩
    have h := HOm.out
    show wm.ownsRow _ _ _ _ (List.replicate n false).length ((List.replicate n false).map Value.bool)
    rw [List.length_replicate, List.map_replicate]
    simpa [Value.cells, toList_madeCells_one] using h
  have HST := Lib.hid hst
  obtain ⟨N, HN⟩ : ∃ N, Hid (w.heap.size = N) := ⟨_, rfl⟩
  rw [HN.out] at HST ⊢
  clear hst HOm HM
  go_loopw [7, 20] (fun v i wr => ∃ k : Nat, k ≤ m ∧ i = .int .i64 k ∧ Hid (CloSt w wr (.slice (some ⟨N, 0, none⟩) n n) v (List.replicate n false) (tod0 es (l.take k)))) (fun _ i _ => m - (intOf i).toNat)
  case atStart => exact ⟨0, by omega, rfl, HST.out⟩
  case round =>
    obtain ⟨k, hk, rfl, HS⟩ := hrel
    obtain ⟨q, HQ⟩ : ∃ q, Hid ((tod0 es (l.take k)).length = q) := ⟨_, rfl⟩
    have hsl := HS.out.ot.slice
    rw [HQ.out] at hsl
    obtain ⟨A3, c3, rfl, hq3, -⟩ := hsl
    have hq : q ≤ 100000 := by rw [← HQ.out]; have := (tod0_ok HEB.out l k (by rw [HLL.out]; exact hk)).1; omega
    by_cases hlt : k < m
    · have hkm : (k : Int) < (m : Int) := by omega
      obtain ⟨b, off, x, rfl, -, hx, hd0⟩ := RdI.cut (HL.out.ext HS.out.ex) hlt
      have Hx := Lib.hid hx
      have HAS := Lib.hid (hasG gb n cb B0 x wr (HS.out.ex.cell' HG.out))
      clear hx
      by_cases hv : 0 ≤ x ∧ x < n
      · obtain ⟨X, rfl⟩ : ∃ X : Nat, x = (X : Int) := ⟨x.toNat, by omega⟩
        have hXn : X < n := by omega
        obtain ⟨b5, o5, A5, c5, r, rfl, -, hr2, hcl, -, -, -, hin⟩ := (HE.out.ext HS.out.ex).at_ hXn
        obtain ⟨m5, HM5⟩ : ∃ m5, Hid (r.length = m5) := ⟨_, rfl⟩
        have hm5 : m5 ≤ 100 := by rw [← HM5.out]; exact (HEB.out r (List.mem_of_getElem? hr2)).1
        rw [HM5.out] at hcl
        have HT : Hid (tod0 es (l.take (k + 1)) = tod0 es (l.take k) ++ r) := by
          show _ = _
          rw [take_snoc' Hx.out, tod0_snoc, HLE.out, if_pos hv, Int.toNat_natCast, RdLL.getD_ hr2]
        have d0 : decide (0 ≤ (X : Int) ∧ (X : Int) < n) = true := decide_eq_true hv
        have hXn2 : (X : Int) < (n : Int) := by omega
        rw [d0] at HAS
        have HIN := Lib.hid hin
        clear d0 hv hr2 hin
        by_cases hm0 : m5 = 0
        · subst hm0
          have hr0 : r = [] := List.length_eq_zero_iff.1 HM5.out
          have HT2 : Hid (tod0 es (l.take (k + 1)) = tod0 es (l.take k)) := by show _ = _; rw [HT.out, hr0, List.append_nil]
          clear hr0
          go_wp2_with fail
          refine HAS.out.mono ?_
          rintro e w1 ⟨rfl, rfl⟩
          go_wp2_with (at_builtin; refine wpList_append_zero rfl _ _ _ rfl 3 i0 Try.underlying23 hi0 A3 A5 q c3 _ rfl hq3 rfl ?_)
          go_roundw
          case rel => exact ⟨k + 1, by omega, by go_num, by rw [HT2.out]; exact HS.out⟩
          case measure => simp [intOf]; omega
        · obtain ⟨y0, hy0'⟩ : ∃ y, r[0]? = some y := ⟨_, List.getElem?_eq_getElem (by have := HM5.out; omega)⟩
          obtain ⟨b6, o6, rfl, -, -, -⟩ := HIN.out 0 y0 hy0'
          have HNC : Hid (∀ j u, (r.map (Value.int .i64))[j]? = some u → wr.cell? ((⟨b6, o6, none⟩ : Addr).add j) = some u) := fun j u hj => by
            rw [List.getElem?_map] at hj
            cases hr : r[j]? with
            | none => rw [hr] at hj; cases hj
            | some y =>
              rw [hr] at hj; cases hj
              obtain ⟨b7, o7, h7, _, _, hc7⟩ := HIN.out j y hr
              cases h7
              rw [Addr.add_lit]; exact hc7
          obtain ⟨NW, HNW⟩ : ∃ NW, Hid (r.map (Value.int .i64) = NW) := ⟨_, rfl⟩
          rw [HNW.out] at HNC
          have HNL : Hid (NW.length = m5 * 1) := by show _ = _; rw [← HNW.out, List.length_map, HM5.out, Nat.mul_one]
          have HN1 : Hid (∀ u ∈ NW, u.oneCell' = true) := fun u hu => by rw [← HNW.out] at hu; obtain ⟨_, _, rfl⟩ := List.mem_map.1 hu; rfl
          obtain ⟨FL, HF⟩ : ∃ FL, Hid (FL = flat encI (tod0 es (l.take k))) := ⟨_, rfl⟩
          have hown : wr.ownsRow w.heap.size 3 1 (.slice A3 q c3) q FL := by rw [HF.out]; exact OI.n_ HS.out.ot HQ.out
          have HSZ : Hid (w.heap.size ≤ wr.heap.size) := HS.out.ex.size
          have HAPP : Hid (∀ w1 gg cap, w1.ownsRow w.heap.size 3 1 (.slice (some ⟨gg, 0, none⟩) (q + m5) cap) (q + m5) (flat encI (tod0 es (l.take k)) ++ NW) → wr.grownBy w1 (Value.slice A3 q c3).ownBlock → ((Value.slice A3 q c3).ownBlock = some gg ∨ gg = wr.heap.size) → CloSt w w1 (.slice (some ⟨N, 0, none⟩) n n) (.slice (some ⟨gg, 0, none⟩) (q + m5) cap) (List.replicate n false) (tod0 es (l.take (k + 1)))) := fun w1 gg cap h1 h2 _ => by
            rw [HT.out]
            exact HS.out.app HQ.out HM5.out (by rw [HNW.out]; exact h1) h2
          clear hy0'
          go_wp2_with fail
          refine HAS.out.mono ?_
          rintro e w1 ⟨rfl, rfl⟩
          go_wp2_with (at_builtin; refine wpList_append_lies _ rfl _ _ _ rfl w.heap.size 3 i0 _ 1 8 Try.underlying23 hi0 hz0 hz1 hz2 rfl (by omega) (.slice A3 q c3) q FL rfl hown ⟨b6, o6, none⟩ m5 _ NW rfl HNL.out HNC.out HN1.out (by omega) (by simp only [maxLen]; omega) (by omega) HSZ.out wr.heap.size rfl ?_; intro gg cap w1 hown1 hgrow hat hlt2; have HX1 := Lib.hid (HAPP.out w1 gg cap (by rw [← HF.out]; exact hown1) hgrow hat); clear hown1 hgrow hat)
          go_roundw
          case rel => exact ⟨k + 1, by omega, by go_num, HX1.out⟩
          case measure => simp [intOf]; omega
      · have d0 : decide (0 ≤ x ∧ x < n) = false := decide_eq_false hv
        have HT2 : Hid (tod0 es (l.take (k + 1)) = tod0 es (l.take k)) := by show _ = _; rw [take_snoc' Hx.out, tod0_snoc, HLE.out, if_neg hv]
        rw [d0] at HAS
        clear d0 hv
        go_wp2_with fail
        refine HAS.out.mono ?_
        rintro e w1 ⟨rfl, rfl⟩
        go_wp2
        go_roundw
        case rel => exact ⟨k + 1, by omega, by go_num, by rw [HT2.out]; exact HS.out⟩
        case measure => simp [intOf]; omega
    · obtain rfl : m = k := by omega
      have htk : l.take m = l := List.take_of_length_le (by rw [HLL.out]; exact Nat.le_refl _)
      have hR0 := (tod0_ok HEB.out l m (by rw [HLL.out]; exact Nat.le_refl _)).2
      rw [htk] at hR0
      rw [htk] at HS HQ
      have HRG := Lib.hid hR0
      have HT0 : Hid (∃ f, meas (List.replicate n false, tod0 es l) ≤ f ∧ cloL es f (List.replicate n false, tod0 es l) = cloS es l) := ⟨n * 101 + (tod0 es l).length, by simp [meas], by rw [cloS, HLE.out]⟩
      have HM0 : Hid (meas (List.replicate n false, tod0 es l) ≤ 200000) := by
        show _ ≤ _
        simp only [meas, List.count_replicate_self, HQ.out]; omega
      clear htk hR0
      go_wp2
      go_loopw [7] (fun v wr => ∃ seen todo, Hid (CloSt w wr (.slice (some ⟨N, 0, none⟩) n n) v seen todo ∧ seen.length = n ∧ Rng n todo ∧ meas (seen, todo) ≤ 200000 ∧ ∃ f, meas (seen, todo) ≤ f ∧ cloL es f (seen, todo) = cloS es l)) (fun v wr => cntF wr N n * 101 + slLenD v)
      case atStart => exact ⟨_, _, HS.out, by simp, HRG.out, HM0.out, HT0.out⟩
      case round =>
        obtain ⟨seen, todo, HS⟩ := hrel
        obtain ⟨hS, hsl, hrg, hms, hU⟩ := HS.out
        clear HS
        have HS := Lib.hid hS
        have HSL := Lib.hid hsl
        have HRG2 := Lib.hid hrg
        have HMS := Lib.hid hms
        obtain ⟨q, HQ⟩ : ∃ q, Hid (todo.length = q) := ⟨_, rfl⟩
        have hq : q ≤ 200000 := by rw [← HQ.out]; have := HMS.out; unfold meas at this; simp only at this; omega
        have hslc := HS.out.ot.slice
        rw [HQ.out] at hslc
        obtain ⟨A3, c3, rfl, hq3, -⟩ := hslc
        have HCNT : Hid (cntF wr N n = seen.count false) := cntF_eq hsl (HS.out.os.cells2).1
        clear hS hsl hrg hms
        by_cases hq0 : q = 0
        · subst hq0
          have ht0 : todo = [] := List.length_eq_zero_iff.1 HQ.out
          obtain ⟨f, _, hf⟩ := hU
          rw [cloL_nil (s := (seen, todo)) ht0] at hf
          have HSE : Hid (seen = cloS es l) := hf
          clear hf ht0
          go_wp2
          go_loopw [8, 63] (fun v i wr => ∃ k : Nat, k ≤ n ∧ i = .int .i64 k ∧ Hid (CloSt w wr (.slice (some ⟨N, 0, none⟩) n n) v seen (numsK (fun i => seen.getD i false) k))) (fun _ i _ => n - (intOf i).toNat)
          case atStart => exact ⟨0, by omega, rfl, OI.nil _ _, HS.out.os, HS.out.ex⟩
          case round =>
            obtain ⟨k, hk, rfl, HR⟩ := hrel
            by_cases hlt : k < n
            · have hkn : (k : Int) < (n : Int) := by omega
              obtain ⟨p, HP⟩ : ∃ p, Hid ((numsK (fun i => seen.getD i false) k).length = p) := ⟨_, rfl⟩
              have hp : p ≤ 1000 := by rw [← HP.out]; have := numsK_len (fun i => seen.getD i false) k; omega
              have hslc := HR.out.ot.slice
              rw [HP.out] at hslc
              obtain ⟨A4, c4, rfl, hp4, -⟩ := hslc
              obtain ⟨y, hy⟩ : ∃ y, seen[k]? = some y := ⟨_, List.getElem?_eq_getElem (by rw [HSL.out]; exact hlt)⟩
              have hcy := (HR.out.os.cells2).1 k y hy
              have HN2 : Hid (numsK (fun i => seen.getD i false) (k + 1) = numsK (fun i => seen.getD i false) k ++ if y = true then [(k : Int)] else []) := by
                show _ = _
                rw [numsK_succ]
                simp only [List.getD, hy, Option.getD]
              clear hy
              cases y with
              | false =>
                replace HN2 : Hid (numsK (fun i => seen.getD i false) (k + 1) = numsK (fun i => seen.getD i false) k) := by show _ = _; rw [HN2.out]; simp
                go_wp2
                go_roundw
                case rel => exact ⟨k + 1, by omega, by go_num, by rw [HN2.out]; exact HR.out⟩
                case measure => simp [intOf]; omega
              | true =>
                replace HN2 : Hid (numsK (fun i => seen.getD i false) (k + 1) = numsK (fun i => seen.getD i false) k ++ [(k : Int)]) := by show _ = _; rw [HN2.out]; simp
                obtain ⟨FL, HF⟩ : ∃ FL, Hid (FL = flat encI (numsK (fun i => seen.getD i false) k)) := ⟨_, rfl⟩
                have hown : wr.ownsRow w.heap.size 3 1 (.slice A4 p c4) p FL := by rw [HF.out]; exact OI.n_ HR.out.ot HP.out
                have HSZ : Hid (w.heap.size ≤ wr.heap.size) := HR.out.ex.size
                have HAP1 : Hid (∀ w1 gg cap o, w1.ownsRow w.heap.size 3 1 (.slice (some ⟨gg, 0, none⟩) (p + 1) cap) (p + 1) (flat encI (numsK (fun i => seen.getD i false) k) ++ [.int .i64 (k : Int)]) → (wr.alloc o).grownBy w1 (Value.slice A4 p c4).ownBlock → ((Value.slice A4 p c4).ownBlock = some gg ∨ gg = wr.heap.size + 1) → CloSt w w1 (.slice (some ⟨N, 0, none⟩) n n) (.slice (some ⟨gg, 0, none⟩) (p + 1) cap) seen (numsK (fun i => seen.getD i false) (k + 1))) := fun w1 gg cap o h1 h2 h3 => by
                  obtain ⟨a1, a2, a3⟩ := app1 HR.out.ot HP.out h1 h2 h3
                  have hB : ∀ s ∈ (Value.slice A4 p c4).ownBlock.toList, (Value.slice A4 p c4).ownBlock = some s := fun s hs => by simpa using hs
                  rw [HN2.out]
                  exact ⟨a1, a2.own HR.out.os (fun s hs hs2 => own_apart2 HR.out.ot HR.out.os (by decide) s (hB s hs2) hs), ((Mod.of_ext (S := (Value.slice A4 p c4).ownBlock.toList) HR.out.ex).trans a2 (fun t ht => .inl ht)).ext (fun s hs => (HR.out.ot.obj (hB s hs)).1)⟩
                go_wp2_with (at_builtin; refine wpList_append_lies _ rfl _ _ _ rfl w.heap.size 3 i0 _ 1 8 Try.underlying23 hi0 hz0 hz1 hz2 rfl (by omega) _ p FL rfl (World.ownsRow.alloc hown _) ⟨wr.heap.size, 0, none⟩ 1 1 [.int .i64 (k : Int)] rfl rfl (World.news_of_block (cs := #[.int .i64 (k : Int)]) (t := 3) (fr := (0, 0)) (heap_alloc_new wr _)) (by simp [Value.oneCell']) (by omega) (by simp only [maxLen]; omega) (by omega) (by have := HSZ.out; first | (simp; done) | (simp; omega)) (wr.heap.size + 1) (by simp) ?_; intro gg cap w1 hown1 hgrow hat hlt2; have HX1 := Lib.hid (HAP1.out w1 gg cap _ (by rw [← HF.out]; exact hown1) hgrow hat); clear hown1 hgrow hat)
                go_roundw
                case rel => exact ⟨k + 1, by omega, by go_num, HX1.out⟩
                case measure => simp [intOf]; omega
            · obtain rfl : n = k := by omega
              have HCG : Hid (cloG es l = numsK (fun i => seen.getD i false) n) := by show _ = _; rw [cloG, ← HSE.out, HLE.out]
              go_wp2
              (try rw [Exit.noGoto_ret])
              go_ret
              exact ⟨_, rfl, by rw [HCG.out]; exact HR.out.ot, HR.out.ex⟩
        · obtain ⟨Q, rfl⟩ : ∃ Q, q = Q + 1 := ⟨q - 1, by omega⟩
          have wQ : IntKind.i64.wrap (Q : Int) = (Q : Int) := IntWalk.i64_in _ (by omega)
          have tQ : (Q : Int).toNat = Q := by simp
          obtain ⟨x, hx⟩ : ∃ x, todo[Q]? = some x := ⟨_, List.getElem?_eq_getElem (by rw [HQ.out]; omega)⟩
          have hlast : todo.getLast? = some x := by rw [List.getLast?_eq_getElem?, HQ.out]; exact hx
          obtain ⟨hx0, hxn⟩ := HRG2.out x (List.mem_of_getElem? hx)
          obtain ⟨X, rfl⟩ : ∃ X : Nat, x = (X : Int) := ⟨x.toNat, by omega⟩
          have hXn : X < n := by omega
          have hXn2 : (X : Int) < (n : Int) := by omega
          obtain ⟨g3, c3', hv3, -, -, -, -, hc3, -⟩ := HS.out.ot.at_ (i := 0) (by rw [HQ.out]; omega)
          rw [HQ.out] at hv3
          injection hv3 with hv3 hv4 hv5
          subst hv3
          clear hv4 hv5
          have hcx := hc3 _ _ hx
          obtain ⟨y, hy⟩ : ∃ y, seen[X]? = some y := ⟨_, List.getElem?_eq_getElem (by rw [HSL.out]; exact hXn)⟩
          have hcy := (HS.out.os.cells2).1 X y hy
          have hfy := (HS.out.os.cells2).2 X
          have HCUT : Hid (CloSt w wr (.slice (some ⟨N, 0, none⟩) n n) (.slice (some ⟨g3, 0, none⟩) Q c3) seen todo.dropLast) := HS.out.cut HQ.out
          have HDL : Hid (todo.dropLast.length = Q) := by show _ = _; rw [List.length_dropLast, HQ.out]; rfl
          have HRD : Hid (Rng n todo.dropLast) := fun z hz => HRG2.out z ((List.dropLast_sublist _).subset hz)
          have HU := Lib.hid hU
          have HY := Lib.hid hy
          have HLS := Lib.hid hlast
          have hQc : Q ≤ c3 := by omega
          have bQ : (Q : Int) < (Q : Int) + 1 := by omega
          clear hU hy hlast hx hx0 hxn hc3
          cases y with
          | true =>
            have HNX : Hid (meas (seen, todo.dropLast) ≤ 200000 ∧ ∃ f, meas (seen, todo.dropLast) ≤ f ∧ cloL es f (seen, todo.dropLast) = cloS es l) := by
              obtain ⟨f, hf1, hf2⟩ := HU.out
              obtain ⟨f', h1, h2⟩ := cloL_go (es := es) hf1 HLS.out (by simp only [Int.toNat_natCast, List.getD, HY.out, Option.getD])
              refine ⟨?_, f', h1, by rw [← h2]; exact hf2⟩
              have := HMS.out; unfold meas at this ⊢; have h3 := HDL.out; have h4 := HQ.out; simp only at this ⊢; omega
            go_wp2
            go_roundw
            case rel => exact ⟨seen, todo.dropLast, HCUT.out, HSL.out, HRD.out, HNX.out.1, HNX.out.2⟩
            case measure => simp [slLenD]
          | false =>
            obtain ⟨b5, o5, A5, c5, r, rfl, -, hr2, hcl, -, -, -, hin⟩ := (HE.out.ext HS.out.ex).at_ hXn
            obtain ⟨m5, HM5⟩ : ∃ m5, Hid (r.length = m5) := ⟨_, rfl⟩
            have hm5 : m5 ≤ 100 := by rw [← HM5.out]; exact (HEB.out r (List.mem_of_getElem? hr2)).1
            have HRR : Hid (Rng n r) := (HEB.out r (List.mem_of_getElem? hr2)).2
            rw [HM5.out] at hcl
            have HMK := Lib.hid (HCUT.out.mark HSL.out X)
            have HSET : Hid (cntF (wr.setCell ⟨N, X, none⟩ (.bool true)) N n + 1 = cntF wr N n) := by
              show _ = _
              rw [cntF_eq (by rw [List.length_set]; exact HSL.out) (HMK.out.os.cells2).1, HCNT.out]
              exact count_set HY.out
            have HNX : Hid (meas (seen.set X true, todo.dropLast ++ r) ≤ 200000 ∧ ∃ f, meas (seen.set X true, todo.dropLast ++ r) ≤ f ∧ cloL es f (seen.set X true, todo.dropLast ++ r) = cloS es l) := by
              obtain ⟨f, hf1, hf2⟩ := HU.out
              have hrd : es.getD (X : Int).toNat [] = r := by rw [Int.toNat_natCast]; exact RdLL.getD_ hr2
              obtain ⟨f', h1, h2⟩ := cloL_new (es := es) (s := (seen, todo)) (v := (X : Int)) (by rw [hrd, HM5.out]; exact hm5) hf1 HLS.out (by rw [Int.toNat_natCast]; exact HY.out)
              rw [hrd, Int.toNat_natCast] at h1 h2
              refine ⟨?_, f', h1, by rw [← h2]; exact hf2⟩
              have h6 := HMS.out; have h7 := count_set HY.out
              unfold meas at h6 ⊢; have h3 := HDL.out; have h4 := HQ.out; have h5 := HM5.out; simp only [List.length_append] at h6 ⊢; omega
            have hclw : ∀ v, (wr.setCell ⟨N, X, none⟩ v).cell? ⟨b5, o5 + X, none⟩ = some (.slice A5 m5 c5) := fun v => (World.cell?_setCell_other wr ⟨N, X, none⟩ ⟨b5, o5 + X, none⟩ v (fun e => by rw [e] at hcy; rw [hcy] at hcl; cases hcl)).trans hcl
            have HIN := Lib.hid hin
            have HCY := Lib.hid hcy
            clear hr2 hin
            obtain ⟨wm, HWM⟩ : ∃ wm, Hid (wr.setCell ⟨N, X, none⟩ (.bool true) = wm) := ⟨_, rfl⟩
            have hclm : wm.cell? ⟨b5, o5 + X, none⟩ = some (.slice A5 m5 c5) := by rw [← HWM.out]; exact hclw _
            rw [HWM.out] at HMK HSET
            by_cases hm0 : m5 = 0
            · subst hm0
              have hr0 : r = [] := List.length_eq_zero_iff.1 HM5.out
              rw [hr0, List.append_nil] at HNX
              clear hr0
              go_wp2_with (at_builtin; refine wpList_append_zero rfl _ _ _ rfl 3 i0 Try.underlying23 hi0 (some ⟨g3, 0, none⟩) A5 Q c3 _ rfl hQc rfl ?_)
              go_roundw
              case rel =>
                rw [HWM.out]
                exact ⟨seen.set X true, todo.dropLast, HMK.out, by rw [List.length_set]; exact HSL.out, HRD.out, HNX.out.1, HNX.out.2⟩
              case measure => rw [HWM.out]; simp [slLenD]; have := HSET.out; omega
            · obtain ⟨y0, hy0'⟩ : ∃ y, r[0]? = some y := ⟨_, List.getElem?_eq_getElem (by have := HM5.out; omega)⟩
              obtain ⟨b6, o6, rfl, -, -, -⟩ := HIN.out 0 y0 hy0'
              have HNC : Hid (∀ j u, (r.map (Value.int .i64))[j]? = some u → wm.cell? ((⟨b6, o6, none⟩ : Addr).add j) = some u) := fun j u hj => by
                rw [List.getElem?_map] at hj
                cases hr : r[j]? with
                | none => rw [hr] at hj; cases hj
                | some y =>
                  rw [hr] at hj; cases hj
                  obtain ⟨b7, o7, h7, _, _, hc7⟩ := HIN.out j y hr
                  cases h7
                  rw [Addr.add_lit, ← HWM.out]
                  exact (World.cell?_setCell_other wr ⟨N, X, none⟩ ⟨b6, o6 + j, none⟩ (.bool true) (fun e => by rw [← e, HCY.out] at hc7; cases hc7)).trans hc7
              obtain ⟨NW, HNW⟩ : ∃ NW, Hid (r.map (Value.int .i64) = NW) := ⟨_, rfl⟩
              rw [HNW.out] at HNC
              have HNL : Hid (NW.length = m5 * 1) := by show _ = _; rw [← HNW.out, List.length_map, HM5.out, Nat.mul_one]
              have HN1 : Hid (∀ u ∈ NW, u.oneCell' = true) := fun u hu => by rw [← HNW.out] at hu; obtain ⟨_, _, rfl⟩ := List.mem_map.1 hu; rfl
              obtain ⟨FL, HF⟩ : ∃ FL, Hid (FL = flat encI todo.dropLast) := ⟨_, rfl⟩
              have hown : wm.ownsRow w.heap.size 3 1 (.slice (some ⟨g3, 0, none⟩) Q c3) Q FL := by rw [HF.out]; exact OI.n_ HMK.out.ot HDL.out
              have HSZ : Hid (w.heap.size ≤ wm.heap.size) := HMK.out.ex.size
              have HAPP : Hid (∀ w1 gg cap, w1.ownsRow w.heap.size 3 1 (.slice (some ⟨gg, 0, none⟩) (Q + m5) cap) (Q + m5) (flat encI todo.dropLast ++ NW) → wm.grownBy w1 (Value.slice (some ⟨g3, 0, none⟩) Q c3).ownBlock → ((Value.slice (some ⟨g3, 0, none⟩) Q c3).ownBlock = some gg ∨ gg = wm.heap.size) → CloSt w w1 (.slice (some ⟨N, 0, none⟩) n n) (.slice (some ⟨gg, 0, none⟩) (Q + m5) cap) (seen.set X true) (todo.dropLast ++ r)) := fun w1 gg cap h1 h2 _ =>
                HMK.out.app HDL.out HM5.out (by rw [HNW.out]; exact h1) h2
              have HRR2 : Hid (Rng n (todo.dropLast ++ r)) := fun z hz => (List.mem_append.1 hz).elim (HRD.out z) (HRR.out z)
              clear hy0'
              go_upto_region 14 with fail
              rw [HWM.out]
              go_wp2_with (at_builtin; refine wpList_append_lies _ rfl _ _ _ rfl w.heap.size 3 i0 _ 1 8 Try.underlying23 hi0 hz0 hz1 hz2 rfl (by omega) (.slice (some ⟨g3, 0, none⟩) Q c3) Q FL rfl hown ⟨b6, o6, none⟩ m5 _ NW rfl HNL.out HNC.out HN1.out (by omega) (by simp only [maxLen]; omega) (by omega) HSZ.out wm.heap.size rfl ?_; intro gg cap w1 hown1 hgrow hat hlt2; have HX1 := Lib.hid (HAPP.out w1 gg cap (by rw [← HF.out]; exact hown1) hgrow hat); clear hown1 hgrow hat)
              go_roundw
              case rel => exact ⟨seen.set X true, todo.dropLast ++ r, HX1.out, by rw [List.length_set]; exact HSL.out, HRR2.out, HNX.out.1, HNX.out.2⟩
              case measure =>
                have h1 : cntF w1 N n = cntF wm N n := by rw [cntF_eq (by rw [List.length_set]; exact HSL.out) (HX1.out.os.cells2).1, cntF_eq (by rw [List.length_set]; exact HSL.out) (HMK.out.os.cells2).1]
                have h2 := HSET.out
                simp [slLenD]; omega
end Go.Proofs.Ytmejjeeobhapfaa
