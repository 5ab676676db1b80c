/-
  Walk: steps tidied. Conditions: none.
-/
import Derived.Test.YtbcpjdjlgmhohaaWSort
import Derived.Test.YtbcpjdjlgmhohaaWCloneP
import Derived.Test.YtbcpjdjlgmhohaaMBase
namespace Go.Proofs.Ytbcpjdjlgmhohaa
open Go.RowKit

/-- the first k, tidied: the last one of each time; none that is as the one ahead -/
def tidyTo (r : List (Int × Int)) : Nat → List (Int × Int)
  | 0 => []
  | k + 1 => match r[k]?, r[k + 1]? with
    | some x, some y => if y.1 = x.1 then tidyTo r k else pushT (tidyTo r k) x
    | some x, none => pushT (tidyTo r k) x
    | none, _ => tidyTo r k
theorem tidyTo_len (r : List (Int × Int)) (k : Nat) : (tidyTo r k).length ≤ k := by
  induction k with
  | zero => simp [tidyTo]
  | succ k ih =>
    unfold tidyTo
    split
    · split
      · omega
      · exact Nat.le_trans (pushT_len _ _) (by omega)
    · exact Nat.le_trans (pushT_len _ _) (by omega)
    · omega
theorem tidyTo_same {r : List (Int × Int)} {k : Nat} {a u a' u' : Int} (h : r[k]? = some (a, u)) (h' : r[k + 1]? = some (a', u')) (e : a' = a) : tidyTo r (k + 1) = tidyTo r k := by rw [tidyTo, h, h']; simp [e]
theorem tidyTo_other {r : List (Int × Int)} {k : Nat} {a u a' u' : Int} (h : r[k]? = some (a, u)) (h' : r[k + 1]? = some (a', u')) (e : ¬ a' = a) : tidyTo r (k + 1) = pushT (tidyTo r k) (a, u) := by rw [tidyTo, h, h']; simp [e]
theorem tidyTo_last {r : List (Int × Int)} {k : Nat} {a u : Int} (h : r[k]? = some (a, u)) (h' : r[k + 1]? = none) : tidyTo r (k + 1) = pushT (tidyTo r k) (a, u) := by rw [tidyTo, h, h']
theorem tidyTo_tid {r : List (Int × Int)} (h : Asc r) : tidyTo r r.length = tid r := by
  have key : ∀ k, k ≤ r.length → tidyTo r k = tid (r.take k) := fun k => by
    induction k with
    | zero => intro _; rfl
    | succ k ih =>
      intro hk
      have hx : r[k]? = some (r[k]'(by omega)) := List.getElem?_eq_getElem (by omega)
      rw [take_snoc' hx, tid_snoc, ← ih (by omega)]
      rcases Nat.lt_or_ge (k + 1) r.length with h1 | h1
      · have hy : r[k + 1]? = some r[k + 1] := List.getElem?_eq_getElem h1
        have := List.pairwise_iff_getElem.1 h k (k + 1) (by omega) h1 (by omega)
        exact tidyTo_other (a := (r[k]'(by omega)).1) (u := (r[k]'(by omega)).2) (a' := r[k + 1].1) (u' := r[k + 1].2) hx hy (by omega)
      · exact tidyTo_last (a := (r[k]'(by omega)).1) (u := (r[k]'(by omega)).2) hx (List.getElem?_eq_none h1)
  rw [key _ (Nat.le_refl _), List.take_of_length_le (Nat.le_refl _)]
def GivesTidy (l : List (Int × Int)) (w : World) (e : Ending) (w' : World) : Prop :=
  ∃ (r : List (Int × Int)) (A : Option Addr) (c : Nat), Stab cfAt l r ∧ Srt cfAt r ∧ e = .returned (.slice A (tidyTo r r.length).length c) ∧ (tidyTo r r.length).length ≤ c ∧ RdP w' A (tidyTo r r.length).length (tidyTo r r.length) ∧ Ext w w'

theorem own_lowT {w : World} {base base' : Nat} {e : TypeId} {size n : Nat} {v : Value} {xs : List Value} (h : w.ownsRow base e size v n xs) (hb : base' ≤ base) : w.ownsRow base' e size v n xs := by
  refine ⟨h.1, ?_⟩
  rcases h.2 with h1 | ⟨g, cap, cur, h1, h2, h3⟩
  · exact .inl h1
  · exact .inr ⟨g, cap, cur, h1, Nat.le_trans hb h2, h3⟩
/-- the same, as a row of the call's own -/
def GivesTidyO (l : List (Int × Int)) (w : World) (e : Ending) (w' : World) : Prop :=
  ∃ (r : List (Int × Int)) (v' : Value), Stab cfAt l r ∧ Srt cfAt r ∧ e = .returned v' ∧ w'.ownsRow w.heap.size 48 2 v' (tidyTo r r.length).length (flat encP (tidyTo r r.length)) ∧ Ext w w'
set_option maxHeartbeats 4000000 in
set_option maxRecDepth 100000 in
theorem stepsTidyO (A : Option Addr) (n c : Nat) (l : List (Int × Int)) (w : World) (hr : RdP w A n l) (hn : n ≤ 200000) :
    Calls Try.prog 51 #[.slice A n c] w (GivesTidyO l w) := by
  have HR := Lib.hid hr; clear hr
  obtain ⟨i0, hi0, hz0, hz1, hz2⟩ := info_parts Try.infoStp
  go_enter Try.func51, Try.ntmps51
  go_wp2
  go_step3
  go_wp2_with fail
  refine (cloneP A n c l _ HR.out (by omega)).mono ?_
  rintro e w1 ⟨v1, rfl, hown1, hx1⟩
  have HO1 := Lib.hid hown1
  have HX1 := Lib.hid hx1
  clear hown1 hx1
  go_wp2_with fail
  refine (sortSteps w.heap.size v1 n l w1 HO1.out (RdL.len HR.out) (by omega)).mono ?_
  rintro e w2 ⟨rfl, r, hst, hsr, hown2, hb2⟩
  have HST : Hid (Stab cfAt l r ∧ Srt cfAt r) := ⟨hst, hsr⟩
  have HX2 : Hid (Ext w w2) := hb2 w HX1.out
  have hlr : r.length = n := by rw [hst.len]; exact RdL.len HR.out
  obtain ⟨A2, c2, rfl, _, hr2⟩ := RdL.of_own encP_len hown2 hlr
  have HR2 : Hid (RdP w2 A2 n r) := hr2
  have HLR := Lib.hid hlr
  clear hst hsr hown2 hb2 hr2 hlr HO1 HX1
  go_wp2
  go_step3
  go_wp2
  go_loopw [4, 14] (fun v i wr => ∃ k : Nat, k ≤ n ∧ i = .int .i64 k ∧ wr.ownsRow w2.heap.size 48 2 v (tidyTo r k).length (flat encP (tidyTo r k)) ∧ Ext w2 wr) (fun _ i _ => n - (intOf i).toNat)
  case atStart => exact ⟨0, by omega, rfl, by simpa [tidyTo, flat] using World.ownsRow_nil _ _ _ _, Ext.rfl'⟩
  case round =>
    obtain ⟨k, hkn, rfl, hown, hext⟩ := hrel
    by_cases hlt : k < n
    · obtain ⟨bb, off, a, u, rfl, hbb, hx, hd0, hd1⟩ := RdP.cut HR2.out (k := k) hlt
      replace hd0 := hext.cell' hd0
      replace hd1 := hext.cell' hd1
      have hbw : bb < wr.heap.size := by have := hext.size; omega
      have HXk := Lib.hid hx; clear hx
      by_cases hlt2 : k + 1 < n
      · obtain ⟨b', off', a', u', hA, _, hx', he0, he1⟩ := RdP.cut HR2.out (k := k + 1) hlt2
        injection hA with hA; injection hA with hA1 hA2 _; subst hA1; subst hA2
        replace he0 := hext.cell' he0
        replace he1 := hext.cell' he1
        have HXk' := Lib.hid hx'; clear hx'
        have d1 : decide ((k : Int) + 1 < (n : Int)) = true := by simp; omega
        have wk : IntKind.i64.wrap ((k : Int) + 1) = (k : Int) + 1 := IntWalk.i64_in _ (by omega)
        have bk : (k : Int) + 1 < (n : Int) := by omega
        have pk : (0 : Int) ≤ (k : Int) + 1 := by omega
        have tk : ((k : Int) + 1).toNat = k + 1 := by omega
        by_cases ha : a' = a
        · have da : (a' == a) = true := by simpa using ha
          have HN : Hid (tidyTo r (k + 1) = tidyTo r k) := tidyTo_same HXk.out HXk'.out ha
          clear ha
          have HO3 : Hid (∀ q, ((wr.alloc (.cells #[.int .i64 a, .int .i64 u] 48)).drewN q).ownsRow w2.heap.size 48 2 u4 (tidyTo r k).length (flat encP (tidyTo r k))) := fun q => hown.alloc _
          have HX3 : Hid (∀ q, Ext w2 ((wr.alloc (.cells #[.int .i64 a, .int .i64 u] 48)).drewN q)) := fun q => below_drewN' (hext.alloc hext.size _) q
          clear hown hext
          go_wp2
          go_quiet (fail)
          go_wp2
          go_roundw
          case rel => exact ⟨k + 1, by omega, by go_num, by rw [HN.out]; exact HO3.out _, HX3.out _⟩
          case measure => simp [intOf]; omega
        · have da : (a' == a) = false := by simpa using ha
          have HP : Hid (tidyTo r (k + 1) = pushT (tidyTo r k) (a, u)) := tidyTo_other HXk.out HXk'.out ha
          clear ha
          go_wp2
          go_quiet (fail)
          generalize hw3 : World.drewN _ nq = w3
          have hs0 : w3.cell? ⟨wr.heap.size, 0, none⟩ = some (.int .i64 a) := by rw [← hw3]; simp
          have hs1 : w3.cell? ⟨wr.heap.size, 1, none⟩ = some (.int .i64 u) := by rw [← hw3]; simp
          have HX3 : Hid (Ext w2 w3) := by show Ext _ _; rw [← hw3]; exact below_drewN' (hext.alloc hext.size _) _
          have hown3 : w3.ownsRow w2.heap.size 48 2 u4 (tidyTo r k).length (flat encP (tidyTo r k)) := by rw [← hw3]; exact hown.alloc _
          clear hw3 hown
          clear d1 da he0 he1 hd0 hd1 wk bk pk tk
          obtain ⟨L, HL⟩ : ∃ L, Hid (L = (tidyTo r k).length) := ⟨_, rfl⟩
          obtain ⟨F, HF⟩ : ∃ F, Hid (F = flat encP (tidyTo r k)) := ⟨_, rfl⟩
          have hLk : L ≤ k := by rw [HL.out]; exact tidyTo_len _ _
          obtain ⟨A3, c3, hv3, _, hr3⟩ := RdL.of_own encP_len hown3 rfl
          rw [← HL.out] at hv3 hr3
          rw [← HL.out, ← HF.out] at hown3
          subst hv3
          by_cases hL0 : L = 0
          · have hj0 : ((L : Int) == 0) = true := by simp [hL0]
            have hp0 : tidyTo r k = [] := List.length_eq_zero_iff.1 (by rw [← HL.out, hL0])
            have HN : Hid (tidyTo r (k + 1) = tidyTo r k ++ [(a, u)]) := by show _ = _; rw [HP.out, hp0]; rfl
            clear hp0 hL0 hr3
            go_wp2
            go_quiet (fail)
            go_wp2_with (at_builtin; refine wpList_append_lies _ rfl _ _ _ rfl w2.heap.size 48 i0 _ 2 16 Try.underlying22 hi0 hz0 hz1 hz2 rfl (by omega) _ L F rfl (World.ownsRow.alloc (show (w3.drewN nq).ownsRow _ _ _ _ _ _ from hown3) _) ⟨w3.heap.size, 0, none⟩ 1 1 [.int .i64 a, .int .i64 u] rfl rfl (World.news_of_block (cs := #[.int .i64 a, .int .i64 u]) (t := 48) (fr := (0, 0)) (heap_alloc_new (w3.drewN nq) _)) (by simp [Value.oneCell']) (by omega) (by simp only [maxLen]; omega) (by omega) (by have := HX3.out.size; simp; omega) (w3.heap.size + 1) (by simp) ?_; intro gg cap w4 hown4 hgrow hat hlt2; have Hown4 := Lib.hid hown4; have Hgrow := Lib.hid hgrow; clear hown4 hgrow hat)
            go_roundw
            case rel =>
              refine ⟨k + 1, by omega, by go_num, ?_, ?_⟩
              · rw [HN.out, flat_append, flat_one, List.length_append, ← HL.out, ← HF.out]
                exact Hown4.out
              · exact ((below_drewN' HX3.out nq).alloc (by have := HX3.out.size; simp; omega) _).grown Hgrow.out (by have := HX3.out.size; simp; omega) (fun z hz => (hown3.lt z hz).1)
            case measure => simp [intOf]; omega
          · obtain ⟨M, hM⟩ : ∃ M, L = M + 1 := ⟨L - 1, by omega⟩
            subst hM
            obtain ⟨b3, o3, a3, u3, hA3, hb3, hx3, he0, he1⟩ := RdP.cut hr3 (k := M) (by omega)
            have hlast : (tidyTo r k).getLast? = some (a3, u3) := by rw [List.getLast?_eq_getElem?, ← HL.out]; exact hx3
            subst hA3
            have hj0 : (((M : Int) + 1) == 0) = false := by simp; omega
            have hML : (M : Int) < (M : Int) + 1 := by omega
            have wM : IntKind.i64.wrap (M : Int) = (M : Int) := IntWalk.i64_in _ (by omega)
            clear hr3 hx3 hL0
            by_cases hu : u3 = u
            · have du : (u3 != u) = false := by simpa using hu
              have HN : Hid (tidyTo r (k + 1) = tidyTo r k) := by show _ = _; rw [HP.out]; exact pushT_same hlast hu
              have HO3 : Hid (w3.ownsRow w2.heap.size 48 2 (.slice (some ⟨b3, o3, none⟩) (M + 1) c3) (tidyTo r k).length (flat encP (tidyTo r k))) := by rw [← HL.out, ← HF.out]; exact hown3
              clear hown3 hlast hu
              go_wp2
              go_quiet (fail)
              go_wp2
              go_roundw
              case rel => exact ⟨k + 1, by omega, by go_num, by rw [HN.out]; exact HO3.out, below_drewN' HX3.out _⟩
              case measure => simp [intOf]; omega
            · have du : (u3 != u) = true := by simpa using hu
              have HN : Hid (tidyTo r (k + 1) = tidyTo r k ++ [(a, u)]) := by show _ = _; rw [HP.out]; exact pushT_more hlast hu
              clear hlast hu
              go_wp2
              go_quiet (fail)
              go_wp2_with (at_builtin; refine wpList_append_lies _ rfl _ _ _ rfl w2.heap.size 48 i0 _ 2 16 Try.underlying22 hi0 hz0 hz1 hz2 rfl (by omega) _ (M + 1) F rfl (World.ownsRow.alloc (show (w3.drewN nq).ownsRow _ _ _ _ _ _ from hown3) _) ⟨w3.heap.size, 0, none⟩ 1 1 [.int .i64 a, .int .i64 u] rfl rfl (World.news_of_block (cs := #[.int .i64 a, .int .i64 u]) (t := 48) (fr := (0, 0)) (heap_alloc_new (w3.drewN nq) _)) (by simp [Value.oneCell']) (by omega) (by simp only [maxLen]; omega) (by omega) (by have := HX3.out.size; simp; omega) (w3.heap.size + 1) (by simp) ?_; intro gg cap w4 hown4 hgrow hat hlt2; have Hown4 := Lib.hid hown4; have Hgrow := Lib.hid hgrow; clear hown4 hgrow hat)
              go_roundw
              case rel =>
                refine ⟨k + 1, by omega, by go_num, ?_, ?_⟩
                · rw [HN.out, flat_append, flat_one, List.length_append, ← HL.out, ← HF.out]
                  exact Hown4.out
                · exact ((below_drewN' HX3.out nq).alloc (by have := HX3.out.size; simp; omega) _).grown Hgrow.out (by have := HX3.out.size; simp; omega) (fun z hz => (hown3.lt z hz).1)
              case measure => simp [intOf]; omega
      · have d1 : decide ((k : Int) + 1 < (n : Int)) = false := by simp; omega
        have wk : IntKind.i64.wrap ((k : Int) + 1) = (k : Int) + 1 := IntWalk.i64_in _ (by omega)
        have HP : Hid (tidyTo r (k + 1) = pushT (tidyTo r k) (a, u)) := tidyTo_last HXk.out (List.getElem?_eq_none (by have := HLR.out; omega))
        go_wp2
        go_quiet (fail)
        generalize hw3 : World.drewN _ nq = w3
        have hs0 : w3.cell? ⟨wr.heap.size, 0, none⟩ = some (.int .i64 a) := by rw [← hw3]; simp
        have hs1 : w3.cell? ⟨wr.heap.size, 1, none⟩ = some (.int .i64 u) := by rw [← hw3]; simp
        have HX3 : Hid (Ext w2 w3) := by show Ext _ _; rw [← hw3]; exact below_drewN' (hext.alloc hext.size _) _
        have hown3 : w3.ownsRow w2.heap.size 48 2 u4 (tidyTo r k).length (flat encP (tidyTo r k)) := by rw [← hw3]; exact hown.alloc _
        clear hw3 hown
        clear d1 hd0 hd1 wk
        obtain ⟨L, HL⟩ : ∃ L, Hid (L = (tidyTo r k).length) := ⟨_, rfl⟩
        obtain ⟨F, HF⟩ : ∃ F, Hid (F = flat encP (tidyTo r k)) := ⟨_, rfl⟩
        have hLk : L ≤ k := by rw [HL.out]; exact tidyTo_len _ _
        obtain ⟨A3, c3, hv3, _, hr3⟩ := RdL.of_own encP_len hown3 rfl
        rw [← HL.out] at hv3 hr3
        rw [← HL.out, ← HF.out] at hown3
        subst hv3
        by_cases hL0 : L = 0
        · have hj0 : ((L : Int) == 0) = true := by simp [hL0]
          have hp0 : tidyTo r k = [] := List.length_eq_zero_iff.1 (by rw [← HL.out, hL0])
          have HN : Hid (tidyTo r (k + 1) = tidyTo r k ++ [(a, u)]) := by show _ = _; rw [HP.out, hp0]; rfl
          clear hp0 hL0 hr3
          go_wp2
          go_quiet (fail)
          go_wp2_with (at_builtin; refine wpList_append_lies _ rfl _ _ _ rfl w2.heap.size 48 i0 _ 2 16 Try.underlying22 hi0 hz0 hz1 hz2 rfl (by omega) _ L F rfl (World.ownsRow.alloc (show (w3.drewN nq).ownsRow _ _ _ _ _ _ from hown3) _) ⟨w3.heap.size, 0, none⟩ 1 1 [.int .i64 a, .int .i64 u] rfl rfl (World.news_of_block (cs := #[.int .i64 a, .int .i64 u]) (t := 48) (fr := (0, 0)) (heap_alloc_new (w3.drewN nq) _)) (by simp [Value.oneCell']) (by omega) (by simp only [maxLen]; omega) (by omega) (by have := HX3.out.size; simp; omega) (w3.heap.size + 1) (by simp) ?_; intro gg cap w4 hown4 hgrow hat hlt2; have Hown4 := Lib.hid hown4; have Hgrow := Lib.hid hgrow; clear hown4 hgrow hat)
          go_roundw
          case rel =>
            refine ⟨k + 1, by omega, by go_num, ?_, ?_⟩
            · rw [HN.out, flat_append, flat_one, List.length_append, ← HL.out, ← HF.out]
              exact Hown4.out
            · exact ((below_drewN' HX3.out nq).alloc (by have := HX3.out.size; simp; omega) _).grown Hgrow.out (by have := HX3.out.size; simp; omega) (fun z hz => (hown3.lt z hz).1)
          case measure => simp [intOf]; omega
        · obtain ⟨M, hM⟩ : ∃ M, L = M + 1 := ⟨L - 1, by omega⟩
          subst hM
          obtain ⟨b3, o3, a3, u3, hA3, hb3, hx3, he0, he1⟩ := RdP.cut hr3 (k := M) (by omega)
          have hlast : (tidyTo r k).getLast? = some (a3, u3) := by rw [List.getLast?_eq_getElem?, ← HL.out]; exact hx3
          subst hA3
          have hj0 : (((M : Int) + 1) == 0) = false := by simp; omega
          have hML : (M : Int) < (M : Int) + 1 := by omega
          have wM : IntKind.i64.wrap (M : Int) = (M : Int) := IntWalk.i64_in _ (by omega)
          clear hr3 hx3 hL0
          by_cases hu : u3 = u
          · have du : (u3 != u) = false := by simpa using hu
            have HN : Hid (tidyTo r (k + 1) = tidyTo r k) := by show _ = _; rw [HP.out]; exact pushT_same hlast hu
            have HO3 : Hid (w3.ownsRow w2.heap.size 48 2 (.slice (some ⟨b3, o3, none⟩) (M + 1) c3) (tidyTo r k).length (flat encP (tidyTo r k))) := by rw [← HL.out, ← HF.out]; exact hown3
            clear hown3 hlast hu
            go_wp2
            go_quiet (fail)
            go_wp2
            go_roundw
            case rel => exact ⟨k + 1, by omega, by go_num, by rw [HN.out]; exact HO3.out, below_drewN' HX3.out _⟩
            case measure => simp [intOf]; omega
          · have du : (u3 != u) = true := by simpa using hu
            have HN : Hid (tidyTo r (k + 1) = tidyTo r k ++ [(a, u)]) := by show _ = _; rw [HP.out]; exact pushT_more hlast hu
            clear hlast hu
            go_wp2
            go_quiet (fail)
            go_wp2_with (at_builtin; refine wpList_append_lies _ rfl _ _ _ rfl w2.heap.size 48 i0 _ 2 16 Try.underlying22 hi0 hz0 hz1 hz2 rfl (by omega) _ (M + 1) F rfl (World.ownsRow.alloc (show (w3.drewN nq).ownsRow _ _ _ _ _ _ from hown3) _) ⟨w3.heap.size, 0, none⟩ 1 1 [.int .i64 a, .int .i64 u] rfl rfl (World.news_of_block (cs := #[.int .i64 a, .int .i64 u]) (t := 48) (fr := (0, 0)) (heap_alloc_new (w3.drewN nq) _)) (by simp [Value.oneCell']) (by omega) (by simp only [maxLen]; omega) (by omega) (by have := HX3.out.size; simp; omega) (w3.heap.size + 1) (by simp) ?_; intro gg cap w4 hown4 hgrow hat hlt2; have Hown4 := Lib.hid hown4; have Hgrow := Lib.hid hgrow; clear hown4 hgrow hat)
            go_roundw
            case rel =>
              refine ⟨k + 1, by omega, by go_num, ?_, ?_⟩
              · rw [HN.out, flat_append, flat_one, List.length_append, ← HL.out, ← HF.out]
                exact Hown4.out
              · exact ((below_drewN' HX3.out nq).alloc (by have := HX3.out.size; simp; omega) _).grown Hgrow.out (by have := HX3.out.size; simp; omega) (fun z hz => (hown3.lt z hz).1)
            case measure => simp [intOf]; omega
    · obtain rfl : k = n := by omega
      have HO9 := Lib.hid (own_lowT hown HX2.out.size)
      have HXE := Lib.hid (HX2.out.trans' hext)
      clear hown hext
      go_wp2
      (try rw [Exit.noGoto_ret])
      go_ret
      exact ⟨r, _, HST.out.1, HST.out.2, rfl, by rw [HLR.out]; exact HO9.out, HXE.out⟩
theorem stepsTidy (A : Option Addr) (n c : Nat) (l : List (Int × Int)) (w : World) (hr : RdP w A n l) (hn : n ≤ 200000) :
    Calls Try.prog 51 #[.slice A n c] w (GivesTidy l w) :=
  (stepsTidyO A n c l w hr hn).mono fun e w' ⟨r, v', st, sr, he, ho, hx⟩ => by
    obtain ⟨A', c', rfl, hc', hr'⟩ := RdL.of_own encP_len ho rfl
    exact ⟨r, A', c', st, sr, he, hc', hr', hx⟩
end Go.Proofs.Ytbcpjdjlgmhohaa
