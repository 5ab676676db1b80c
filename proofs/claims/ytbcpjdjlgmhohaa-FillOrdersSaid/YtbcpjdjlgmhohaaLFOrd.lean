/-
  Walk: the statement FillOrders. Conditions: none.
-/
import Derived.Test.YtbcpjdjlgmhohaaWKnown15
import Derived.Test.YtbcpjdjlgmhohaaWPlcR
import Derived.Test.YtbcpjdjlgmhohaaOpen
namespace Go.Proofs.Ytbcpjdjlgmhohaa
open Go.RowKit
set_option linter.unusedVariables false
set_option linter.unusedSimpArgs false

def DistI (l : List Jb) (i k : Nat) : Prop := ∀ (q r : Nat) (x y : Jb), (q < i ∨ (q = i ∧ r < k)) → r < q → l[q]? = some x → l[r]? = some y → x.1 ≠ y.1
theorem dist_next {l : List Jb} {k q : Nat} {x y : Jb} (h : DistI l k q) (hx : l[k]? = some x) (hy : l[q]? = some y) (hne : x.1 ≠ y.1) : DistI l k (q + 1) := fun q' r x' y' h1 h2 h3 h4 => by
  rcases h1 with h1 | ⟨rfl, h1⟩
  · exact h q' r x' y' (.inl h1) h2 h3 h4
  · rcases Nat.lt_or_ge r q with h5 | h5
    · exact h _ r x' y' (.inr ⟨rfl, h5⟩) h2 h3 h4
    · obtain rfl : r = q := by omega
      rw [hx] at h3; injection h3 with h3; subst h3
      rw [hy] at h4; injection h4 with h4; subst h4
      exact hne
theorem dist_row {l : List Jb} {k : Nat} (h : DistI l k k) : DistI l (k + 1) 0 := fun q r x y h1 h2 h3 h4 => by
  rcases Nat.lt_or_ge q k with h5 | h5
  · exact h q r x y (.inl h5) h2 h3 h4
  · exact h q r x y (.inr ⟨by omega, by omega⟩) h2 h3 h4
theorem dist_pair {l : List Jb} (h : DistI l l.length 0) : l.Pairwise fun x y => x.1 ≠ y.1 :=
  List.pairwise_iff_getElem.2 fun i j hi hj hij e => h j i l[j] l[i] (.inl hj) hij (List.getElem?_eq_getElem hj) (List.getElem?_eq_getElem hi) e.symm
theorem rev_one {α : Type} : ∀ {L : List α}, L.length ≤ 1 → L.reverse = L
  | [], _ => rfl
  | [_], _ => rfl
  | _ :: _ :: _, h => by simp at h
theorem one_of : ∀ {L : List Jb} {c : Int}, L.Pairwise (fun x y => x.1 ≠ y.1) → (∀ x ∈ L, x.1 = c) → L.length ≤ 1
  | [], _, _, _ => by simp
  | [_], _, _, _ => by simp
  | x :: y :: _, _, hp, hm => absurd ((hm x (by simp)).trans (hm y (by simp)).symm) ((List.pairwise_cons.1 hp).1 y (by simp))
theorem orderJ_rev {l : List Jb} (hd : l.Pairwise fun x y => x.1 ≠ y.1) : orderJ l.reverse = orderJ l := by
  refine (isort_is order_j (isort_srt order_j l) fun c => ?_).symm
  rw [isort_filt order_j, List.filter_reverse]
  refine (rev_one (one_of (c := c.1) (hd.filter _) fun x hx => ?_)).symm
  have := (List.mem_filter.1 hx).2
  rw [cls_true, cfJ_neg, cfJ_neg] at this
  omega
theorem orderJ_same (l : List Jb) : orderJ (orderJ l) = orderJ l := isort_same order_j (isort_srt order_j l)

set_option maxRecDepth 100000 in
set_option maxHeartbeats 600000 in
theorem walk_forders (B : Option Addr) (m d : Nat) (jobs : List Jb) (W : World) (hs : RdQ W B m jobs) (hm : m ≤ 9223372036854775807) :
    Calls Try.prog 5 #[.slice B m d] W fun e w' => e = .returned (.bool true) ∧ Ext W w' := by
  have HS := Lib.hid hs; clear hs
  obtain ⟨i1, hj0, hy0, hy1, hy2⟩ := info_parts Try.infoJob
  by_cases hlong : 30 < m
  · skip
    go_enter Try.func5, Try.ntmps5
    have HX : Hid (Ext W W) := Ext.rfl'
    go_wp2_with fail
    refine (known15 _).mono ?_
    rintro e w1 ⟨rfl, hx1⟩
    replace HX := Lib.hid (HX.out.trans' hx1)
    clear hx1
    go_wp2
    (try rw [Exit.noGoto_ret])
    go_ret
    exact ⟨rfl, HX.out⟩
  replace hlong : m ≤ 30 := by omega
  have hjl : jobs.length = m := RdL.len HS.out
  go_enter Try.func5, Try.ntmps5
  have HX : Hid (Ext W W) := Ext.rfl'
  go_wp2_with fail
  refine (fillOrder B m d jobs _ HS.out (by omega)).mono ?_
  rintro e w1 ⟨v8, rfl, ho8, hx1⟩
  replace HX := Lib.hid (HX.out.trans' hx1)
  replace HS := Lib.hid (HS.out.ext hx1)
  clear hx1
  rw [hjl] at ho8
  obtain ⟨A8, cA8, rfl, hcA8, hrA8⟩ := RdL.of_own encQ_len ho8 (by rw [orderJ_len]; exact hjl)
  have HO8 := Lib.hid hrA8
  clear ho8 hrA8
  go_wp2
  go_loopw [4, 5] (fun v i wr => ∃ p : Nat, p ≤ m ∧ i = .int .i64 ((p : Int) - 1) ∧ wr.ownsRow w1.heap.size 45 4 v (m - p) (flat encQ (jobs.drop p).reverse) ∧ Ext w1 wr) (fun _ i _ => (intOf i + 1).toNat)
  case atStart => exact ⟨m, by omega, by go_num, by rw [Nat.sub_self, List.drop_of_length_le (by omega)]; simpa [flat] using World.ownsRow_nil _ _ _ _, Ext.rfl'⟩
  case round =>
    obtain ⟨p, hp, rfl, hown, hext⟩ := hrel
    by_cases hlt : 0 < p
    · obtain ⟨k, rfl⟩ : ∃ k, p = k + 1 := ⟨p - 1, by omega⟩
      rw [show ((k + 1 : Nat) : Int) - 1 = (k : Int) by omega]
      obtain ⟨b, off, x1, x2, x3, x4, rfl, hb, hx, hd0, hd1, hd2, hd3⟩ := RdQ.cut HS.out (k := k) (by omega)
      replace hd0 := hext.cell' hd0
      replace hd1 := hext.cell' hd1
      replace hd2 := hext.cell' hd2
      replace hd3 := hext.cell' hd3
      have HN : Hid (flat encQ (jobs.drop k).reverse = flat encQ (jobs.drop (k + 1)).reverse ++ [.int .i64 x1, .int .i64 x2, .int .i64 x3, .int .i64 x4]) := by
        show _ = _
        rw [drop_at hx, List.reverse_cons, flat_append]; rfl
      have Hext := Lib.hid hext
      have HOW := Lib.hid hown
      have hkk0 : (0 : Int) ≤ (k : Int) := Int.natCast_nonneg _
      have hkk1 : (k : Int) < (m : Int) := by omega
      clear hext hx hown
      obtain ⟨G, HG⟩ : ∃ G, Hid (flat encQ (jobs.drop (k + 1)).reverse = G) := ⟨_, rfl⟩
      rw [HG.out] at HOW HN
      go_wp2_with (at_builtin; refine wpList_append_lies _ rfl _ _ _ rfl w1.heap.size 45 i1 _ 4 32 Try.underlying23 hj0 hy0 hy1 hy2 rfl (by omega) _ (m - (k + 1)) G rfl (World.ownsRow.alloc HOW.out _) ⟨wr.heap.size, 0, none⟩ 1 1 [.int .i64 x1, .int .i64 x2, .int .i64 x3, .int .i64 x4] rfl rfl (World.news_of_block (cs := #[.int .i64 x1, .int .i64 x2, .int .i64 x3, .int .i64 x4]) (t := 45) (fr := (0, 0)) (heap_alloc_new wr _)) (by simp [Value.oneCell']) (by omega) (by simp only [maxLen]; omega) (by omega) (by have := Hext.out.size; simp; omega) (wr.heap.size + 1) (by simp) ?_; intro gg cap w5 hown1 hgrow hat hlt2; have Hown1 := Lib.hid hown1; have Hgrow := Lib.hid hgrow; clear hown1 hgrow hat)
      go_roundw
      case rel => exact ⟨k, by omega, by go_num, by rw [HN.out, show m - k = m - (k + 1) + 1 by omega]; exact Hown1.out, (Hext.out.alloc Hext.out.size _).grown Hgrow.out (by have := Hext.out.size; simp; omega) (fun z hz => (HOW.out.lt z hz).1)⟩
      case measure => simp [intOf] <;> omega
    · obtain rfl : p = 0 := by omega
      rw [show ((0 : Nat) : Int) - 1 = -1 from rfl]
      rw [List.drop_zero, Nat.sub_zero] at hown
      obtain ⟨A4, c4, rfl, _, hr4⟩ := RdL.of_own encQ_len hown (by rw [List.length_reverse]; exact hjl)
      obtain ⟨w2, HW2⟩ : ∃ w2 : World, w2 = wr := ⟨_, rfl⟩
      subst HW2
      have HX2 := Lib.hid (HX.out.trans' hext)
      have HS2 := Lib.hid (HS.out.ext hext)
      have HP2 := Lib.hid (HO8.out.ext hext)
      have HB2 : Hid (RdQ w2 A4 m jobs.reverse) := hr4
      clear hown hr4 hext hlt HX HO8 HS
      go_wp2
      go_loopw [6, 7] (fun o i wr => ∃ (k : Nat) (b : Bool), k ≤ m ∧ o = .bool b ∧ i = .int .i64 k ∧ Hid (b = true → DistI jobs k 0) ∧ Ext w2 wr) (fun _ i _ => m - (intOf i).toNat)
      case atStart => exact ⟨0, true, by omega, rfl, rfl, (fun _ q r x y h1 h2 => by omega), Ext.rfl'⟩
      case round =>
        obtain ⟨k, b, hk, rfl, rfl, HD, hext⟩ := hrel
        obtain ⟨w3, HW3⟩ : ∃ w3 : World, w3 = wr := ⟨_, rfl⟩
        subst HW3
        have HX3 := Lib.hid hext
        clear hext
        by_cases hkm : k < m
        · obtain ⟨bb, off, x1, x2, x3, x4, rfl, hb, hx, hd0, _, _, _⟩ := RdQ.cut HS2.out hkm
          have HXI := Lib.hid hx
          replace hd0 := HX3.out.cell' hd0
          have hpp0 : (0 : Int) ≤ (k : Int) := Int.natCast_nonneg _
          have hpp1 : (k : Int) < (m : Int) := by omega
          clear hx
          go_wp2
          go_loopw [6, 8] (fun o i wr => ∃ (q : Nat) (b : Bool), q ≤ k ∧ o = .bool b ∧ i = .int .i64 q ∧ Hid (b = true → DistI jobs k q) ∧ Ext w3 wr) (fun _ i _ => k - (intOf i).toNat)
          case atStart => exact ⟨0, b, by omega, rfl, rfl, HD, Ext.rfl'⟩
          case round =>
            obtain ⟨q, b', hq, rfl, rfl, HE, hext⟩ := hrel
            by_cases hqp : q < k
            · obtain ⟨_, _, y1, y2, y3, y4, hA, _, hy, he0, _, _, _⟩ := RdQ.cut HS2.out (k := q) (by omega)
              injection hA with hA; injection hA with hA1 hA2 _; subst hA1; subst hA2
              have HYI := Lib.hid hy
              have hc0 := hext.cell' hd0
              have hc1 := hext.cell' (HX3.out.cell' he0)
              have HXQ : Hid (∀ z, Ext w3 (wr.drewN z)) := fun z => below_drewN' hext z
              have hqq0 : (0 : Int) ≤ (q : Int) := Int.natCast_nonneg _
              have hqq1 : (q : Int) < (m : Int) := by omega
              clear hy hext he0
              cases b' with
              | false =>
                go_wp2
                go_quiet (fail)
                go_wp2
                go_roundw
                case rel => exact ⟨q + 1, false, by omega, rfl, by go_num, (fun h => by cases h), HXQ.out _⟩
                case measure => simp [intOf]; omega
              | true =>
                by_cases he : x1 = y1
                · have d0 : (x1 == y1) = true := by simpa using he
                  clear he
                  go_wp2
                  go_quiet (fail)
                  go_wp2
                  go_roundw
                  case rel => exact ⟨q + 1, false, by omega, by simp [bne, d0], by go_num, (fun h => by cases h), HXQ.out _⟩
                  case measure => simp [intOf]; omega
                · have d0 : (x1 == y1) = false := by simpa using he
                  have HN : Hid (DistI jobs k (q + 1)) := dist_next (HE.out rfl) HXI.out HYI.out he
                  clear he
                  go_wp2
                  go_quiet (fail)
                  go_wp2
                  go_roundw
                  case rel => exact ⟨q + 1, true, by omega, by simp [bne, d0], by go_num, (fun _ => HN.out), HXQ.out _⟩
                  case measure => simp [intOf]; omega
            · obtain rfl : q = k := by omega
              have HN : Hid (b' = true → DistI jobs (q + 1) 0) := fun h => dist_row (HE.out h)
              have Hext := Lib.hid (HX3.out.trans' hext)
              have hz : decide (q < q) = false := by simp
              clear hext hqp
              go_wp2
              go_roundw
              case rel => exact ⟨q + 1, b', by omega, rfl, by go_num, HN, Hext.out⟩
              case measure => simp [intOf]; omega
        · obtain rfl : m = k := by omega
          have HX4 := Lib.hid (HX2.out.trans' HX3.out)
          have HS4 := Lib.hid (HS2.out.ext HX3.out)
          have HP4 := Lib.hid (HP2.out.ext HX3.out)
          have HB4 := Lib.hid (HB2.out.ext HX3.out)
          clear HX2 HS2 HP2 HB2 HX3 hkm
          cases b with
          | false =>
            clear HB4
            go_wp2_with fail
            refine (refOrder B m d jobs _ HS4.out (by omega)).mono ?_
            rintro e w21 ⟨A9, c9, rfl, hr9, hc9, hx21⟩
            replace HX4 := Lib.hid (HX4.out.trans' hx21)
            replace HS4 := Lib.hid (HS4.out.ext hx21)
            replace HP4 := Lib.hid (HP4.out.ext hx21)
            clear hx21
            rw [hjl] at hr9
            have HO9 := Lib.hid hr9
            clear hr9
            go_wp2_with fail
            refine (refSameJT A8 A9 _ cA8 _ c9 _ _ HP4.out HO9.out (by omega) (by omega)).mono ?_
            rintro e w22 ⟨rfl, hx22⟩
            replace HX4 := Lib.hid (HX4.out.trans' hx22)
            replace HS4 := Lib.hid (HS4.out.ext hx22)
            replace HP4 := Lib.hid (HP4.out.ext hx22)
            replace HO9 := Lib.hid (HO9.out.ext hx22)
            clear hx22
            go_wp2_with fail
            refine (fillOrder A8 _ cA8 _ _ HP4.out (by omega)).mono ?_
            rintro e w23 ⟨v10, rfl, ho10, hx23⟩
            replace HX4 := Lib.hid (HX4.out.trans' hx23)
            replace HS4 := Lib.hid (HS4.out.ext hx23)
            replace HP4 := Lib.hid (HP4.out.ext hx23)
            replace HO9 := Lib.hid (HO9.out.ext hx23)
            clear hx23
            rw [orderJ_same, orderJ_len, hjl] at ho10
            obtain ⟨A10, c10, rfl, _, hr10⟩ := RdL.of_own encQ_len ho10 (by rw [orderJ_len]; exact hjl)
            have HO10 := Lib.hid hr10
            clear hr10 ho10
            go_wp2_with fail
            refine (refSameJT A10 A8 _ c10 _ cA8 _ _ HO10.out HP4.out (by omega) (by omega)).mono ?_
            rintro e w24 ⟨rfl, hx24⟩
            replace HX4 := Lib.hid (HX4.out.trans' hx24)
            replace HS4 := Lib.hid (HS4.out.ext hx24)
            replace HP4 := Lib.hid (HP4.out.ext hx24)
            replace HO9 := Lib.hid (HO9.out.ext hx24)
            replace HO10 := Lib.hid (HO10.out.ext hx24)
            clear hx24
            go_wp2_with fail
            refine (known15 _).mono ?_
            rintro e w25 ⟨rfl, hx25⟩
            replace HX4 := Lib.hid (HX4.out.trans' hx25)
            replace HS4 := Lib.hid (HS4.out.ext hx25)
            replace HP4 := Lib.hid (HP4.out.ext hx25)
            replace HO9 := Lib.hid (HO9.out.ext hx25)
            replace HO10 := Lib.hid (HO10.out.ext hx25)
            clear hx25
            go_wp2
            (try rw [Exit.noGoto_ret])
            go_ret
            exact ⟨rfl, HX4.out⟩
          | true =>
            have HREV : Hid (orderJ jobs.reverse = orderJ jobs) := orderJ_rev (dist_pair (by rw [hjl]; exact HD.out rfl))
            go_wp2_with fail
            refine (refOrder B m d jobs _ HS4.out (by omega)).mono ?_
            rintro e w21 ⟨A9, c9, rfl, hr9, hc9, hx21⟩
            replace HX4 := Lib.hid (HX4.out.trans' hx21)
            replace HS4 := Lib.hid (HS4.out.ext hx21)
            replace HP4 := Lib.hid (HP4.out.ext hx21)
            replace HB4 := Lib.hid (HB4.out.ext hx21)
            clear hx21
            rw [hjl] at hr9
            have HO9 := Lib.hid hr9
            clear hr9
            go_wp2_with fail
            refine (refSameJT A8 A9 _ cA8 _ c9 _ _ HP4.out HO9.out (by omega) (by omega)).mono ?_
            rintro e w22 ⟨rfl, hx22⟩
            replace HX4 := Lib.hid (HX4.out.trans' hx22)
            replace HS4 := Lib.hid (HS4.out.ext hx22)
            replace HP4 := Lib.hid (HP4.out.ext hx22)
            replace HB4 := Lib.hid (HB4.out.ext hx22)
            replace HO9 := Lib.hid (HO9.out.ext hx22)
            clear hx22
            go_wp2_with fail
            refine (fillOrder A8 _ cA8 _ _ HP4.out (by omega)).mono ?_
            rintro e w23 ⟨v10, rfl, ho10, hx23⟩
            replace HX4 := Lib.hid (HX4.out.trans' hx23)
            replace HS4 := Lib.hid (HS4.out.ext hx23)
            replace HP4 := Lib.hid (HP4.out.ext hx23)
            replace HB4 := Lib.hid (HB4.out.ext hx23)
            replace HO9 := Lib.hid (HO9.out.ext hx23)
            clear hx23
            rw [orderJ_same, orderJ_len, hjl] at ho10
            obtain ⟨A10, c10, rfl, _, hr10⟩ := RdL.of_own encQ_len ho10 (by rw [orderJ_len]; exact hjl)
            have HO10 := Lib.hid hr10
            clear hr10 ho10
            go_wp2_with fail
            refine (refSameJT A10 A8 _ c10 _ cA8 _ _ HO10.out HP4.out (by omega) (by omega)).mono ?_
            rintro e w24 ⟨rfl, hx24⟩
            replace HX4 := Lib.hid (HX4.out.trans' hx24)
            replace HS4 := Lib.hid (HS4.out.ext hx24)
            replace HP4 := Lib.hid (HP4.out.ext hx24)
            replace HB4 := Lib.hid (HB4.out.ext hx24)
            replace HO9 := Lib.hid (HO9.out.ext hx24)
            replace HO10 := Lib.hid (HO10.out.ext hx24)
            clear hx24
            go_wp2_with fail
            refine (fillOrder A4 _ c4 _ _ HB4.out (by omega)).mono ?_
            rintro e w25 ⟨v11, rfl, ho11, hx25⟩
            replace HX4 := Lib.hid (HX4.out.trans' hx25)
            replace HS4 := Lib.hid (HS4.out.ext hx25)
            replace HP4 := Lib.hid (HP4.out.ext hx25)
            replace HB4 := Lib.hid (HB4.out.ext hx25)
            replace HO9 := Lib.hid (HO9.out.ext hx25)
            replace HO10 := Lib.hid (HO10.out.ext hx25)
            clear hx25
            rw [HREV.out, List.length_reverse, hjl] at ho11
            obtain ⟨A11, c11, rfl, _, hr11⟩ := RdL.of_own encQ_len ho11 (by rw [orderJ_len]; exact hjl)
            have HO11 := Lib.hid hr11
            clear hr11 ho11
            go_wp2_with fail
            refine (refSameJT A11 A8 _ c11 _ cA8 _ _ HO11.out HP4.out (by omega) (by omega)).mono ?_
            rintro e w26 ⟨rfl, hx26⟩
            replace HX4 := Lib.hid (HX4.out.trans' hx26)
            replace HS4 := Lib.hid (HS4.out.ext hx26)
            replace HP4 := Lib.hid (HP4.out.ext hx26)
            replace HB4 := Lib.hid (HB4.out.ext hx26)
            replace HO9 := Lib.hid (HO9.out.ext hx26)
            replace HO10 := Lib.hid (HO10.out.ext hx26)
            replace HO11 := Lib.hid (HO11.out.ext hx26)
            clear hx26
            go_wp2_with fail
            refine (known15 _).mono ?_
            rintro e w27 ⟨rfl, hx27⟩
            replace HX4 := Lib.hid (HX4.out.trans' hx27)
            replace HS4 := Lib.hid (HS4.out.ext hx27)
            replace HP4 := Lib.hid (HP4.out.ext hx27)
            replace HB4 := Lib.hid (HB4.out.ext hx27)
            replace HO9 := Lib.hid (HO9.out.ext hx27)
            replace HO10 := Lib.hid (HO10.out.ext hx27)
            replace HO11 := Lib.hid (HO11.out.ext hx27)
            clear hx27
            go_wp2
            (try rw [Exit.noGoto_ret])
            go_ret
            exact ⟨rfl, HX4.out⟩
end Go.Proofs.Ytbcpjdjlgmhohaa
