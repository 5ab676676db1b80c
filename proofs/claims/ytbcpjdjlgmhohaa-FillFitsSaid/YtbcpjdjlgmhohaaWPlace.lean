/-
  Walks: the place of the step that holds at a time. Conditions: none.
-/
import Derived.Test.YtbcpjdjlgmhohaaWEnds
import Derived.Test.YtbcpjdjlgmhohaaMBase
namespace Go.Proofs.Ytbcpjdjlgmhohaa
open Go.RowKit

theorem place1 (a u t : Int) (w : World) (ha : 0 ≤ a ∧ a ≤ 1099511627775) (ht : 0 ≤ t ∧ t ≤ 1099511627775) :
    Calls Try.prog 65 #[.agg #[.int .i64 a, .int .i64 u], .int .i64 t] w fun e w' => e = .returned (.int .i64 (a - t)) ∧ Ext w w' := by
  obtain ⟨a0, a1⟩ := ha
  obtain ⟨t0, t1⟩ := ht
  go_enter Try.func65, Try.ntmps65
  go_wp2
  go_ret
  exact ⟨rfl, (Below.refl _ _).alloc (Nat.le_refl _) _⟩
theorem stepsFree (a u a' u' : Int) (w : World) (hu : 0 ≤ u ∧ u ≤ 20000) (hu' : 0 ≤ u' ∧ u' ≤ 20000) :
    Calls Try.prog 63 #[.agg #[.int .i64 a, .int .i64 u], .agg #[.int .i64 a', .int .i64 u']] w fun e w' => e = .returned (.int .i64 (u - u')) ∧ Ext w w' := by
  obtain ⟨a0, a1⟩ := hu
  obtain ⟨t0, t1⟩ := hu'
  go_enter Try.func63, Try.ntmps63
  go_wp2
  go_ret
  exact ⟨rfl, ((Below.refl _ _).alloc (Nat.le_refl _) _).alloc (by simp) _⟩

/-- so many are ahead of t -/
def Split (l : List Stp) (t : Int) (i : Nat) : Prop := i ≤ l.length ∧ (∀ (k : Nat) (a u : Int), l[k]? = some (a, u) → k < i → a < t) ∧ ∀ (k : Nat) (a u : Int), l[k]? = some (a, u) → i ≤ k → t ≤ a
def GivesBS (l : List Stp) (t : Int) (w : World) (e : Ending) (w' : World) : Prop := ∃ (i : Nat) (v : Bool), Split l t i ∧ (v = true ↔ ∃ u, l[i]? = some (t, u)) ∧ e = .returned (.tuple #[.int .i64 i, .bool v]) ∧ Ext w w'

set_option maxHeartbeats 2000000 in
theorem binSearch (A : Option Addr) (n c : Nat) (l : List Stp) (t : Int) (w : World) (hr : RdP w A n l) (hn : n ≤ 100000) (hp : Asc l) (hl : ∀ (i : Nat) (a f : Int), l[i]? = some (a, f) → 0 ≤ a ∧ a ≤ 1099511627775) (ht : 0 ≤ t ∧ t ≤ 1099511627775) :
    Calls Try.prog 64 #[.slice A n c, .int .i64 t, .func (.func 65) #[] #[]] w (GivesBS l t w) := by
  have HR := Lib.hid hr; clear hr
  have HL := Lib.hid hl; clear hl
  have HA : Hid (∀ (i j : Nat) (a u a' u' : Int), l[i]? = some (a, u) → l[j]? = some (a', u') → i < j → a < a') := fun i j a u a' u' h1 h2 hij => by
    obtain ⟨h3, h4⟩ := List.getElem?_eq_some_iff.1 h1
    obtain ⟨h5, h6⟩ := List.getElem?_eq_some_iff.1 h2
    have := (List.pairwise_iff_getElem.1 hp) i j h3 h5 hij
    rw [h4, h6] at this
    exact this
  clear hp
  obtain ⟨t0, t1⟩ := ht
  go_enter Try.func64, Try.ntmps64
  go_wp2
  go_loopw [9, 10] (fun x y wr => ∃ i j : Nat, i ≤ j ∧ j ≤ n ∧ x = .int .i64 i ∧ y = .int .i64 j ∧ Hid ((∀ (k : Nat) (a u : Int), l[k]? = some (a, u) → k < i → a < t) ∧ ∀ (k : Nat) (a u : Int), l[k]? = some (a, u) → j ≤ k → t ≤ a) ∧ Ext w wr) (fun x y _ => (intOf y - intOf x).toNat)
  case atStart => exact ⟨0, n, by omega, by omega, rfl, rfl, ⟨fun k a u _ h => absurd h (by omega), fun k a u h h' => by have := (List.getElem?_eq_some_iff.1 h).1; have := RdL.len HR.out; omega⟩, Ext.rfl'⟩
  case round =>
    obtain ⟨i, j, hij, hjn, rfl, rfl, HI, hext⟩ := hrel
    by_cases hlt : i < j
    · obtain ⟨M, HM⟩ : ∃ M, Hid ((i + j) / 2 = M) := ⟨_, rfl⟩
      have hM : i ≤ M ∧ M < j := by have := HM.out; omega
      obtain ⟨M0, M1⟩ := hM
      obtain ⟨bb, off, a, u, rfl, hbb, hx, hd0, hd1⟩ := RdP.cut HR.out (k := M) (by omega)
      have Hx := Lib.hid hx; clear hx
      obtain ⟨a0, a1⟩ := HL.out _ _ _ Hx.out
      replace hd0 := hext.cell' hd0
      replace hd1 := hext.cell' hd1
      rw [← HM.out] at hd0 hd1
      have Hext := Lib.hid hext; clear hext
      have em : (((i : Int) + (j : Int)) / 2) = (M : Int) := by have := HM.out; omega
      replace em := Lib.hid em
      by_cases hlt2 : a < t
      · have HN : Hid ((∀ (k : Nat) (a u : Int), l[k]? = some (a, u) → k < M + 1 → a < t) ∧ ∀ (k : Nat) (a u : Int), l[k]? = some (a, u) → j ≤ k → t ≤ a) := by
          refine ⟨fun k a' u' hk hkM => ?_, HI.out.2⟩
          rcases Nat.lt_or_ge k M with h | h
          · have := HA.out k M _ _ _ _ hk Hx.out h; omega
          · obtain rfl : k = M := by omega
            have := hk.symm.trans Hx.out; injection this with this; injection this with e1 e2; omega
        go_wp2_with fail
        refine (place1 a u t _ ⟨a0, a1⟩ ⟨t0, t1⟩).mono ?_
        rintro e w2 ⟨rfl, hx2⟩
        have HX2 := Lib.hid (Hext.out.trans' hx2); clear hx2
        go_wp2
        go_roundw
        case rel => exact ⟨M + 1, j, by omega, by omega, by rw [em.out]; go_num, rfl, HN, HX2.out⟩
        case measure => simp [intOf]; omega
      · have HN : Hid ((∀ (k : Nat) (a u : Int), l[k]? = some (a, u) → k < i → a < t) ∧ ∀ (k : Nat) (a u : Int), l[k]? = some (a, u) → M ≤ k → t ≤ a) := by
          refine ⟨HI.out.1, fun k a' u' hk hkM => ?_⟩
          rcases Nat.lt_or_ge M k with h | h
          · have := HA.out M k _ _ _ _ Hx.out hk h; omega
          · obtain rfl : k = M := by omega
            have := hk.symm.trans Hx.out; injection this with this; injection this with e1 e2; omega
        go_wp2_with fail
        refine (place1 a u t _ ⟨a0, a1⟩ ⟨t0, t1⟩).mono ?_
        rintro e w2 ⟨rfl, hx2⟩
        have HX2 := Lib.hid (Hext.out.trans' hx2); clear hx2
        go_wp2
        go_roundw
        case rel => exact ⟨i, M, by omega, by omega, rfl, by rw [em.out], HN, HX2.out⟩
        case measure => simp [intOf]; omega
    · obtain rfl : i = j := by omega
      have HS : Hid (Split l t i) := ⟨by have := RdL.len HR.out; omega, HI.out⟩
      clear HI
      have Hext := Lib.hid hext; clear hext
      by_cases hin : i < n
      · obtain ⟨bb, off, a, u, rfl, hbb, hx, hd0, hd1⟩ := RdP.cut HR.out (k := i) hin
        have Hx := Lib.hid hx; clear hx
        obtain ⟨a0, a1⟩ := HL.out _ _ _ Hx.out
        replace hd0 := Hext.out.cell' hd0
        replace hd1 := Hext.out.cell' hd1
        by_cases hat : a = t
        · have HV : Hid (∃ u, l[i]? = some (t, u)) := ⟨u, by rw [Hx.out, hat]⟩
          have d0 : (a - t == 0) = true := by rw [beq_iff_eq]; omega
          replace hat := Lib.hid hat
          go_wp2_with fail
          refine (place1 a u t _ ⟨a0, a1⟩ ⟨t0, t1⟩).mono ?_
          rintro e w2 ⟨rfl, hx2⟩
          have HX2 := Lib.hid (Hext.out.trans' hx2); clear hx2
          go_wp2
          go_ret2
          exact ⟨i, true, HS.out, ⟨fun _ => HV.out, fun _ => rfl⟩, rfl, HX2.out⟩
        · have HV : Hid (¬ ∃ u, l[i]? = some (t, u)) := (fun ⟨u', h⟩ => by rw [Hx.out] at h; injection h with h; injection h with h _; exact absurd h hat)
          have d0 : (a - t == 0) = false := by rw [beq_eq_false_iff_ne]; omega
          replace hat := Lib.hid hat
          go_wp2_with fail
          refine (place1 a u t _ ⟨a0, a1⟩ ⟨t0, t1⟩).mono ?_
          rintro e w2 ⟨rfl, hx2⟩
          have HX2 := Lib.hid (Hext.out.trans' hx2); clear hx2
          go_wp2
          go_ret2
          exact ⟨i, false, HS.out, ⟨(fun h => by cases h), fun h => absurd h HV.out⟩, rfl, HX2.out⟩
      · have HV : Hid (¬ ∃ u, l[i]? = some (t, u)) := (fun ⟨u', h⟩ => by have := (List.getElem?_eq_some_iff.1 h).1; have := RdL.len HR.out; omega)
        have dn : decide ((i : Int) < (n : Int)) = false := by simp; omega
        go_wp2
        go_ret2
        exact ⟨i, false, HS.out, ⟨(fun h => by cases h), fun h => absurd h HV.out⟩, rfl, Hext.out⟩

/-- the step k holds at t -/
def Holds (l : List Stp) (t : Int) (k : Nat) : Prop := (∃ a u, l[k]? = some (a, u) ∧ a ≤ t) ∧ ∀ (j : Nat) (a u : Int), l[j]? = some (a, u) → k < j → t < a
def GivesPlace (l : List Stp) (t : Int) (w : World) (e : Ending) (w' : World) : Prop := ∃ k : Nat, Holds l t k ∧ e = .returned (.int .i64 k) ∧ Ext w w'
theorem stepsPlace (A : Option Addr) (n c : Nat) (l : List Stp) (t : Int) (w : World) (hr : RdP w A n l) (hp : Prof l) (ht : 0 ≤ t ∧ t ≤ 1099511627775) :
    Calls Try.prog 50 #[.slice A n c, .int .i64 t] w (GivesPlace l t w) := by
  have hn : n ≤ 100000 := by have := hp.2.1; have := RdL.len hr; omega
  have hA : ∀ (i j : Nat) (a u a' u' : Int), l[i]? = some (a, u) → l[j]? = some (a', u') → i < j → a < a' := fun i j a u a' u' h1 h2 hij => by
    obtain ⟨h3, h4⟩ := List.getElem?_eq_some_iff.1 h1
    obtain ⟨h5, h6⟩ := List.getElem?_eq_some_iff.1 h2
    have := (List.pairwise_iff_getElem.1 hp.asc) i j h3 h5 hij
    rw [h4, h6] at this
    exact this
  have HR := Lib.hid hr; clear hr
  have HP := Lib.hid hp; clear hp
  have HA := Lib.hid hA; clear hA
  go_enter Try.func50, Try.ntmps50
  go_wp2_with fail
  refine (binSearch A n c l t _ HR.out hn HP.out.asc HP.out.times ht).mono ?_
  rintro e w2 ⟨i, v, hs, hv, rfl, hx2⟩
  have HX2 := Lib.hid hx2; clear hx2
  obtain ⟨hil, h1, h2⟩ := hs
  cases v with
  | true =>
    obtain ⟨u, hu⟩ := hv.1 rfl
    have HH : Hid (Holds l t i) := ⟨⟨t, u, hu, Int.le_refl _⟩, fun j a u' hj hij => HA.out i j _ _ _ _ hu hj hij⟩
    clear h1 h2 hv hu
    go_wp2
    go_ret
    exact ⟨i, HH.out, rfl, HX2.out⟩
  | false =>
    have hpos : 0 < i := by
      rcases Nat.eq_zero_or_pos i with h0 | h0
      · exfalso
        subst h0
        obtain ⟨⟨a, u⟩, hau⟩ : ∃ s, l[0]? = some s := ⟨_, List.getElem?_eq_getElem HP.out.1⟩
        have e0 := HP.out.2.2.1 a u hau
        have e1 := h2 0 a u hau (by omega)
        have e2 : t = 0 := by omega
        have := hv.2 ⟨u, by rw [hau, e0, e2]⟩
        cases this
      · exact h0
    obtain ⟨m, rfl⟩ : ∃ m, i = m + 1 := ⟨i - 1, by omega⟩
    have HH : Hid (Holds l t m) := by
      obtain ⟨⟨a, u⟩, hau⟩ : ∃ s, l[m]? = some s := ⟨_, List.getElem?_eq_getElem (by omega)⟩
      refine ⟨⟨a, u, hau, by have := h1 m a u hau (by omega); omega⟩, fun j a' u' hj hij => ?_⟩
      have := h2 j a' u' hj (by omega)
      rcases Int.lt_or_le t a' with h | h
      · exact h
      · exfalso
        have e : a' = t := by omega
        subst e
        rcases Nat.lt_or_ge (m + 1) j with h' | h'
        · obtain ⟨⟨b, v⟩, hb⟩ : ∃ s, l[m + 1]? = some s := ⟨_, List.getElem?_eq_getElem (by have := (List.getElem?_eq_some_iff.1 hj).1; omega)⟩
          have q1 := h2 (m + 1) b v hb (by omega)
          have q2 := HA.out _ _ _ _ _ _ hb hj h'
          omega
        · obtain rfl : j = m + 1 := by omega
          have := hv.2 ⟨u', hj⟩
          cases this
    have hmb : m < 100000 := by have := RdL.len HR.out; omega
    clear h1 h2 hv
    go_wp2
    go_ret
    exact ⟨m, HH.out, rfl, HX2.out⟩
end Go.Proofs.Ytbcpjdjlgmhohaa
