/-
  Walk: the steps that hold for a while, as a row of the call's own. Conditions: none.
-/
import Derived.Test.YtbcpjdjlgmhohaaWCut
namespace Go.Proofs.Ytbcpjdjlgmhohaa
open Go.RowKit

theorem own_base {w : World} {base base' : Nat} {e : TypeId} {size n : Nat} {v : Value} {xs : List Value} (h : w.ownsRow base e size v n xs) (hb : base' ≤ base) : w.ownsRow base' e size v n xs := by
  refine ⟨h.1, ?_⟩
  rcases h.2 with h1 | ⟨g, cap, cur, h1, h2, h3⟩
  · exact .inl h1
  · exact .inr ⟨g, cap, cur, h1, Nat.le_trans hb h2, h3⟩
def GivesCutO (l : List Stp) (f t : Int) (w : World) (e : Ending) (w' : World) : Prop := ∃ k j v, Holds l f k ∧ CutAt l t k j ∧ e = .returned v ∧ w'.ownsRow w.heap.size 48 2 v j (flat encP (cutTo l f k j)) ∧ Ext w w'

set_option maxRecDepth 100000 in
set_option maxHeartbeats 3200000 in
theorem stepsCutO (A : Option Addr) (n c : Nat) (l : List Stp) (f t : Int) (w : World) (hr : RdP w A n l) (hp : Prof l) (hf : 0 ≤ f ∧ f ≤ 1099511627775) :
    Calls Try.prog 49 #[.slice A n c, .int .i64 f, .int .i64 t] w (GivesCutO l f t w) := by
  have hn : n ≤ 100000 := by have := hp.2.1; have := RdL.len hr; omega
  have HR := Lib.hid hr; clear hr
  have HP := Lib.hid hp; clear hp
  obtain ⟨i0, hi0, hz0, hz1, hz2⟩ := info_parts Try.infoStp
  go_enter Try.func49, Try.ntmps49
  go_wp2_with fail
  refine (stepsPlace A n c l f _ HR.out HP.out hf).mono ?_
  rintro e w1 ⟨k, hk, rfl, hx1⟩
  have hkn : k < n := by
    obtain ⟨⟨a, u, h, _⟩, _⟩ := hk
    have := (List.getElem?_eq_some_iff.1 h).1
    have := RdL.len HR.out
    omega
  have HH := Lib.hid hk; clear hk
  replace HR := Lib.hid (HR.out.ext hx1)
  have HX1 := Lib.hid hx1; clear hx1
  have em := max_go
  go_wp2
  go_loopw [7, 8] (fun v i wr => ∃ j : Nat, k + j ≤ n ∧ i = .int .i64 ((k + j : Nat) : Int) ∧ Hid (∀ (i : Nat) (a u : Int), l[i]? = some (a, u) → k ≤ i → i < k + j → a < t) ∧ wr.ownsRow w1.heap.size 48 2 v j (flat encP (cutTo l f k j)) ∧ Ext w1 wr) (fun _ i _ => n - (intOf i).toNat)
  case atStart => exact ⟨0, by omega, rfl, fun i a u _ h1 h2 => absurd h2 (by omega), by simpa [cutTo, flat] using World.ownsRow_nil _ _ _ _, Ext.rfl'⟩
  case round =>
    obtain ⟨j, hjn, rfl, HI, hown, hext⟩ := hrel
    by_cases hlt : k + j < n
    · obtain ⟨q, Hq⟩ : ∃ q, Hid (k + j = q) := ⟨_, rfl⟩
      rw [Hq.out] at hjn hlt ⊢
      obtain ⟨bb, off, a, u, rfl, hbb, hx, hd0, hd1⟩ := RdP.cut HR.out (k := q) hlt
      have Hx := Lib.hid hx; clear hx
      replace hd0 := hext.cell' hd0
      replace hd1 := hext.cell' hd1
      have hbw : bb < wr.heap.size := by have := hext.size; omega
      have hne : u7.ownBlock ≠ some bb := fun e => by have := (hown.lt _ e).1; omega
      have hjq : j ≤ q := by have := Hq.out; omega
      have hi0' : (0 : Int) ≤ (q : Int) := Int.natCast_nonneg _
      have hi1 : (q : Int) < (n : Int) := by omega
      have Hext := Lib.hid hext; clear hext
      by_cases hlt2 : a < t
      · have HN : Hid (∀ (i : Nat) (a u : Int), l[i]? = some (a, u) → k ≤ i → i < k + (j + 1) → a < t) := fun i a' u' hi h1 h2 => by
          rcases Nat.lt_or_ge i (k + j) with h | h
          · exact HI.out i a' u' hi h1 h
          · obtain rfl : i = q := by have := Hq.out; omega
            have := hi.symm.trans Hx.out; injection this with this; injection this with e1 e2; omega
        have HC : Hid (cutTo l f k (j + 1) = cutTo l f k j ++ [(max a f, u)]) := cutTo_snoc (by rw [Hq.out]; exact Hx.out)
        obtain ⟨F, HF⟩ : ∃ F, Hid (F = flat encP (cutTo l f k j)) := ⟨_, rfl⟩
        rw [← HF.out] at hown
        go_wp2_with fail
        go_region_held3 (fun w' => w'.cell? ⟨bb, off + q * 2, none⟩ = some (.int .i64 a) ∧ w'.cell? ⟨bb, off + q * 2 + 1, none⟩ = some (.int .i64 u))
          (first
            | go_keep
            | (go_split_ands; exact ⟨by rw [hgrow.cell_far _ (by simp; omega) (Ne.symm hne)]; assumption, by rw [hgrow.cell_far _ (by simp; omega) (Ne.symm hne)]; assumption⟩))
          ((refine step_append_lies _ (by rfl) _ _ _ (by rfl) w1.heap.size 48 i0 _ 2 16 Try.underlying22 hi0 hz0 hz1 hz2 rfl (by omega) u7 j F (by rfl) ((hown.alloc _).drew)
              ⟨wr.heap.size, 0, none⟩ 1 1 [.int .i64 (max a f), .int .i64 u] (by rfl) (by rfl) (World.news_of_block (cs := #[.int .i64 (max a f), .int .i64 u]) (t := 48) (fr := (0, 0)) (heap_alloc_new wr _)) (by simp [Value.oneCell'])
              (by omega) (by simp only [maxLen]; omega) (by omega) (by have := Hext.out.size; simp; omega) (wr.heap.size + 1) (by simp) ?_; intro gg cap w2 hown1 hgrow hat hlt3))
        have HO : Hid (w2.ownsRow w1.heap.size 48 2 (.slice (some ⟨gg, 0, none⟩) (j + 1) cap) (j + 1) (flat encP (cutTo l f k (j + 1)))) := by
          show World.ownsRow _ _ _ _ _ _ _
          rw [HC.out, flat_append, flat_one, ← HF.out]
          exact hown1
        have HX : Hid (Ext w1 w2) := (Hext.out.alloc Hext.out.size _).drew.grown hgrow (by have := Hext.out.size; simp; omega) (fun z hz => (hown.lt z hz).1)
        clear hown1 hgrow hat hlt3 hown
        go_wp2
        go_roundw
        case rel => exact ⟨j + 1, by have := Hq.out; omega, by have := Hq.out; rw [← Nat.add_assoc, this]; go_num, HN, HO, HX⟩
        case measure => simp [intOf]; omega
      · have HE : Hid (CutAt l t k j) := ⟨by have := RdL.len HR.out; have := Hq.out; omega, HI.out, .inr ⟨a, u, by rw [Hq.out]; exact Hx.out, by omega⟩⟩
        have hl := cutTo_len (f := f) HE.out.1
        have Hr := Lib.hid (own_base hown HX1.out.size)
        clear hown hl
        go_wp2
        go_ret
        exact ⟨k, j, _, HH.out, HE.out, rfl, Hr.out, HX1.out.trans' Hext.out⟩
    · have HE : Hid (CutAt l t k j) := ⟨by have := RdL.len HR.out; omega, HI.out, .inl (by have := RdL.len HR.out; omega)⟩
      have hl := cutTo_len (f := f) HE.out.1
      have Hr := Lib.hid (own_base hown HX1.out.size)
      have dn : decide (((k + j : Nat) : Int) < (n : Int)) = false := by simp; omega
      have dn2 : decide ((k : Int) + (j : Int) < (n : Int)) = false := by simp; omega
      have Hext := Lib.hid hext
      clear hown hl hext
      go_wp2
      go_ret
      exact ⟨k, j, _, HH.out, HE.out, rfl, Hr.out, HX1.out.trans' Hext.out⟩
end Go.Proofs.Ytbcpjdjlgmhohaa
