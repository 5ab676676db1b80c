/-
  Walk: the document's profile with so many more for a while. Conditions: none.
-/
import Derived.Test.YtbcpjdjlgmhohaaMPA
import Derived.Test.YtbcpjdjlgmhohaaWTimes9
import Derived.Test.YtbcpjdjlgmhohaaWPush
namespace Go.Proofs.Ytbcpjdjlgmhohaa
open Go.RowKit
set_option linter.unusedVariables false
set_option linter.unusedSimpArgs false

def GivesAdd (l : List Stp) (f t k : Int) (w : World) (e : Ending) (w' : World) : Prop := ∃ A m c, e = .returned (.tuple #[.slice A m c, .int .i64 (addE l f t k)]) ∧ RdP w' A m (addR l f t k) ∧ m ≤ c ∧ Ext w w'
def GivesAddO (l : List Stp) (f t k : Int) (w : World) (e : Ending) (w' : World) : Prop := ∃ v', e = .returned (.tuple #[v', .int .i64 (addE l f t k)]) ∧ w'.ownsRow w.heap.size 48 2 v' (addR l f t k).length (flat encP (addR l f t k)) ∧ Ext w w'
theorem GivesAddO.rd {l : List Stp} {f t k : Int} {w : World} {e : Ending} {w' : World} (h : GivesAddO l f t k w e w') : GivesAdd l f t k w e w' := by
  obtain ⟨v', he, ho, hx⟩ := h
  obtain ⟨A, c, rfl, hc, hr⟩ := RdL.of_own encP_len ho rfl
  exact ⟨A, _, c, he, hr, hc, hx⟩
theorem rdP_none (w : World) : RdP w none 0 [] := ⟨encP_len, rfl, Rd.nil' _ _ _⟩

set_option maxHeartbeats 1000000 in
theorem refAdd_bad (A : Option Addr) (n c : Nat) (l : List Stp) (f t k : Int) (w : World) (hr : RdP w A n l) (hn : n ≤ 19000) (hbad : ¬ AddArg l f t k) :
    Calls Try.prog 31 #[.slice A n c, .int .i64 f, .int .i64 t, .int .i64 k] w (GivesAddO l f t k w) := by
  have HR := Lib.hid hr; clear hr
  have HE := Lib.hid (add_bad hbad).1
  have HL := Lib.hid (add_bad hbad).2
  rcases chkE_cases l with ⟨hp, hc⟩ | ⟨hp, hc⟩
  case inr =>
    have HC := Lib.hid hc; clear hc hbad hp
    go_enter Try.func31, Try.ntmps31
    go_wp2_with (first | (go_at_call 43; refine (refCheck A n c l _ HR.out (by omega)).mono ?_; rintro e w1 ⟨rfl, hx1⟩; have Hx1 := Lib.hid hx1; clear hx1; rw [HC.out]))
    (try rw [Exit.noGoto_ret])
    go_ret2
    exact ⟨.slice none 0 0, by rw [HE.out]; rfl, by rw [HL.out]; exact World.ownsRow_nil _ _ _ _, Hx1.out⟩
  have HC := Lib.hid hc; clear hc
  by_cases cf : isT f = false
  · clear hbad hp
    go_enter Try.func31, Try.ntmps31
    go_wp2_with (first | (go_at_call 43; refine (refCheck A n c l _ HR.out (by omega)).mono ?_; rintro e w1 ⟨rfl, hx1⟩; have Hx1 := Lib.hid hx1; clear hx1; rw [HC.out]) | (go_at_call 44; refine (refIsV ‹_› _).mono ?_; rintro e w' ⟨rfl, rfl⟩))
    (try rw [Exit.noGoto_ret])
    go_ret2
    exact ⟨.slice none 0 0, by rw [HE.out]; rfl, by rw [HL.out]; exact World.ownsRow_nil _ _ _ _, Hx1.out⟩
  replace cf : isT f = true := by simpa using cf
  by_cases ct : isT t = false
  · clear hbad hp
    go_enter Try.func31, Try.ntmps31
    go_wp2_with (first | (go_at_call 43; refine (refCheck A n c l _ HR.out (by omega)).mono ?_; rintro e w1 ⟨rfl, hx1⟩; have Hx1 := Lib.hid hx1; clear hx1; rw [HC.out]) | (go_at_call 44; refine (refIsV ‹_› _).mono ?_; rintro e w' ⟨rfl, rfl⟩))
    (try rw [Exit.noGoto_ret])
    go_ret2
    exact ⟨.slice none 0 0, by rw [HE.out]; rfl, by rw [HL.out]; exact World.ownsRow_nil _ _ _ _, Hx1.out⟩
  replace ct : isT t = true := by simpa using ct
  by_cases hft : t < f
  · clear hbad hp
    go_enter Try.func31, Try.ntmps31
    go_wp2_with (first | (go_at_call 43; refine (refCheck A n c l _ HR.out (by omega)).mono ?_; rintro e w1 ⟨rfl, hx1⟩; have Hx1 := Lib.hid hx1; clear hx1; rw [HC.out]) | (go_at_call 44; refine (refIsV ‹_› _).mono ?_; rintro e w' ⟨rfl, rfl⟩))
    (try rw [Exit.noGoto_ret])
    go_ret2
    exact ⟨.slice none 0 0, by rw [HE.out]; rfl, by rw [HL.out]; exact World.ownsRow_nil _ _ _ _, Hx1.out⟩
  by_cases hk : 10000 < k
  · clear hbad hp
    go_enter Try.func31, Try.ntmps31
    go_wp2_with (first | (go_at_call 43; refine (refCheck A n c l _ HR.out (by omega)).mono ?_; rintro e w1 ⟨rfl, hx1⟩; have Hx1 := Lib.hid hx1; clear hx1; rw [HC.out]) | (go_at_call 44; refine (refIsV ‹_› _).mono ?_; rintro e w' ⟨rfl, rfl⟩))
    (try rw [Exit.noGoto_ret])
    go_ret2
    exact ⟨.slice none 0 0, by rw [HE.out]; rfl, by rw [HL.out]; exact World.ownsRow_nil _ _ _ _, Hx1.out⟩
  by_cases hk2 : k < -10000
  · clear hbad hp
    go_enter Try.func31, Try.ntmps31
    go_wp2_with (first | (go_at_call 43; refine (refCheck A n c l _ HR.out (by omega)).mono ?_; rintro e w1 ⟨rfl, hx1⟩; have Hx1 := Lib.hid hx1; clear hx1; rw [HC.out]) | (go_at_call 44; refine (refIsV ‹_› _).mono ?_; rintro e w' ⟨rfl, rfl⟩))
    (try rw [Exit.noGoto_ret])
    go_ret2
    exact ⟨.slice none 0 0, by rw [HE.out]; rfl, by rw [HL.out]; exact World.ownsRow_nil _ _ _ _, Hx1.out⟩
  exact absurd ⟨hp, cf, ct, by omega, by omega, by omega⟩ hbad

set_option maxRecDepth 100000 in
set_option maxHeartbeats 8000000 in
theorem refAdd_ok (A : Option Addr) (n c : Nat) (l : List Stp) (f t k : Int) (w : World) (hr : RdP w A n l) (hn : n ≤ 19000) (hok : AddArg l f t k) :
    Calls Try.prog 31 #[.slice A n c, .int .i64 f, .int .i64 t, .int .i64 k] w (GivesAddO l f t k w) := by
  have HR := Lib.hid hr; clear hr
  have HAA := Lib.hid hok
  obtain ⟨hp, cf, ct, hft, k0, k1⟩ := hok
  have HC := Lib.hid (chkE_t hp)
  have HPF := Lib.hid hp.free
  clear hp
  go_enter Try.func31, Try.ntmps31
  go_wp2_with (first | (go_at_call 43; refine (refCheck A n c l _ HR.out (by omega)).mono ?_; rintro e w1 ⟨rfl, hx1⟩; have Hx1 := Lib.hid hx1; clear hx1; rw [HC.out]) | (go_at_call 44; refine (refIsV ‹_› _).mono ?_; rintro e w' ⟨rfl, rfl⟩))
  refine (refTimes9 A none n 0 c 0 l [] f t _ (HR.out.ext Hx1.out) (rdP_none _) (by omega) (by omega)).mono ?_
  rintro e w2 ⟨B, d, rfl, hr2, hx2⟩
  obtain ⟨ts, Hts⟩ : ∃ ts, Hid (timesR l [] f t = ts) := ⟨_, rfl⟩
  obtain ⟨N, HN0⟩ : ∃ N, Hid (ts.length = N) := ⟨_, rfl⟩
  rw [Hts.out, HN0.out] at hr2
  rw [Hts.out, HN0.out]
  have hNle : N ≤ 19002 := by
    have h1 := timesR_len l [] f t
    have h2 := RdL.len HR.out
    rw [Hts.out, HN0.out] at h1
    simp at h1; omega
  have HT := Lib.hid hr2
  have HX2 := Lib.hid (Hx1.out.trans' hx2)
  clear hr2 hx2 Hx1 cf ct
  obtain ⟨w1, HW1⟩ : ∃ w1 : World, w1 = w2 := ⟨_, rfl⟩
  subst HW1
  have Hx1 := HX2
  clear HX2
  replace HR := Lib.hid (HR.out.ext Hx1.out)
  go_wp2
  go_loopw [11, 13] (fun v i wr => ∃ q : Nat, q ≤ N ∧ i = .int .i64 q ∧ wr.ownsRow w1.heap.size 48 2 v (tid (samp (gAdd l f t k) (ts.take q))).length (flat encP (tid (samp (gAdd l f t k) (ts.take q)))) ∧ Hid (∀ y ∈ ts.take q, 0 ≤ gAdd l f t k y ∧ gAdd l f t k y ≤ 10000) ∧ Ext w1 wr) (fun _ i _ => N - (intOf i).toNat)
  case atStart => exact ⟨0, by omega, rfl, by simpa [flat, samp, tid] using World.ownsRow_nil _ _ _ _, (fun y hy => by simp at hy), Ext.rfl'⟩
  case round =>
    obtain ⟨q, hq, rfl, hown, HRO, hext⟩ := hrel
    obtain ⟨O, HO⟩ : ∃ O, Hid (tid (samp (gAdd l f t k) (ts.take q)) = O) := ⟨_, rfl⟩
    obtain ⟨L, HL⟩ : ∃ L, Hid (O.length = L) := ⟨_, rfl⟩
    rw [HO.out, HL.out] at hown
    have hLq : L ≤ q := by
      have h1 := tid_len (samp (gAdd l f t k) (ts.take q))
      rw [samp_len, HO.out, HL.out] at h1
      have := List.length_take_le q ts
      omega
    have HOW := Lib.hid hown
    have Hext := Lib.hid hext
    clear hown hext
    by_cases hlt : q < N
    · obtain ⟨bb, off, x, rfl, _, hx, hd0⟩ := RdI.cut HT.out (k := q) hlt
      replace hd0 := Hext.out.cell' hd0
      have Hx := Lib.hid hx
      have Hxm : Hid (x ∈ timesR l [] f t) := by show _ ∈ _; rw [Hts.out]; exact List.mem_of_getElem? hx
      obtain ⟨z, HZ⟩ : ∃ z, Hid (freeT l x = z) := ⟨_, rfl⟩
      have hz : 0 ≤ z ∧ z ≤ 10000 := by have := HPF.out x; rwa [HZ.out] at this
      obtain ⟨z0, z1⟩ := hz
      have hi0' : (0 : Int) ≤ (q : Int) := Int.natCast_nonneg _
      have hi1 : (q : Int) < (N : Int) := by omega
      clear hx
      by_cases h1 : f ≤ x
      · by_cases h2 : x < t
        · have HG : Hid (gAdd l f t k x = z + k) := by show _ = _; unfold gAdd; rw [if_pos ⟨h1, h2⟩, HZ.out]
          by_cases hr0 : 0 ≤ z + k ∧ z + k ≤ 10000
          · obtain ⟨r0, r1⟩ := hr0
            have HRN : Hid (∀ y ∈ ts.take (q + 1), 0 ≤ gAdd l f t k y ∧ gAdd l f t k y ≤ 10000) := fun y hy => by
              rw [take_snoc' Hx.out] at hy
              rcases List.mem_append.1 hy with hy | hy
              · exact HRO.out y hy
              · simp at hy; subst hy; rw [HG.out]; omega
            have HN : Hid (tid (samp (gAdd l f t k) (ts.take (q + 1))) = pushT O (x, z + k)) := by
              show _ = _
              rw [take_snoc' Hx.out, samp_snoc, tid_snoc, HG.out, HO.out]
            go_wp2_with fail
            refine (refFree A n c l x _ (HR.out.ext Hext.out) (by omega)).mono ?_
            rintro e w' ⟨rfl, rfl⟩
            rw [HZ.out]
            go_wp2_with fail
            refine (refPush w1.heap.size _ L O x (z + k) _ HOW.out HL.out (by omega) Hext.out.size).mono ?_
            rintro e w4 ⟨v', rfl, hown4, hb4⟩
            have HO4 := Lib.hid hown4
            have HX4 : Hid (Ext w1 w4) := hb4 _ Hext.out
            clear hown4 hb4
            go_wp2
            go_roundw
            case rel => exact ⟨q + 1, by omega, by go_num, by rw [HN.out]; exact HO4.out, HRN, HX4.out⟩
            case measure => simp [intOf]; omega
          · have HF := Lib.hid (add_full HAA.out (fun h => hr0 (by have := (room_times HAA.out.1).1 h x Hxm.out; rwa [HG.out] at this)))
            by_cases hlo : z + k < 0
            · skip
              go_wp2_with fail
              refine (refFree A n c l x _ (HR.out.ext Hext.out) (by omega)).mono ?_
              rintro e w' ⟨rfl, rfl⟩
              rw [HZ.out]
              go_wp2
              (try rw [Exit.noGoto_ret])
              go_ret2
              exact ⟨.slice none 0 0, by rw [HF.out.1]; rfl, by rw [HF.out.2]; exact World.ownsRow_nil _ _ _ _, Hx1.out.trans' Hext.out⟩
            · have hhi : 10000 < z + k := by omega
              go_wp2_with fail
              refine (refFree A n c l x _ (HR.out.ext Hext.out) (by omega)).mono ?_
              rintro e w' ⟨rfl, rfl⟩
              rw [HZ.out]
              go_wp2
              (try rw [Exit.noGoto_ret])
              go_ret2
              exact ⟨.slice none 0 0, by rw [HF.out.1]; rfl, by rw [HF.out.2]; exact World.ownsRow_nil _ _ _ _, Hx1.out.trans' Hext.out⟩
        · have HG : Hid (gAdd l f t k x = z) := by show _ = _; unfold gAdd; rw [if_neg (fun h => h2 h.2), HZ.out, Int.add_zero]
          by_cases hr0 : 0 ≤ z ∧ z ≤ 10000
          · obtain ⟨r0, r1⟩ := hr0
            have HRN : Hid (∀ y ∈ ts.take (q + 1), 0 ≤ gAdd l f t k y ∧ gAdd l f t k y ≤ 10000) := fun y hy => by
              rw [take_snoc' Hx.out] at hy
              rcases List.mem_append.1 hy with hy | hy
              · exact HRO.out y hy
              · simp at hy; subst hy; rw [HG.out]; omega
            have HN : Hid (tid (samp (gAdd l f t k) (ts.take (q + 1))) = pushT O (x, z)) := by
              show _ = _
              rw [take_snoc' Hx.out, samp_snoc, tid_snoc, HG.out, HO.out]
            go_wp2_with fail
            refine (refFree A n c l x _ (HR.out.ext Hext.out) (by omega)).mono ?_
            rintro e w' ⟨rfl, rfl⟩
            rw [HZ.out]
            go_wp2_with fail
            refine (refPush w1.heap.size _ L O x (z) _ HOW.out HL.out (by omega) Hext.out.size).mono ?_
            rintro e w4 ⟨v', rfl, hown4, hb4⟩
            have HO4 := Lib.hid hown4
            have HX4 : Hid (Ext w1 w4) := hb4 _ Hext.out
            clear hown4 hb4
            go_wp2
            go_roundw
            case rel => exact ⟨q + 1, by omega, by go_num, by rw [HN.out]; exact HO4.out, HRN, HX4.out⟩
            case measure => simp [intOf]; omega
          · exact absurd ⟨z0, z1⟩ hr0
      · have HG : Hid (gAdd l f t k x = z) := by show _ = _; unfold gAdd; rw [if_neg (fun h => h1 h.1), HZ.out, Int.add_zero]
        by_cases hr0 : 0 ≤ z ∧ z ≤ 10000
        · obtain ⟨r0, r1⟩ := hr0
          have HRN : Hid (∀ y ∈ ts.take (q + 1), 0 ≤ gAdd l f t k y ∧ gAdd l f t k y ≤ 10000) := fun y hy => by
            rw [take_snoc' Hx.out] at hy
            rcases List.mem_append.1 hy with hy | hy
            · exact HRO.out y hy
            · simp at hy; subst hy; rw [HG.out]; omega
          have HN : Hid (tid (samp (gAdd l f t k) (ts.take (q + 1))) = pushT O (x, z)) := by
            show _ = _
            rw [take_snoc' Hx.out, samp_snoc, tid_snoc, HG.out, HO.out]
          go_wp2_with fail
          refine (refFree A n c l x _ (HR.out.ext Hext.out) (by omega)).mono ?_
          rintro e w' ⟨rfl, rfl⟩
          rw [HZ.out]
          go_wp2_with fail
          refine (refPush w1.heap.size _ L O x (z) _ HOW.out HL.out (by omega) Hext.out.size).mono ?_
          rintro e w4 ⟨v', rfl, hown4, hb4⟩
          have HO4 := Lib.hid hown4
          have HX4 : Hid (Ext w1 w4) := hb4 _ Hext.out
          clear hown4 hb4
          go_wp2
          go_roundw
          case rel => exact ⟨q + 1, by omega, by go_num, by rw [HN.out]; exact HO4.out, HRN, HX4.out⟩
          case measure => simp [intOf]; omega
        · exact absurd ⟨z0, z1⟩ hr0
    · obtain rfl : q = N := by omega
      have HE : Hid (ts.take q = ts) := take_all' HN0.out (Nat.le_refl _)
      have HRm : Hid (Room l f t k) := (room_times HAA.out.1).2 (by rw [Hts.out]; have := HRO.out; rwa [HE.out] at this)
      have HF := Lib.hid (add_ok HAA.out HRm.out)
      have HOL : Hid (O = addL l f t k) := by show _ = _; rw [← HO.out, HE.out, ← Hts.out]; rfl
      obtain ⟨A3, c3, rfl, hc3, hr3⟩ := RdL.of_own encP_len HOW.out HL.out
      have HO9 : Hid (wr.ownsRow w.heap.size 48 2 (.slice A3 L c3) (addR l f t k).length (flat encP (addR l f t k))) := by show World.ownsRow _ _ _ _ _ _ _; rw [HF.out.2, ← HOL.out, HL.out]; exact own_low HOW.out Hx1.out.size
      clear hr3 hlt
      go_wp2
      (try rw [Exit.noGoto_ret])
      go_ret2
      exact ⟨.slice A3 L c3, by rw [HF.out.1]; rfl, HO9.out, Hx1.out.trans' Hext.out⟩
theorem refAddO (A : Option Addr) (n c : Nat) (l : List Stp) (f t k : Int) (w : World) (hr : RdP w A n l) (hn : n ≤ 19000) :
    Calls Try.prog 31 #[.slice A n c, .int .i64 f, .int .i64 t, .int .i64 k] w (GivesAddO l f t k w) := by
  by_cases h : AddArg l f t k
  · exact refAdd_ok A n c l f t k w hr hn h
  · exact refAdd_bad A n c l f t k w hr hn h
theorem refAdd (A : Option Addr) (n c : Nat) (l : List Stp) (f t k : Int) (w : World) (hr : RdP w A n l) (hn : n ≤ 19000) :
    Calls Try.prog 31 #[.slice A n c, .int .i64 f, .int .i64 t, .int .i64 k] w (GivesAdd l f t k w) :=
  (refAddO A n c l f t k w hr hn).mono fun _ _ h => h.rd
end Go.Proofs.Ytbcpjdjlgmhohaa
