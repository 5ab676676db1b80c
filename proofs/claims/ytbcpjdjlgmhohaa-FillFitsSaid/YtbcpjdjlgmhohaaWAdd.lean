/-
  Walk: the program's profile with so many more for a while. Conditions: none.
-/
import Derived.Test.YtbcpjdjlgmhohaaMPA
import Derived.Test.YtbcpjdjlgmhohaaWRAdd
import Derived.Test.YtbcpjdjlgmhohaaWCutO
import Derived.Test.YtbcpjdjlgmhohaaWTidy
import Derived.Deep.RegionHeld3
import Derived.Deep.AppendLies
import Derived.Deep.DeepCutAuto
namespace Go.Proofs.Ytbcpjdjlgmhohaa
open Go.RowKit
set_option linter.unusedVariables false
set_option linter.unusedSimpArgs false

theorem tidy_same {l r : List Stp} (h : Asc l) (st : Stab cfAt l r) (sr : Srt cfAt r) : r = l := by
  have hl : Srt cfAt l := List.Pairwise.imp (fun {x y} hxy => by rw [cfAt_neg]; omega) h
  exact srt_uniq order_at hl sr fun c => st.filt order_at c
theorem holds_uniq {l : List Stp} {t : Int} {i j : Nat} (h : Holds l t i) (k : Holds l t j) : i = j := by
  obtain ⟨⟨a, u, h1, h2⟩, h3⟩ := h
  obtain ⟨⟨b, v, k1, k2⟩, k3⟩ := k
  rcases Nat.lt_trichotomy i j with e | e | e
  · have := h3 j b v k1 e; omega
  · exact e
  · have := k3 i a u h1 e; omega
theorem Rd.news {w : World} {size n : Nat} {ad : Addr} {xs : List Value} (h : Rd w size (some ad) n xs) : ∀ j u, xs[j]? = some u → w.cell? (ad.add j) = some u := fun j u hu => by
  rcases h.2 with h0 | ⟨b, off, hA, _, hc⟩
  · have := h.1; subst h0; have : xs = [] := List.length_eq_zero_iff.1 (by omega); subst this; simp at hu
  · injection hA with hA; subst hA; rw [Addr.add_lit]; exact hc j u hu
theorem encP_one (l : List Stp) : ∀ u ∈ flat encP l, u.oneCell' = true := fun u hu => by
  obtain ⟨x, _, hx⟩ := List.mem_flatMap.1 hu
  simp only [encP, List.mem_cons, List.not_mem_nil, or_false] at hx
  rcases hx with rfl | rfl <;> rfl
theorem flat_take {l : List Stp} (i : Nat) : flat encP (l.take i) = (flat encP l).take (i * 2) := by
  induction l generalizing i with
  | nil => simp [flat]
  | cons x l ih =>
    cases i with
    | zero => simp [flat]
    | succ i =>
      have := ih i
      simp only [flat, List.take_succ_cons, List.flatMap_cons] at this ⊢
      rw [this, show (i + 1) * 2 = i * 2 + 1 + 1 by omega]
      simp [encP]
theorem flat_drop {l : List Stp} (i : Nat) : flat encP (l.drop i) = (flat encP l).drop (i * 2) := by
  induction l generalizing i with
  | nil => simp [flat]
  | cons x l ih =>
    cases i with
    | zero => simp
    | succ i =>
      have := ih i
      simp only [flat, List.drop_succ_cons, List.flatMap_cons] at this ⊢
      rw [this, show (i + 1) * 2 = i * 2 + 1 + 1 by omega]
      simp [encP]
theorem RdP.take {w : World} {b off n : Nat} {l : List Stp} (h : RdP w (some ⟨b, off, none⟩) n l) {i : Nat} (hi : i ≤ n) : RdP w (some ⟨b, off, none⟩) i (l.take i) := by
  refine ⟨encP_len, by rw [List.length_take, h.len]; omega, ?_, ?_⟩
  · rw [flat_length encP_len, List.length_take, h.len]; congr 1; omega
  · rcases Nat.eq_zero_or_pos i with h0 | h0
    · exact .inl h0
    · right
      rcases h.2.2.2 with h1 | ⟨b', off', hA, hb, hc⟩
      · omega
      · injection hA with hA; injection hA with hA1 hA2 _; subst hA1; subst hA2
        refine ⟨b, off, rfl, hb, fun j u hu => hc j u ?_⟩
        rw [flat_take] at hu
        have hj : j < i * 2 := by
          have := (List.getElem?_eq_some_iff.1 hu).1
          simp at this; omega
        rwa [List.getElem?_take_of_lt hj] at hu
theorem RdP.drop {w : World} {b off n : Nat} {l : List Stp} (h : RdP w (some ⟨b, off, none⟩) n l) {i : Nat} (hi : i ≤ n) : RdP w (some ⟨b, off + i * 2, none⟩) (n - i) (l.drop i) := by
  refine ⟨encP_len, by rw [List.length_drop, h.len], ?_, ?_⟩
  · rw [flat_length encP_len, List.length_drop, h.len]
  · rcases Nat.eq_zero_or_pos (n - i) with h0 | h0
    · exact .inl h0
    · right
      rcases h.2.2.2 with h1 | ⟨b', off', hA, hb, hc⟩
      · omega
      · injection hA with hA; injection hA with hA1 hA2 _; subst hA1; subst hA2
        refine ⟨b, off + i * 2, rfl, hb, fun j u hu => ?_⟩
        rw [flat_drop, List.getElem?_drop] at hu
        have := hc (i * 2 + j) u hu
        rwa [← Nat.add_assoc] at this

set_option maxHeartbeats 1000000 in
theorem stepsAdd_bad (A : Option Addr) (n c : Nat) (l : List Stp) (f t k : Int) (w : World) (hr : RdP w A n l) (hn : n ≤ 19000) (hbad : ¬ AddArg l f t k) :
    Calls Try.prog 28 #[.slice A n c, .int .i64 f, .int .i64 t, .int .i64 k] w (GivesAddO l f t k w) := by
  have HR := Lib.hid hr; clear hr
  have HE := Lib.hid (add_bad hbad).1
  have HL := Lib.hid (add_bad hbad).2
  rcases chkE_cases l with ⟨hp, hc⟩ | ⟨hp, hc⟩
  case inr =>
    have HC := Lib.hid hc; clear hc hbad hp
    go_enter Try.func28, Try.ntmps28
    go_wp2_with (first | (go_at_call 38; refine (stepsCheck A n c l _ HR.out (by omega)).mono ?_; rintro e w1 ⟨rfl, hx1⟩; have Hx1 := Lib.hid hx1; clear hx1; rw [HC.out]))
    (try rw [Exit.noGoto_ret])
    go_ret2
    exact ⟨.slice none 0 0, by rw [HE.out]; rfl, by rw [HL.out]; exact World.ownsRow_nil _ _ _ _, Hx1.out⟩
  have HC := Lib.hid hc; clear hc
  by_cases cf : isT f = false
  · clear hbad hp
    go_enter Try.func28, Try.ntmps28
    go_wp2_with (first | (go_at_call 38; refine (stepsCheck A n c l _ HR.out (by omega)).mono ?_; rintro e w1 ⟨rfl, hx1⟩; have Hx1 := Lib.hid hx1; clear hx1; rw [HC.out]) | (go_at_call 39; refine (clkIsV ‹_› _).mono ?_; rintro e w' ⟨rfl, rfl⟩))
    (try rw [Exit.noGoto_ret])
    go_ret2
    exact ⟨.slice none 0 0, by rw [HE.out]; rfl, by rw [HL.out]; exact World.ownsRow_nil _ _ _ _, Hx1.out⟩
  replace cf : isT f = true := by simpa using cf
  by_cases ct : isT t = false
  · clear hbad hp
    go_enter Try.func28, Try.ntmps28
    go_wp2_with (first | (go_at_call 38; refine (stepsCheck A n c l _ HR.out (by omega)).mono ?_; rintro e w1 ⟨rfl, hx1⟩; have Hx1 := Lib.hid hx1; clear hx1; rw [HC.out]) | (go_at_call 39; refine (clkIsV ‹_› _).mono ?_; rintro e w' ⟨rfl, rfl⟩))
    (try rw [Exit.noGoto_ret])
    go_ret2
    exact ⟨.slice none 0 0, by rw [HE.out]; rfl, by rw [HL.out]; exact World.ownsRow_nil _ _ _ _, Hx1.out⟩
  replace ct : isT t = true := by simpa using ct
  by_cases hft : t < f
  · clear hbad hp
    go_enter Try.func28, Try.ntmps28
    go_wp2_with (first | (go_at_call 38; refine (stepsCheck A n c l _ HR.out (by omega)).mono ?_; rintro e w1 ⟨rfl, hx1⟩; have Hx1 := Lib.hid hx1; clear hx1; rw [HC.out]) | (go_at_call 39; refine (clkIsV ‹_› _).mono ?_; rintro e w' ⟨rfl, rfl⟩))
    (try rw [Exit.noGoto_ret])
    go_ret2
    exact ⟨.slice none 0 0, by rw [HE.out]; rfl, by rw [HL.out]; exact World.ownsRow_nil _ _ _ _, Hx1.out⟩
  by_cases hk2 : k < -10000
  · clear hbad hp
    go_enter Try.func28, Try.ntmps28
    go_wp2_with (first | (go_at_call 38; refine (stepsCheck A n c l _ HR.out (by omega)).mono ?_; rintro e w1 ⟨rfl, hx1⟩; have Hx1 := Lib.hid hx1; clear hx1; rw [HC.out]) | (go_at_call 39; refine (clkIsV ‹_› _).mono ?_; rintro e w' ⟨rfl, rfl⟩))
    (try rw [Exit.noGoto_ret])
    go_ret2
    exact ⟨.slice none 0 0, by rw [HE.out]; rfl, by rw [HL.out]; exact World.ownsRow_nil _ _ _ _, Hx1.out⟩
  by_cases hk : 10000 < k
  · clear hbad hp
    go_enter Try.func28, Try.ntmps28
    go_wp2_with (first | (go_at_call 38; refine (stepsCheck A n c l _ HR.out (by omega)).mono ?_; rintro e w1 ⟨rfl, hx1⟩; have Hx1 := Lib.hid hx1; clear hx1; rw [HC.out]) | (go_at_call 39; refine (clkIsV ‹_› _).mono ?_; rintro e w' ⟨rfl, rfl⟩))
    (try rw [Exit.noGoto_ret])
    go_ret2
    exact ⟨.slice none 0 0, by rw [HE.out]; rfl, by rw [HL.out]; exact World.ownsRow_nil _ _ _ _, Hx1.out⟩
  exact absurd ⟨hp, cf, ct, by omega, by omega, by omega⟩ hbad

set_option maxHeartbeats 1000000 in
theorem stepsAdd_same (A : Option Addr) (n c : Nat) (l : List Stp) (f k : Int) (w : World) (hr : RdP w A n l) (hn : n ≤ 19000) (hok : AddArg l f f k) :
    Calls Try.prog 28 #[.slice A n c, .int .i64 f, .int .i64 f, .int .i64 k] w (GivesAddO l f f k w) := by
  have HR := Lib.hid hr; clear hr
  have HF := Lib.hid (add_ok hok room_same)
  obtain ⟨hp, cf, ct, hft, k0, k1⟩ := hok
  have HLL : Hid (addL l f f k = l) := add_same hp ((isT_iff f).1 cf).1
  have HC := Lib.hid (chkE_t hp)
  clear hp ct hft
  go_enter Try.func28, Try.ntmps28
  go_wp2_with (first | (go_at_call 38; refine (stepsCheck A n c l _ HR.out (by omega)).mono ?_; rintro e w1 ⟨rfl, hx1⟩; have Hx1 := Lib.hid hx1; clear hx1; rw [HC.out]) | (go_at_call 39; refine (clkIsV ‹_› _).mono ?_; rintro e w' ⟨rfl, rfl⟩))
  refine (cloneP A n c l _ (HR.out.ext Hx1.out) (by omega)).mono ?_
  rintro e w2 ⟨v, rfl, hown, hx2⟩
  obtain ⟨A2, c2, rfl, hc2, hr2⟩ := RdL.of_own encP_len hown (RdL.len HR.out)
  have HO9 : Hid (w2.ownsRow w.heap.size 48 2 (.slice A2 n c2) (addR l f f k).length (flat encP (addR l f f k))) := by show World.ownsRow _ _ _ _ _ _ _; rw [HF.out.2, HLL.out, RdL.len HR.out]; exact own_low hown Hx1.out.size
  have HX2 := Lib.hid (Hx1.out.trans' hx2)
  clear hown hr2 hx2
  go_wp2
  (try rw [Exit.noGoto_ret])
  go_ret2
  exact ⟨.slice A2 n c2, by rw [HF.out.1]; rfl, HO9.out, HX2.out⟩

def CutR (B : Nat) (w : World) (n : Nat) (xs : List Value) (s : Value) (wx : World) : Prop := wx.ownsRow B 48 2 s n xs ∧ Ext w wx

theorem grown_news {w w' : World} {B n : Nat} {v : Value} {xs : List Value} {t u : Int} (hg : ((w.alloc (.cells #[.int .i64 t, .int .i64 u] 48)).drew).grownBy w' v.ownBlock) (hB : B ≤ w.heap.size) (ho : w.ownsRow B 48 2 v n xs) :
    ∀ j z, ([.int .i64 t, .int .i64 u] : List Value)[j]? = some z → w'.cell? ((⟨w.heap.size, 0, none⟩ : Addr).add j) = some z := fun j z hz => by
  have h1 := World.news_of_block (cs := #[.int .i64 t, .int .i64 u]) (t := 48) (fr := (0, 0)) (heap_alloc_new w _) j z hz
  rw [Addr.add_lit] at h1 ⊢
  rw [hg.cell_far _ (by simp) (fun e => by have := (ho.lt _ e.symm).2; simp at this)]
  exact h1
set_option maxRecDepth 100000 in
set_option maxHeartbeats 8000000 in
theorem stepsAdd_ok (A : Option Addr) (n c : Nat) (l : List Stp) (f t k : Int) (w : World) (hr : RdP w A n l) (hn : n ≤ 19000) (hnc : n ≤ c) (hok : AddArg l f t k) (hlt : f < t) :
    Calls Try.prog 28 #[.slice A n c, .int .i64 f, .int .i64 t, .int .i64 k] w (GivesAddO l f t k w) := by
  have HR := Lib.hid hr; clear hr
  have HAA := Lib.hid hok
  obtain ⟨hp, cf, ct, hft, k0', k1'⟩ := hok
  have HC := Lib.hid (chkE_t hp)
  have HP := Lib.hid hp
  have hn1 : 0 < n := by have := hp.1; have := RdL.len HR.out; omega
  obtain ⟨f0, f1⟩ := (isT_iff f).1 cf
  obtain ⟨t0, t1⟩ := (isT_iff t).1 ct
  obtain ⟨b, off, _, _, rfl, hbw, _, _, _⟩ := RdP.cut HR.out (k := 0) hn1
  obtain ⟨i0, hi0, hz0, hz1, hz2⟩ := info_parts Try.infoStp
  have neq : (f == t) = false := by simp; omega
  clear hp
  go_enter Try.func28, Try.ntmps28
  go_wp2_with (first | (go_at_call 38; refine (stepsCheck (some ⟨b, off, none⟩) n c l _ HR.out (by omega)).mono ?_; rintro e w1 ⟨rfl, hx1⟩; have Hx1 := Lib.hid hx1; clear hx1; rw [HC.out]) | (go_at_call 39; refine (clkIsV ‹_› _).mono ?_; rintro e w' ⟨rfl, rfl⟩))
  refine (stepsCutO (some ⟨b, off, none⟩) n c l f t _ (HR.out.ext Hx1.out) HP.out ⟨f0, f1⟩).mono ?_
  rintro e w2 ⟨k0, j, v, hH, hC, rfl, hown, hx2⟩
  have hj := cut_pos hH hC hlt
  have hkj : k0 + j ≤ n := by have := hC.1; have := RdL.len HR.out; omega
  obtain ⟨g, cap, hv⟩ := World.ownsRow.form hown hj
  have HH := Lib.hid hH
  have HCt := Lib.hid hC
  obtain ⟨CC, HCC⟩ : ∃ CC, Hid (cutTo l f k0 j = CC) := ⟨_, rfl⟩
  have HCL : Hid (CC.length = j) := by show _ = _; rw [← HCC.out]; exact cutTo_len hC.1
  have HCB : Hid (∀ s ∈ CC, 0 ≤ s.2 ∧ s.2 ≤ 10000) := fun s hs => by
    rw [← HCC.out] at hs
    obtain ⟨i, a, v, h1, _, _, rfl⟩ := mem_cutTo.1 hs
    exact (HP.out.bound _ (List.mem_of_getElem? h1)).2
  rw [HCC.out] at hown
  obtain ⟨wB, HWB⟩ : ∃ wB : World, wB = w1 := ⟨_, rfl⟩
  rw [← HWB] at hown hx2 Hx1
  have hvv := hv.1
  subst hvv
  have HO2 : Hid (w2.ownsRow wB.heap.size 48 2 (.slice (some ⟨g, 0, none⟩) j cap) j (flat encP (upd k 0 CC))) := by rw [upd_zero]; exact hown
  have HX2 := Lib.hid hx2
  have HXB := Hx1
  clear hv hown hx2 hH hC cf ct HWB Hx1
  go_wp2
  go_loopw [56] (fun i wr => ∃ q : Nat, q ≤ j ∧ i = .int .i64 q ∧ wr.ownsRow wB.heap.size 48 2 (.slice (some ⟨g, 0, none⟩) j cap) j (flat encP (upd k q CC)) ∧ Hid (∀ s ∈ CC.take q, 0 ≤ s.2 + k ∧ s.2 + k ≤ 10000) ∧ Ext wB wr) (fun i _ => j - (intOf i).toNat)
  case atStart => exact ⟨0, by omega, rfl, HO2.out, (fun s hs => by simp at hs), HX2.out⟩
  case round =>
    clear HO2 HX2
    obtain ⟨q, hq, rfl, hown, HRO, hext⟩ := hrel
    have HOW := Lib.hid hown
    have Hext := Lib.hid hext
    clear hown hext
    by_cases hlq : q < j
    · obtain ⟨a, u, Hx⟩ : ∃ a u, Hid (CC[q]? = some (a, u)) := ⟨(CC[q]'(by have := HCL.out; omega)).1, (CC[q]'(by have := HCL.out; omega)).2, List.getElem?_eq_getElem (by have := HCL.out; omega)⟩
      have hu := HCB.out _ (List.mem_of_getElem? Hx.out)
      simp only at hu
      obtain ⟨u0, u1⟩ := hu
      have hd1 : wr.cell? ⟨g, q * 2 + 1, none⟩ = some (.int .i64 u) := by
        rw [HOW.out.cellAt (q * 2 + 1) (by omega), flat_get encP_len _ q 1 (by omega) _ (upd_get Hx.out)]
        rfl
      have hfz := HOW.out.frozenAt (q * 2 + 1)
      have HN1 : Hid (∀ z, (wr.setCell ⟨g, q * 2 + 1, none⟩ (.int .i64 z)).ownsRow wB.heap.size 48 2 (.slice (some ⟨g, 0, none⟩) j cap) j ((flat encP (upd k q CC)).set (q * 2 + 1) (.int .i64 z))) := fun z => (HOW.out.stored _ _).1
      have HN2 : Hid (∀ z, Ext wB (wr.setCell ⟨g, q * 2 + 1, none⟩ (.int .i64 z))) := fun z => Hext.out.setCell (HOW.out.lt g rfl).1 _
      have HFS : Hid ((flat encP (upd k q CC)).set (q * 2 + 1) (.int .i64 (u + k)) = flat encP (upd k (q + 1) CC)) := by
        show _ = _
        rw [flat_set (upd_get Hx.out), upd_succ Hx.out]
      by_cases hr0 : 0 ≤ u + k ∧ u + k ≤ 10000
      · obtain ⟨r0, r1⟩ := hr0
        have HRN : Hid (∀ s ∈ CC.take (q + 1), 0 ≤ s.2 + k ∧ s.2 + k ≤ 10000) := fun s hs => by
          rw [take_snoc' Hx.out] at hs
          rcases List.mem_append.1 hs with hs | hs
          · exact HRO.out s hs
          · simp at hs; subst hs; exact ⟨r0, r1⟩
        go_wp2
        go_roundw
        case rel => exact ⟨q + 1, by omega, by go_num, by rw [← HFS.out]; exact HN1.out _, HRN, HN2.out _⟩
        case measure => simp [intOf]; omega
      · have HF := Lib.hid (add_full HAA.out (fun h => hr0 ((room_cut HP.out f0 HH.out HCt.out hlt).1 h (a, u) (by rw [HCC.out]; exact List.mem_of_getElem? Hx.out))))
        by_cases hlo : u + k < 0
        · skip
          go_wp2
          (try rw [Exit.noGoto_ret])
          go_ret2
          exact ⟨.slice none 0 0, by rw [HF.out.1]; rfl, by rw [HF.out.2]; exact World.ownsRow_nil _ _ _ _, HXB.out.trans' (HN2.out _)⟩
        · have hhi : 10000 < u + k := by omega
          go_wp2
          (try rw [Exit.noGoto_ret])
          go_ret2
          exact ⟨.slice none 0 0, by rw [HF.out.1]; rfl, by rw [HF.out.2]; exact World.ownsRow_nil _ _ _ _, HXB.out.trans' (HN2.out _)⟩
    · obtain rfl : q = j := by omega
      have HRm : Hid (Room l f t k) := (room_cut HP.out f0 HH.out HCt.out hlt).2 (by rw [HCC.out]; have := HRO.out; rwa [take_all' HCL.out (Nat.le_refl _)] at this)
      have HF := Lib.hid (add_ok HAA.out HRm.out)
      obtain ⟨NW, HNW⟩ : ∃ NW, Hid (flat encP (CC.map fun s => (s.1, s.2 + k)) = NW) := ⟨_, rfl⟩
      have HUP : Hid (upd k q CC = CC.map fun s => (s.1, s.2 + k)) := by show _ = _; rw [← HCL.out]; exact upd_all _ _
      rw [HUP.out, HNW.out] at HOW
      have HNL : Hid (NW.length = q * 2) := by show _ = _; rw [← HNW.out, flat_length encP_len, List.length_map, HCL.out]
      have HN1 : Hid (∀ u ∈ NW, u.oneCell' = true) := by rw [← HNW.out]; exact encP_one _
      obtain ⟨w3, HW3⟩ : ∃ w3 : World, w3 = wr := ⟨_, rfl⟩
      subst HW3
      have HX3 := Lib.hid (HXB.out.trans' Hext.out)
      clear hlq HRO Hext
      go_wp2_with fail
      refine (stepsPlace (some ⟨b, off, none⟩) n c l f _ (HR.out.ext HX3.out) HP.out ⟨f0, f1⟩).mono ?_
      rintro e w4 ⟨i1, h1, rfl, hx4⟩
      obtain rfl := holds_uniq HH.out h1
      have HO4 := Lib.hid (own_ext HOW.out hx4)
      have HX4 := Lib.hid (HX3.out.trans' hx4)
      clear h1 hx4
      go_wp2_with fail
      refine (stepsPlace (some ⟨b, off, none⟩) n c l t _ (HR.out.ext HX4.out) HP.out ⟨t0, t1⟩).mono ?_
      rintro e w5 ⟨jt, hT, rfl, hx5⟩
      have HT := Lib.hid hT
      have HO5 := Lib.hid (own_ext HO4.out hx5)
      have HX5 := Lib.hid (HX4.out.trans' hx5)
      clear hT hx5
      have hk0n : k0 < n := by omega
      obtain ⟨_, _, a0, v0, hA, _, hx0, hd0, _⟩ := RdP.cut HR.out (k := k0) hk0n
      injection hA with hA; injection hA with hA1 hA2 _; subst hA1; subst hA2
      replace hd0 := HX5.out.cell' hd0
      have hjt : jt < n := by
        obtain ⟨a, u, h, _⟩ := HT.out.1
        have := (List.getElem?_eq_some_iff.1 h).1
        have := RdL.len HR.out
        omega
      obtain ⟨_, _, at', ut, hA, _, hxt, _, hdt⟩ := RdP.cut HR.out (k := jt) hjt
      injection hA with hA; injection hA with hA1 hA2 _; subst hA1; subst hA2
      replace hdt := HX5.out.cell' hdt
      have HXT := Lib.hid hxt
      obtain ⟨i', HI'⟩ : ∃ i', Hid (ahead l f k0 = i') := ⟨_, rfl⟩
      have hi'c : (a0 = f ∧ i' = k0) ∨ (a0 < f ∧ i' = k0 + 1) := by
        obtain ⟨a, v, e1, _, e2⟩ := ahead_cases HH.out
        rw [hx0] at e1; injection e1 with e1; injection e1 with e1 _
        rw [HI'.out, ← e1] at e2
        exact e2
      have hi'n : i' ≤ n := by omega
      have HCI := Lib.hid hi'c
      clear hx0 hxt hi'c
      go_upto_if 95 with fail
      go_cut [13] (fun s13 wx => s13 = .int .i64 ((i' : Int) - 1) ∧ wx = w5)
      case first =>
        rcases HCI.out with ⟨e1, e2⟩ | ⟨e1, e2⟩
        · have d0 : (a0 == f) = true := by simpa using e1
          have E2 := Lib.hid e2
          clear e1 e2
          go_wp2_with fail
          go_meet
          exact ⟨by rw [E2.out], rfl⟩
        · have d0 : (a0 == f) = false := by simp; omega
          have E2 := Lib.hid e2
          clear e1 e2
          go_wp2_with fail
          go_meet
          exact ⟨by rw [E2.out]; go_num, rfl⟩
      case rest =>
        obtain ⟨rfl, rfl⟩ := hcut
        have hc0 : ¬ c = 0 := by omega
        go_wp2_with fail
        refine (cloneP (some ⟨b, off, none⟩) i' c (l.take i') _ (RdP.take (HR.out.ext HX5.out) hi'n) (by omega)).mono ?_
        rintro e w6 ⟨v6, rfl, hown6, hx6⟩
        obtain ⟨w5, HW5⟩ : ∃ w5 : World, w5 = wc := ⟨_, rfl⟩
        subst HW5
        obtain ⟨F1, HF1⟩ : ∃ F1, Hid (flat encP (l.take i') = F1) := ⟨_, rfl⟩
        rw [HF1.out] at hown6
        have H6 := Lib.hid hown6
        have HX6 := Lib.hid (HX5.out.trans' hx6)
        have HB6 : Hid (w5.heap.size ≤ w6.heap.size) := hx6.size
        have HB5 : Hid (w.heap.size ≤ w5.heap.size) := HX5.out.size
        have hdt6 := hx6.cell' hdt
        have HO6 := Lib.hid (own_ext HO5.out hx6)
        have HNC0 : Hid (∀ j z, NW[j]? = some z → w6.cell? ((⟨g, 0, none⟩ : Addr).add j) = some z) := HO6.out.cells rfl
        have HNC1 : Hid (∀ o j z, NW[j]? = some z → (w6.alloc o).cell? ((⟨g, 0, none⟩ : Addr).add j) = some z) := fun o => (HO6.out.alloc o).cells rfl
        have HNE : Hid (v6.ownBlock ≠ some b) := fun e => by have := (H6.out.lt _ e).1; have := HB5.out; omega
        have hb6 : b < w6.heap.size := by have := HB6.out; have := HB5.out; omega
        have hi0' : (0 : Int) ≤ (jt : Int) := Int.natCast_nonneg _
        have hi1 : (jt : Int) < (n : Int) := by omega
        clear hown6 hx6 hd0 hdt
        go_upto_region 20 with fail
        go_cut [15] (fun s15 wx => CutR w5.heap.size w (i' + q + 1) (F1 ++ NW ++ [.int .i64 t, .int .i64 ut]) s15 wx)
        case first =>
          go_region_held3 (fun w' => w'.cell? ⟨b, off + jt * 2 + 1, none⟩ = some (.int .i64 ut))
            (first
              | go_keep
              | (rw [hgrow8.cell_far _ (by have := hgrow7.size; simp at this ⊢; omega) (fun e => by have e' : b = g7 := Option.some.inj e; have := (hown7.lt g7 rfl).1; have := HB5.out; omega)]; assumption)
              | (rw [hgrow7.cell_far _ (by simp; omega) (Ne.symm HNE.out)]; assumption))
            (first | ((refine step_append_lies _ (by rfl) _ _ _ (by rfl) w5.heap.size 48 i0 _ 2 16 Try.underlying22 hi0 hz0 hz1 hz2 rfl (by omega) v6 i' F1 (by rfl) (show (World.drew w6).ownsRow _ _ _ _ _ _ from H6.out) ⟨g, 0, none⟩ q cap NW (by rfl) HNL.out HNC0.out HN1.out (by omega) (by simp only [maxLen]; omega) (by omega) HB6.out w6.heap.size (by simp) ?_; intro g7 cap7 w7 hown7 hgrow7 hat7 hlt7)) | ((refine step_append_lies _ (by rfl) _ _ _ (by rfl) w5.heap.size 48 i0 _ 2 16 Try.underlying22 hi0 hz0 hz1 hz2 rfl (by omega) v6 i' F1 (by rfl) ((H6.out.alloc _).drew) ⟨g, 0, none⟩ q cap NW (by rfl) HNL.out (HNC1.out _) HN1.out (by omega) (by simp only [maxLen]; omega) (by omega) (by have := HB6.out; simp; omega) (w6.heap.size + 1) (by simp) ?_; intro g7 cap7 w7 hown7 hgrow7 hat7 hlt7)) | ((refine step_append_lies _ (by rfl) _ _ _ (by rfl) w5.heap.size 48 i0 _ 2 16 Try.underlying22 hi0 hz0 hz1 hz2 rfl (by omega) (.slice (some ⟨g7, 0, none⟩) (i' + q) cap7) (i' + q) (F1 ++ NW) (by rfl) (hown7.alloc _) ⟨w7.heap.size, 0, none⟩ 1 1 [.int .i64 t, .int .i64 ut] (by rfl) (by rfl) (World.news_of_block (cs := #[.int .i64 t, .int .i64 ut]) (t := 48) (fr := (0, 0)) (heap_alloc_new w7 _)) (by simp [Value.oneCell']) (by omega) (by simp only [maxLen]; omega) (by omega) (Nat.le_trans (Nat.le_trans HB6.out hgrow7.size) ((Below.refl _ _).alloc (Nat.le_refl _) _).size) (w7.heap.size + 1) (by simp) ?_; intro g8 cap8 w8 hown8 hgrow8 hat8 hlt8)) | ((refine step_append_lies _ (by rfl) _ _ _ (by rfl) w5.heap.size 48 i0 _ 2 16 Try.underlying22 hi0 hz0 hz1 hz2 rfl (by omega) (.slice (some ⟨g7, 0, none⟩) (i' + q) cap7) (i' + q) (F1 ++ NW) (by rfl) hown7 ⟨w6.heap.size, 0, none⟩ 1 1 [.int .i64 t, .int .i64 ut] (by rfl) (by rfl) (grown_news hgrow7 HB6.out H6.out) (by simp [Value.oneCell']) (by omega) (by simp only [maxLen]; omega) (by omega) (Nat.le_trans HB6.out (Nat.le_trans (Ext.size' ((Below.refl _ _).alloc (Nat.le_refl _) _)) hgrow7.size)) w7.heap.size (by simp) ?_; intro g8 cap8 w8 hown8 hgrow8 hat8 hlt8)))
          all_goals
            have HO8 := Lib.hid hown8
            have HX8 : Hid (Ext w w8) := by
              first
                | exact (((HX6.out.drew.grown hgrow7 HX6.out.size (fun z hz => Nat.le_trans HB5.out (H6.out.lt z hz).1)).alloc (Nat.le_trans HX6.out.size hgrow7.size) _).grown hgrow8 (Nat.le_trans (Nat.le_trans HX6.out.size hgrow7.size) (Ext.size' ((Below.refl _ _).alloc (Nat.le_refl _) _))) (fun z hz => Nat.le_trans HB5.out (hown7.lt z hz).1))
                | exact ((HX6.out.alloc HX6.out.size _).drew.grown hgrow7 (Nat.le_trans HX6.out.size (Ext.size' (Below.drew ((Below.refl _ _).alloc (Nat.le_refl _) _)))) (fun z hz => Nat.le_trans HB5.out (H6.out.lt z hz).1)).grown hgrow8 (Nat.le_trans (Nat.le_trans HX6.out.size (Ext.size' (Below.drew ((Below.refl _ _).alloc (Nat.le_refl _) _)))) hgrow7.size) (fun z hz => Nat.le_trans HB5.out (hown7.lt z hz).1)
            clear hown7 hown8 hgrow7 hgrow8
            go_wp2_with fail
            go_meet
            exact ⟨HO8.out, HX8.out⟩
        case rest =>
          obtain ⟨w8, HW8⟩ : ∃ w8 : World, w8 = wc := ⟨_, rfl⟩
          subst HW8
          have H8 := Lib.hid hcut.1
          have HX8 := Lib.hid hcut.2
          have HB8 : Hid (w5.heap.size ≤ w8.heap.size) := by
            obtain ⟨g', cap', hv', _⟩ := World.ownsRow.form H8.out (by omega)
            have := H8.out.lt g' (by rw [hv']; rfl)
            show _ ≤ _
            omega
          clear hcut hdt6 hi0' hi1
          obtain ⟨X, HX⟩ : ∃ X, Hid (addX l f t k k0 q jt ut = X) := ⟨_, rfl⟩
          have HXA : Hid (Asc X) := by show Asc _; rw [← HX.out]; exact addX_asc HP.out HH.out HCt.out HT.out hlt
          have HXE : Hid (tid X = addL l f t k) := by show _ = _; rw [← HX.out]; exact addX_eq HP.out f0 HH.out HCt.out HT.out hlt ⟨_, HXT.out⟩
          obtain ⟨F2, HF2⟩ : ∃ F2, Hid (F1 ++ NW ++ ([.int .i64 t, .int .i64 ut] : List Value) = F2) := ⟨_, rfl⟩
          obtain ⟨F3, HF3⟩ : ∃ F3, Hid (flat encP (l.drop (jt + 1)) = F3) := ⟨_, rfl⟩
          have HFX : Hid (F2 ++ F3 = flat encP X) := by
            show _ = _
            rw [← HF2.out, ← HF3.out, ← HF1.out, ← HNW.out, ← HCC.out, ← HX.out]
            unfold addX
            rw [HI'.out, flat_append, flat_append, flat_append]
            rfl
          have HXL : Hid (X.length = i' + q + 1 + (n - (jt + 1))) := by
            show _ = _
            have h1 := RdL.len HR.out
            have h2 := HCL.out
            rw [← HX.out]
            unfold addX
            rw [HI'.out, HCC.out]
            simp only [List.length_append, List.length_take, List.length_map, List.length_drop, List.length_cons, List.length_nil]
            omega
          rw [HF2.out] at H8
          have HRd := Lib.hid (RdP.drop (HR.out.ext HX8.out) (i := jt + 1) (by omega))
          have HL3 : Hid (F3.length = (n - (jt + 1)) * 2) := by show _ = _; rw [← HF3.out, flat_length encP_len, RdL.len HRd.out]
          have H13 : Hid (∀ u ∈ F3, u.oneCell' = true) := by rw [← HF3.out]; exact encP_one _
          have HLE : Hid ((addL l f t k).length ≤ 19002) := by
            show _ ≤ _
            have h1 := addL_len (l := l) (f := f) (t := t) (k := k)
            have h2 := RdL.len HR.out
            omega
          have hj0 : (0 : Int) ≤ (jt : Int) + 1 := by omega
          have hj1 : (jt : Int) + 1 ≤ (n : Int) := by omega
          have hj2 : (jt : Int) + 1 ≤ (c : Int) := by omega
          by_cases hcj : c = jt + 1
          · have hn2 : n = jt + 1 := by omega
            subst hcj
            subst hn2
            have HF30 : Hid (F3 = []) := List.length_eq_zero_iff.1 (by rw [HL3.out, Nat.sub_self, Nat.zero_mul])
            rw [Nat.sub_self] at HXL HL3
            go_wp2_with (at_builtin; refine wpList_append_own _ rfl _ _ 22 rfl w5.heap.size 48 i0 _ 2 16 Try.underlying22 hi0 hz0 hz1 hz2 rfl (by omega) _ (i' + q + 1) F2 rfl H8.out ⟨b, off, none⟩ 0 0 F3 rfl ?qc1 ?qc2 ?qc3 ?qc4 ?qc5 ?qc6 ?_)
            case qc1 => exact HL3.out
            case qc2 => intro j z hz; rw [HF30.out] at hz; simp at hz
            case qc3 => exact H13.out
            case qc4 => simp only [maxLen]; omega
            case qc5 => omega
            case qc6 => exact HB8.out
            intro v9 w9 hown9 hgrow9 _
            rw [HFX.out] at hown9
            obtain ⟨A9, c9, rfl, _, hr9⟩ := RdL.of_own encP_len hown9 HXL.out
            have HR9 := Lib.hid hr9
            have HX9 : Hid (Ext w w9) := HX8.out.grown hgrow9 HX8.out.size (fun z hz => Nat.le_trans HB5.out (H8.out.lt z hz).1)
            clear hown9 hgrow9 hr9
            go_wp2_with fail
            refine (stepsTidyO A9 _ c9 X w9 HR9.out (by omega)).mono ?_
            rintro e w10 ⟨r, v10, hst, hsr, rfl, hown10, hx10⟩
            obtain rfl := tidy_same HXA.out hst hsr
            rw [tidyTo_tid HXA.out, HXE.out] at hown10
            obtain ⟨A10, c10, rfl, _, _⟩ := RdL.of_own encP_len hown10 rfl
            have HR10 : Hid (w10.ownsRow w.heap.size 48 2 (.slice A10 (addL l f t k).length c10) (addL l f t k).length (flat encP (addR l f t k))) := by show World.ownsRow _ _ _ _ _ _ _; rw [HF.out.2]; exact own_low hown10 HX9.out.size
            have HX10 := Lib.hid (HX9.out.trans' hx10)
            have hle : (addL l f t k).length ≤ 19002 := HLE.out
            obtain ⟨L, HLL⟩ : ∃ L, Hid ((addL l f t k).length = L) := ⟨_, rfl⟩
            rw [HLL.out] at hle HR10 ⊢
            clear hst hsr hown10 hx10
            go_wp2
            (try rw [Exit.noGoto_ret])
            go_ret2
            exact ⟨.slice A10 L c10, by rw [HF.out.1]; rfl, by rw [show (addR l f t k).length = L by rw [HF.out.2]; exact HLL.out]; exact HR10.out, HX10.out⟩
          · have hcj' : ¬ c = jt + 1 := hcj
            go_wp2_with (at_builtin; refine wpList_append_own _ rfl _ _ 22 rfl w5.heap.size 48 i0 _ 2 16 Try.underlying22 hi0 hz0 hz1 hz2 rfl (by omega) _ (i' + q + 1) F2 rfl H8.out ⟨b, off + (jt + 1) * 2, none⟩ (n - (jt + 1)) (c - (jt + 1)) F3 rfl ?qc1 ?qc2 ?qc3 ?qc4 ?qc5 ?qc6 ?_)
            case qc1 => exact HL3.out
            case qc2 => rw [← HF3.out]; exact Rd.news HRd.out.2.2
            case qc3 => exact H13.out
            case qc4 => simp only [maxLen]; omega
            case qc5 => omega
            case qc6 => exact HB8.out
            intro v9 w9 hown9 hgrow9 _
            rw [HFX.out] at hown9
            obtain ⟨A9, c9, rfl, _, hr9⟩ := RdL.of_own encP_len hown9 HXL.out
            have HR9 := Lib.hid hr9
            have HX9 : Hid (Ext w w9) := HX8.out.grown hgrow9 HX8.out.size (fun z hz => Nat.le_trans HB5.out (H8.out.lt z hz).1)
            clear hown9 hgrow9 hr9
            go_wp2_with fail
            refine (stepsTidyO A9 _ c9 X w9 HR9.out (by omega)).mono ?_
            rintro e w10 ⟨r, v10, hst, hsr, rfl, hown10, hx10⟩
            obtain rfl := tidy_same HXA.out hst hsr
            rw [tidyTo_tid HXA.out, HXE.out] at hown10
            obtain ⟨A10, c10, rfl, _, _⟩ := RdL.of_own encP_len hown10 rfl
            have HR10 : Hid (w10.ownsRow w.heap.size 48 2 (.slice A10 (addL l f t k).length c10) (addL l f t k).length (flat encP (addR l f t k))) := by show World.ownsRow _ _ _ _ _ _ _; rw [HF.out.2]; exact own_low hown10 HX9.out.size
            have HX10 := Lib.hid (HX9.out.trans' hx10)
            have hle : (addL l f t k).length ≤ 19002 := HLE.out
            obtain ⟨L, HLL⟩ : ∃ L, Hid ((addL l f t k).length = L) := ⟨_, rfl⟩
            rw [HLL.out] at hle HR10 ⊢
            clear hst hsr hown10 hx10
            go_wp2
            (try rw [Exit.noGoto_ret])
            go_ret2
            exact ⟨.slice A10 L c10, by rw [HF.out.1]; rfl, by rw [show (addR l f t k).length = L by rw [HF.out.2]; exact HLL.out]; exact HR10.out, HX10.out⟩

theorem stepsAddO (A : Option Addr) (n c : Nat) (l : List Stp) (f t k : Int) (w : World) (hr : RdP w A n l) (hn : n ≤ 19000) (hnc : n ≤ c) :
    Calls Try.prog 28 #[.slice A n c, .int .i64 f, .int .i64 t, .int .i64 k] w (GivesAddO l f t k w) := by
  by_cases h : AddArg l f t k
  · by_cases h2 : f < t
    · exact stepsAdd_ok A n c l f t k w hr hn hnc h h2
    · obtain rfl : f = t := by have := h.2.2.2.1; omega
      exact stepsAdd_same A n c l f k w hr hn h
  · exact stepsAdd_bad A n c l f t k w hr hn h
theorem stepsAdd (A : Option Addr) (n c : Nat) (l : List Stp) (f t k : Int) (w : World) (hr : RdP w A n l) (hn : n ≤ 19000) (hnc : n ≤ c) :
    Calls Try.prog 28 #[.slice A n c, .int .i64 f, .int .i64 t, .int .i64 k] w (GivesAdd l f t k w) :=
  (stepsAddO A n c l f t k w hr hn hnc).mono fun _ _ h => h.rd
end Go.Proofs.Ytbcpjdjlgmhohaa
