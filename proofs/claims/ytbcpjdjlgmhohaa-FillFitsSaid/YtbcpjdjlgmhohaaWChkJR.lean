/-
  Walk: which jobs may be, by the document. Conditions: none.
-/
import Derived.Test.YtbcpjdjlgmhohaaWChkJ
namespace Go.Proofs.Ytbcpjdjlgmhohaa
open Go.RowKit
set_option linter.unusedVariables false
set_option linter.unusedSimpArgs false

theorem ids_take (jobs : List Jb) (k : Nat) : ids (jobs.take k) = (ids jobs).take k := by unfold ids; rw [List.map_take]
theorem nodup_next {L : List Int} {k : Nat} {x : Int} (h : L[k]? = some x) (hn : (L.take k).Nodup) (hx : x ∉ L.take k) : (L.take (k + 1)).Nodup := by
  rw [take_snoc' h]
  exact List.nodup_append.2 ⟨hn, by simp, fun a ha b hb => by simp at hb; subst hb; exact fun e => hx (e ▸ ha)⟩
set_option maxRecDepth 100000 in
set_option maxHeartbeats 8000000 in
theorem refChkJ (A B : Option Addr) (n m c d : Nat) (l : List Stp) (now : Int) (jobs : List Jb) (w : World) (hr : RdP w A n l) (hs : RdQ w B m jobs) (hn : n ≤ 9223372036854775807) (hm : m ≤ 5000) :
    Calls Try.prog 21 #[.slice A n c, .int .i64 now, .slice B m d] w fun e w' => e = .returned (.int .i64 (chkJ l now jobs)) ∧ Ext w w' := by
  have HR := Lib.hid hr; clear hr
  have HS := Lib.hid hs; clear hs
  rcases chkE_cases l with ⟨hp, hc⟩ | ⟨hp, hc⟩
  case inr =>
    have HC := Lib.hid hc; clear hc
    have HE : Hid (chkJ l now jobs = 2) := chkJ_bad fun h => hp h.1
    clear hp
    go_enter Try.func21, Try.ntmps21
    go_wp2_with fail
    refine (refCheck A n c l _ HR.out hn).mono ?_
    rintro e w1 ⟨rfl, hx1⟩
    have HX := Lib.hid hx1; clear hx1
    rw [HC.out]
    go_wp2
    (try rw [Exit.noGoto_ret])
    go_ret
    exact ⟨by rw [HE.out]; rfl, HX.out⟩
  have HC := Lib.hid hc; clear hc
  have HP := Lib.hid hp; clear hp
  by_cases cn : isT now = false
  · have HE : Hid (chkJ l now jobs = 2) := chkJ_bad fun h => by have h2 := h.2.1; rw [cn] at h2; cases h2
    go_enter Try.func21, Try.ntmps21
    go_wp2_with fail
    refine (refCheck A n c l _ HR.out hn).mono ?_
    rintro e w1 ⟨rfl, hx1⟩
    have HX := Lib.hid hx1; clear hx1
    rw [HC.out]
    go_wp2_with (go_at_call 44; refine (refIsV ‹_› _).mono ?_; rintro e w' ⟨rfl, rfl⟩)
    (try rw [Exit.noGoto_ret])
    go_ret
    exact ⟨by rw [HE.out]; rfl, HX.out⟩
  replace cn : isT now = true := by simpa using cn
  go_enter Try.func21, Try.ntmps21
  go_wp2_with fail
  refine (refCheck A n c l _ HR.out hn).mono ?_
  rintro e w1 ⟨rfl, hx1⟩
  have HX1 := Lib.hid hx1; clear hx1
  rw [HC.out]
  go_wp2_with (go_at_call 44; refine (refIsV ‹_› _).mono ?_; rintro e w' ⟨rfl, rfl⟩)
  go_loopw [8] (fun i wr => ∃ k : Nat, k ≤ m ∧ i = .int .i64 k ∧ Hid (allOk (jobs.take k) = true) ∧ Ext w wr) (fun i _ => m - (intOf i).toNat)
  case atStart => exact ⟨0, by omega, rfl, rfl, HX1.out⟩
  case round =>
    obtain ⟨k, hk, rfl, HK, hext⟩ := hrel
    by_cases hlt : k < m
    · obtain ⟨b, off, x1, x2, x3, x4, rfl, hb, hx, hd0, hd1, hd2, hd3⟩ := RdQ.cut HS.out hlt
      replace hd0 := hext.cell' hd0
      replace hd1 := hext.cell' hd1
      replace hd2 := hext.cell' hd2
      replace hd3 := hext.cell' hd3
      have hbw : b < wr.heap.size := by have := hext.size; omega
      have HXN : Hid (∀ o, Ext w (wr.alloc o)) := fun o => hext.alloc hext.size o
      have Hx := Lib.hid hx
      clear hx hext
      by_cases c1 : x1 < 1
      · have HE : Hid (chkJ l now jobs = 2) := chkJ_bad fun h0 => by have h := h0.2.2 _ (List.mem_of_getElem? Hx.out); have h9 := h.1; simp only at h9; omega
        have HX := HXN
        go_wp2
        (try rw [Exit.noGoto_ret])
        go_ret
        exact ⟨by rw [HE.out]; rfl, HX.out _⟩
      by_cases c2 : x2 < 0
      · have HE : Hid (chkJ l now jobs = 2) := chkJ_bad fun h0 => by have h := h0.2.2 _ (List.mem_of_getElem? Hx.out); have h9 := h.2.1; simp only at h9; omega
        have HX := HXN
        go_wp2
        (try rw [Exit.noGoto_ret])
        go_ret
        exact ⟨by rw [HE.out]; rfl, HX.out _⟩
      by_cases c3 : 1000 < x2
      · have HE : Hid (chkJ l now jobs = 2) := chkJ_bad fun h0 => by have h := h0.2.2 _ (List.mem_of_getElem? Hx.out); have h9 := h.2.2.1; simp only at h9; omega
        have HX := HXN
        go_wp2
        (try rw [Exit.noGoto_ret])
        go_ret
        exact ⟨by rw [HE.out]; rfl, HX.out _⟩
      by_cases c4 : x3 < 1
      · have HE : Hid (chkJ l now jobs = 2) := chkJ_bad fun h0 => by have h := h0.2.2 _ (List.mem_of_getElem? Hx.out); have h9 := h.2.2.2.1; simp only at h9; omega
        have HX := HXN
        go_wp2
        (try rw [Exit.noGoto_ret])
        go_ret
        exact ⟨by rw [HE.out]; rfl, HX.out _⟩
      by_cases c5 : 10000 < x3
      · have HE : Hid (chkJ l now jobs = 2) := chkJ_bad fun h0 => by have h := h0.2.2 _ (List.mem_of_getElem? Hx.out); have h9 := h.2.2.2.2.1; simp only at h9; omega
        have HX := HXN
        go_wp2
        (try rw [Exit.noGoto_ret])
        go_ret
        exact ⟨by rw [HE.out]; rfl, HX.out _⟩
      by_cases c6 : x4 < 1
      · have HE : Hid (chkJ l now jobs = 2) := chkJ_bad fun h0 => by have h := h0.2.2 _ (List.mem_of_getElem? Hx.out); have h9 := h.2.2.2.2.2.1; simp only at h9; omega
        have HX := HXN
        go_wp2
        (try rw [Exit.noGoto_ret])
        go_ret
        exact ⟨by rw [HE.out]; rfl, HX.out _⟩
      by_cases c7 : isT x4 = false
      · have HE : Hid (chkJ l now jobs = 2) := chkJ_bad fun h0 => by have h := h0.2.2 _ (List.mem_of_getElem? Hx.out); have h9 := h.2.2.2.2.2.2; simp only at h9; rw [c7] at h9; cases h9
        have HX := HXN
        go_wp2_with (go_at_call 44; refine (refIsV ‹_› _).mono ?_; rintro e w' ⟨rfl, rfl⟩)
        (try rw [Exit.noGoto_ret])
        go_ret
        exact ⟨by rw [HE.out]; rfl, HX.out _⟩
      replace c7 : isT x4 = true := by simpa using c7
      have HN : Hid (allOk (jobs.take (k + 1)) = true) := by
        show _ = _
        unfold allOk
        rw [take_snoc' Hx.out, List.all_append, show (jobs.take k).all okJ = true from HK.out]
        have : okJ (x1, x2, x3, x4) = true := decide_eq_true ⟨by simp only; omega, by simp only; omega, by simp only; omega, by simp only; omega, by simp only; omega, by simp only; omega, c7⟩
        simp [this]
      go_wp2_with (go_at_call 44; refine (refIsV ‹_› _).mono ?_; rintro e w' ⟨rfl, rfl⟩)
      go_roundw
      case rel => exact ⟨k + 1, by omega, by go_num, HN, HXN.out _⟩
      case measure => simp [intOf]; omega
    · have hall : allOk jobs = true := by have := HK.out; rwa [take_all' (RdL.len HS.out) (by omega)] at this
      have HFA : Hid (FillArg l now jobs) := ⟨HP.out, cn, (allOk_iff jobs).1 hall⟩
      obtain rfl : k = m := by omega
      obtain ⟨w2, HW2⟩ : ∃ w2 : World, w2 = wr := ⟨_, rfl⟩
      subst HW2
      have HX2 := Lib.hid hext
      clear hext hall hlt
      go_wp2
      go_loopw [10] (fun i wr => ∃ p : Nat, p ≤ k ∧ i = .int .i64 p ∧ Hid (((ids jobs).take p).Nodup) ∧ Ext w wr) (fun i _ => k - (intOf i).toNat)
      case atStart => exact ⟨0, by omega, rfl, (by show List.Nodup _; simp), HX2.out⟩
      case round =>
        obtain ⟨p, hp, rfl, HN, hext⟩ := hrel
        obtain ⟨w3, HW3⟩ : ∃ w3 : World, w3 = wr := ⟨_, rfl⟩
        subst HW3
        have HX3 := Lib.hid hext
        clear hext
        by_cases hpk : p < k
        · obtain ⟨b, off, x1, x2, x3, x4, rfl, hb, hx, hd0, _, _, _⟩ := RdQ.cut HS.out hpk
          have HPI : Hid ((ids jobs)[p]? = some x1) := by show _ = _; unfold ids; rw [List.getElem?_map, hx]; rfl
          have hpp0 : (0 : Int) ≤ (p : Int) := Int.natCast_nonneg _
          have hpp1 : (p : Int) < (k : Int) := by omega
          clear hx
          go_wp2
          go_loopw [11] (fun i wr => ∃ q : Nat, q ≤ p ∧ i = .int .i64 q ∧ Hid (x1 ∉ (ids jobs).take q) ∧ Ext w wr) (fun i _ => p - (intOf i).toNat)
          case atStart => exact ⟨0, by omega, rfl, (fun h => by simp at h), HX3.out⟩
          case round =>
            obtain ⟨q, hq, rfl, HQ, hext⟩ := hrel
            by_cases hqp : q < p
            · obtain ⟨_, _, y1, y2, y3, y4, hA, _, hy, he0, _, _, _⟩ := RdQ.cut HS.out (k := q) (by omega)
              injection hA with hA; injection hA with hA1 hA2 _; subst hA1; subst hA2
              have HQI : Hid ((ids jobs)[q]? = some y1) := by show _ = _; unfold ids; rw [List.getElem?_map, hy]; rfl
              have hc0 := hext.cell' hd0
              have hc1 := hext.cell' he0
              have HXQ : Hid (∀ z, Ext w (wr.drewN z)) := fun z => below_drewN' hext z
              have hqq0 : (0 : Int) ≤ (q : Int) := Int.natCast_nonneg _
              have hqq1 : (q : Int) < (k : Int) := by omega
              clear hy hext
              by_cases he : x1 = y1
              · have d0 : (x1 == y1) = true := by simpa using he
                have HE : Hid (chkJ l now jobs = 51) := chkJ_twice HFA.out fun hnd => by
                  obtain ⟨g1, g2⟩ := List.getElem?_eq_some_iff.1 HPI.out
                  obtain ⟨g3, g4⟩ := List.getElem?_eq_some_iff.1 HQI.out
                  have := List.pairwise_iff_getElem.1 hnd q p g3 g1 hqp
                  rw [g4, g2] at this
                  exact this he.symm
                clear he
                go_wp2
                go_quiet (fail)
                go_wp2
                (try rw [Exit.noGoto_ret])
                go_ret
                exact ⟨by rw [HE.out]; rfl, HXQ.out _⟩
              · have d0 : (x1 == y1) = false := by simpa using he
                have HNX : Hid (x1 ∉ (ids jobs).take (q + 1)) := fun h => by
                  rw [take_snoc' HQI.out] at h
                  rcases List.mem_append.1 h with h | h
                  · exact HQ.out h
                  · simp at h; exact he h
                clear he
                go_wp2
                go_quiet (fail)
                go_wp2
                go_roundw
                case rel => exact ⟨q + 1, by omega, by go_num, HNX, HXQ.out _⟩
                case measure => simp [intOf]; omega
            · obtain rfl : q = p := by omega
              have HNX : Hid (((ids jobs).take (q + 1)).Nodup) := nodup_next HPI.out HN.out HQ.out
              have Hext := Lib.hid hext
              have hz : decide (q < q) = false := by simp
              clear hext hqp
              go_wp2
              go_roundw
              case rel => exact ⟨q + 1, by omega, by go_num, HNX, Hext.out⟩
              case measure => simp [intOf]; omega
        · have hil : (ids jobs).length = k := by unfold ids; rw [List.length_map]; exact RdL.len HS.out
          have HE : Hid (chkJ l now jobs = 0) := chkJ_ok HFA.out (by have := HN.out; rwa [take_all' hil (by omega)] at this)
          clear hil
          go_wp2
          (try rw [Exit.noGoto_ret])
          go_ret
          exact ⟨by rw [HE.out]; rfl, HX3.out⟩
end Go.Proofs.Ytbcpjdjlgmhohaa
