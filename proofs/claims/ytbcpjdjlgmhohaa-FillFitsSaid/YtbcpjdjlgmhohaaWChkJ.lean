/-
  Walks: which jobs may be, by the program. Conditions: none.
-/
import Derived.Test.YtbcpjdjlgmhohaaMPJ
import Derived.Test.YtbcpjdjlgmhohaaWCmp
import Derived.Test.YtbcpjdjlgmhohaaMChk
import Derived.Maps.OwnSet
import Derived.Maps.Own
import Derived.Maps.Keyed
namespace Go.Proofs.Ytbcpjdjlgmhohaa
open Go.RowKit Go.Maps
set_option linter.unusedVariables false
set_option linter.unusedSimpArgs false

set_option maxHeartbeats 2000000 in
theorem fillRight (x1 x2 x3 x4 : Int) (w : World) : Calls Try.prog 42 #[.agg #[.int .i64 x1, .int .i64 x2, .int .i64 x3, .int .i64 x4]] w fun e w' => e = .returned (.bool (okJ (x1, x2, x3, x4))) ∧ Ext w w' := by
  by_cases c1 : 1 ≤ x1
  case neg =>
    have HE : Hid (okJ (x1, x2, x3, x4) = false) := decide_eq_false fun h => c1 h.1
    go_enter Try.func42, Try.ntmps42
    go_wp2
    (try rw [Exit.noGoto_ret])
    go_ret
    exact ⟨by rw [HE.out]; rfl, (Below.refl _ _).alloc (Nat.le_refl _) _⟩
  by_cases c2 : 0 ≤ x2
  case neg =>
    have HE : Hid (okJ (x1, x2, x3, x4) = false) := decide_eq_false fun h => c2 h.2.1
    go_enter Try.func42, Try.ntmps42
    go_wp2
    (try rw [Exit.noGoto_ret])
    go_ret
    exact ⟨by rw [HE.out]; rfl, (Below.refl _ _).alloc (Nat.le_refl _) _⟩
  by_cases c3 : x2 ≤ 1000
  case neg =>
    have HE : Hid (okJ (x1, x2, x3, x4) = false) := decide_eq_false fun h => c3 h.2.2.1
    go_enter Try.func42, Try.ntmps42
    go_wp2
    (try rw [Exit.noGoto_ret])
    go_ret
    exact ⟨by rw [HE.out]; rfl, (Below.refl _ _).alloc (Nat.le_refl _) _⟩
  by_cases c4 : 1 ≤ x3
  case neg =>
    have HE : Hid (okJ (x1, x2, x3, x4) = false) := decide_eq_false fun h => c4 h.2.2.2.1
    go_enter Try.func42, Try.ntmps42
    go_wp2
    (try rw [Exit.noGoto_ret])
    go_ret
    exact ⟨by rw [HE.out]; rfl, (Below.refl _ _).alloc (Nat.le_refl _) _⟩
  by_cases c5 : x3 ≤ 10000
  case neg =>
    have HE : Hid (okJ (x1, x2, x3, x4) = false) := decide_eq_false fun h => c5 h.2.2.2.2.1
    go_enter Try.func42, Try.ntmps42
    go_wp2
    (try rw [Exit.noGoto_ret])
    go_ret
    exact ⟨by rw [HE.out]; rfl, (Below.refl _ _).alloc (Nat.le_refl _) _⟩
  by_cases c6 : 1 ≤ x4
  case neg =>
    have HE : Hid (okJ (x1, x2, x3, x4) = false) := decide_eq_false fun h => c6 h.2.2.2.2.2.1
    go_enter Try.func42, Try.ntmps42
    go_wp2
    (try rw [Exit.noGoto_ret])
    go_ret
    exact ⟨by rw [HE.out]; rfl, (Below.refl _ _).alloc (Nat.le_refl _) _⟩
  by_cases c7 : isT x4 = true
  case neg =>
    have HE : Hid (okJ (x1, x2, x3, x4) = false) := decide_eq_false fun h => c7 h.2.2.2.2.2.2
    have c8 : isT x4 = false := by simpa using c7
    clear c7
    go_enter Try.func42, Try.ntmps42
    go_wp2_with (go_at_call 39; refine (clkIsV ‹_› _).mono ?_; rintro e w' ⟨rfl, rfl⟩)
    (try rw [Exit.noGoto_ret])
    go_ret
    exact ⟨by rw [HE.out]; rfl, (Below.refl _ _).alloc (Nat.le_refl _) _⟩
  have HE : Hid (okJ (x1, x2, x3, x4) = true) := decide_eq_true ⟨c1, c2, c3, c4, c5, c6, c7⟩
  go_enter Try.func42, Try.ntmps42
  go_wp2_with (go_at_call 39; refine (clkIsV ‹_› _).mono ?_; rintro e w' ⟨rfl, rfl⟩)
  (try rw [Exit.noGoto_ret])
  go_ret
  exact ⟨by rw [HE.out]; rfl, (Below.refl _ _).alloc (Nat.le_refl _) _⟩

set_option maxHeartbeats 2000000 in
theorem fillCheck1 (x1 x2 x3 x4 : Int) (w : World) : Calls Try.prog 41 #[.agg #[.int .i64 x1, .int .i64 x2, .int .i64 x3, .int .i64 x4]] w fun e w' => e = .returned (.bool (!okJ (x1, x2, x3, x4))) ∧ Ext w w' := by
  go_enter Try.func41, Try.ntmps41
  go_wp2_with fail
  refine (fillRight x1 x2 x3 x4 _).mono ?_
  rintro e w1 ⟨rfl, hx1⟩
  have HX : Hid (Ext w w1) := ((Below.refl _ _).alloc (Nat.le_refl _) _).trans (hx1.mono (by simp))
  clear hx1
  go_wp2
  (try rw [Exit.noGoto_ret])
  go_ret
  exact ⟨rfl, HX.out⟩
theorem fillCheck1V {x1 x2 x3 x4 : Int} {v : Bool} (h : okJ (x1, x2, x3, x4) = v) (w : World) : Calls Try.prog 41 #[.agg #[.int .i64 x1, .int .i64 x2, .int .i64 x3, .int .i64 x4]] w fun e w' => e = .returned (.bool (!v)) ∧ Ext w w' := by
  subst h; exact fillCheck1 x1 x2 x3 x4 w
def allOk (l : List Jb) : Bool := l.all okJ
def GivesIdx (l : List Jb) (w : World) (e : Ending) (w' : World) : Prop := ∃ k : Int, e = .returned (.int .i64 k) ∧ (allOk l = true ∧ k = -1 ∨ allOk l = false ∧ 0 ≤ k) ∧ Ext w w'
set_option maxHeartbeats 2000000 in
theorem idxFunc (A : Option Addr) (n c : Nat) (l : List Jb) (w : World) (hr : RdQ w A n l) (hn : n ≤ 1000000) :
    Calls Try.prog 59 #[.slice A n c, .func (.func 41) #[] #[]] w (GivesIdx l w) := by
  have HR := Lib.hid hr; clear hr
  go_enter Try.func59, Try.ntmps59
  go_wp2
  go_loopw [8] (fun i wr => ∃ k : Nat, k ≤ n ∧ i = .int .i64 k ∧ Hid (allOk (l.take k) = true) ∧ Ext w wr) (fun i _ => n - (intOf i).toNat)
  case atStart => exact ⟨0, by omega, rfl, rfl, Ext.rfl'⟩
  case round =>
    obtain ⟨k, hk, rfl, HK, hext⟩ := hrel
    by_cases hlt : k < n
    · obtain ⟨b, off, x1, x2, x3, x4, rfl, hb, hx, hd0, hd1, hd2, hd3⟩ := RdQ.cut HR.out hlt
      replace hd0 := hext.cell' hd0
      replace hd1 := hext.cell' hd1
      replace hd2 := hext.cell' hd2
      replace hd3 := hext.cell' hd3
      have Hext := Lib.hid hext
      have Hx := Lib.hid hx
      clear hx hext
      cases hv : okJ (x1, x2, x3, x4) with
      | true =>
        have HV := Lib.hid hv
        have HN : Hid (allOk (l.take (k + 1)) = true) := by show _ = _; unfold allOk; rw [take_snoc' Hx.out, List.all_append, show (l.take k).all okJ = true from HK.out]; simp [hv]
        clear hv
        go_wp2_with fail
        refine (fillCheck1V HV.out _).mono ?_
        rintro e w1 ⟨rfl, hx1⟩
        have HX1 := Lib.hid (Hext.out.trans' hx1)
        clear hx1
        go_wp2
        go_roundw
        case rel => exact ⟨k + 1, by omega, by go_num, HN, HX1.out⟩
        case measure => simp [intOf]; omega
      | false =>
        have HV := Lib.hid hv
        have HN : Hid (allOk l = false) := by
          show _ = _
          rw [← Bool.not_eq_true]
          intro h
          have := List.all_eq_true.1 h _ (List.mem_of_getElem? Hx.out)
          rw [hv] at this; cases this
        clear hv
        go_wp2_with fail
        refine (fillCheck1V HV.out _).mono ?_
        rintro e w1 ⟨rfl, hx1⟩
        have HX1 := Lib.hid (Hext.out.trans' hx1)
        clear hx1
        go_wp2
        (try rw [Exit.noGoto_ret])
        go_ret
        exact ⟨_, rfl, .inr ⟨HN.out, Int.natCast_nonneg _⟩, HX1.out⟩
    · have HF : Hid (allOk l = true) := by have := HK.out; rwa [take_all' (RdL.len HR.out) (by omega)] at this
      have Hext := Lib.hid hext
      clear hext
      go_wp2
      (try rw [Exit.noGoto_ret])
      go_ret
      exact ⟨_, rfl, .inl ⟨HF.out, rfl⟩, Hext.out⟩
set_option maxHeartbeats 2000000 in
theorem containsFunc (A : Option Addr) (n c : Nat) (l : List Jb) (w : World) (hr : RdQ w A n l) (hn : n ≤ 1000000) :
    Calls Try.prog 40 #[.slice A n c, .func (.func 41) #[] #[]] w fun e w' => e = .returned (.bool (!allOk l)) ∧ Ext w w' := by
  have HR := Lib.hid hr; clear hr
  go_enter Try.func40, Try.ntmps40
  go_wp2_with fail
  refine (idxFunc A n c l _ HR.out hn).mono ?_
  rintro e w1 ⟨k, rfl, hk, hx1⟩
  have HX1 := Lib.hid hx1
  clear hx1
  rcases hk with ⟨h1, rfl⟩ | ⟨h1, h2⟩
  · have H1 := Lib.hid h1
    clear h1
    go_wp2
    (try rw [Exit.noGoto_ret])
    go_ret
    exact ⟨by rw [H1.out]; rfl, HX1.out⟩
  · have H1 := Lib.hid h1
    clear h1
    have d : decide (k ≥ 0) = true := decide_eq_true h2
    go_wp2
    (try rw [Exit.noGoto_ret])
    go_ret
    exact ⟨by rw [H1.out]; rfl, HX1.out⟩
theorem containsFuncV {l : List Jb} {v : Bool} (h : allOk l = v) (A : Option Addr) (n c : Nat) (w : World) (hr : RdQ w A n l) (hn : n ≤ 1000000) :
    Calls Try.prog 40 #[.slice A n c, .func (.func 41) #[] #[]] w fun e w' => e = .returned (.bool (!v)) ∧ Ext w w' := by
  subst h; exact containsFunc A n c l w hr hn
theorem allOk_iff (l : List Jb) : allOk l = true ↔ ∀ j ∈ l, JobOk j := by unfold allOk; rw [List.all_eq_true]; simp only [okJ, decide_eq_true_eq]

theorem lawInt : Keyed Try.prog 3 := int_keyed Try.underlying3
theorem setOf_next (l : List Jb) (k : Nat) {x : Jb} (h : l[k]? = some x) : setOf (.lit (.bool true) : DataW Unit) ((ids (l.take (k + 1))).map keyJ) = (setOf (.lit (.bool true)) ((ids (l.take k)).map keyJ)).put (keyJ x.1) (.lit (.bool true)) := by
  unfold ids
  rw [take_snoc' h, List.map_append, List.map_append]
  exact setOf_snoc _ _ _
set_option maxRecDepth 100000 in
set_option maxHeartbeats 4000000 in
theorem fillCheck (A B : Option Addr) (n m c d : Nat) (l : List Stp) (now : Int) (jobs : List Jb) (w : World) (hr : RdP w A n l) (hs : RdQ w B m jobs) (hn : n ≤ 9223372036854775807) (hm : m ≤ 5000) (hwf : IdsWf jobs) :
    Calls Try.prog 20 #[.slice A n c, .int .i64 now, .slice B m d] w fun e w' => e = .returned (.int .i64 (chkJ l now jobs)) ∧ Ext w w' := by
  have HR := Lib.hid hr; clear hr
  have HS := Lib.hid hs; clear hs
  have hmm := @run_makeMap Try.prog
  rcases chkE_cases l with ⟨hp, hc⟩ | ⟨hp, hc⟩
  case inr =>
    have HC := Lib.hid hc; clear hc
    have HE : Hid (chkJ l now jobs = 2) := chkJ_bad fun h => hp h.1
    clear hp hmm
    go_enter Try.func20, Try.ntmps20
    go_wp2_with fail
    refine (stepsCheck A n c l _ HR.out hn).mono ?_
    rintro e w1 ⟨rfl, hx1⟩
    have HX := Lib.hid hx1; clear hx1
    rw [HC.out]
    go_wp2
    (try rw [Exit.noGoto_ret])
    go_ret
    exact ⟨by rw [HE.out]; rfl, HX.out⟩
  have HC := Lib.hid hc; clear hc
  have HP := Lib.hid hp; clear hp
  go_enter Try.func20, Try.ntmps20
  go_wp2_with fail
  refine (stepsCheck A n c l _ HR.out hn).mono ?_
  rintro e w1 ⟨rfl, hx1⟩
  have HX1 := Lib.hid hx1; clear hx1
  rw [HC.out]
  replace HS := Lib.hid (HS.out.ext HX1.out)
  go_wp2
  go_loopw [19] (fun i wr => ∃ k : Nat, k ≤ m ∧ i = .int .i64 k ∧ wr.ownsMap Try.prog 3 (plainElem Try.prog 4) w1.heap.size k (setOf (.lit (.bool true) : DataW Unit) ((ids (jobs.take k)).map keyJ)) ∧ Below w1.heap.size w1 wr) (fun i _ => m - (intOf i).toNat)
  case atStart => exact ⟨0, by omega, rfl, by simpa [ids, setOf] using World.ownsMap_made _ _ _ _, (Below.refl _ _).alloc (Nat.le_refl _) _⟩
  case round =>
    clear hmm
    obtain ⟨k, hk, rfl, hown, hbel⟩ := hrel
    by_cases hlt : k < m
    · obtain ⟨b, off, x1, x2, x3, x4, rfl, hb, hx, hd0, hd1, hd2, hd3⟩ := RdQ.cut HS.out hlt
      replace hd0 := Ext.cell' hbel hd0
      replace hd1 := Ext.cell' hbel hd1
      replace hd2 := Ext.cell' hbel hd2
      replace hd3 := Ext.cell' hbel hd3
      have hxw := hwf _ (List.mem_of_getElem? hx)
      have HKEY : Hid (keyOf Try.prog 3 (.int .i64 x1) = some (keyJ x1)) := keyOf_int_mk Try.underlying3 (WalkArith.wf_i64 hxw)
      have HST := Lib.hid (setOf_next jobs k hx)
      obtain ⟨C, HCC⟩ : ∃ C, Hid (setOf (.lit (.bool true) : DataW Unit) ((ids (jobs.take k)).map keyJ) = C) := ⟨_, rfl⟩
      rw [HCC.out] at hown HST
      have HB := Lib.hid hbel
      have HO := Lib.hid hown
      clear hx hxw hbel hown
      go_wp2_with (at_mapUpdate; refine wpList_mapUpdate_own _ rfl _ _ _ 76 rfl 3 4 lawInt Try.underlying76 _ w1.heap.size k _ rfl (HO.out.kept (World.grownBy_alloc _ _ none) (by simp)) (by unfold maxLen; omega) _ _ _ rfl rfl HKEY.out _ [] (plainElem_bool Try.underlying4 true) ?_; intro w2 hown2 hgrow2; have HO2 := Lib.hid hown2; have HG2 := Lib.hid hgrow2; clear hown2 hgrow2)
      go_roundw
      case rel => exact ⟨k + 1, by omega, by go_num, by rw [HST.out]; exact HO2.out, (HB.out.alloc HB.out.size _).grown HG2.out (by have := HB.out.size; simp; omega) (fun j hj => by cases hj; exact Nat.le_refl _)⟩
      case measure => simp [intOf]; omega
    · obtain rfl : k = m := by omega
      rw [take_all' (RdL.len HS.out) (Nat.le_refl _)] at hown
      have hsz := size_ids (.lit (.bool true)) (xs := ids jobs) (fun x hx => by obtain ⟨j, hj, rfl⟩ := List.mem_map.1 hx; exact hwf j hj)
      have hil : (ids jobs).length = k := by unfold ids; rw [List.length_map]; exact RdL.len HS.out
      rw [hil] at hsz
      obtain ⟨z, HZ⟩ : ∃ z, Hid (Maps.size (setOf (.lit (.bool true) : DataW Unit) ((ids jobs).map keyJ)) = z) := ⟨_, rfl⟩
      rw [HZ.out] at hsz
      have HSZ := Lib.hid hsz
      have HO := Lib.hid hown
      have HXW : Hid (Ext w wr) := HX1.out.trans' hbel
      have HB := Lib.hid hbel
      clear hsz hown hbel hlt hil
      by_cases cn : isT now = false
      · have HE : Hid (chkJ l now jobs = 2) := chkJ_bad fun h => by have h2 := h.2.1; rw [cn] at h2; cases h2
        have HX := HXW
        go_wp2_with (go_at_call 39; refine (clkIsV cn _).mono ?_; rintro e w' ⟨rfl, rfl⟩)
        (try rw [Exit.noGoto_ret])
        go_ret
        exact ⟨by rw [HE.out]; rfl, HX.out⟩
      replace cn : isT now = true := by simpa using cn
      cases hall : allOk jobs with
      | false =>
        have HE : Hid (chkJ l now jobs = 2) := chkJ_bad fun h => by rw [(allOk_iff jobs).2 h.2.2] at hall; cases hall
        have HALL := Lib.hid hall
        clear hall
        go_wp2_with (go_at_call 39; refine (clkIsV cn _).mono ?_; rintro e w' ⟨rfl, rfl⟩)
        refine (containsFuncV HALL.out B k d _ (HS.out.ext HB.out) (by omega)).mono ?_
        rintro e w3 ⟨rfl, hx3⟩
        have HX := Lib.hid (HXW.out.trans' hx3)
        clear hx3
        go_wp2
        (try rw [Exit.noGoto_ret])
        go_ret
        exact ⟨by rw [HE.out]; rfl, HX.out⟩
      | true =>
        have HFA : Hid (FillArg l now jobs) := ⟨HP.out, cn, (allOk_iff jobs).1 hall⟩
        have HALL := Lib.hid hall
        clear hall
        by_cases hnd : (ids jobs).Nodup
        · have HE := Lib.hid (chkJ_ok HFA.out hnd)
          have hz : decide (z < k) = false := decide_eq_false fun h => HSZ.out.2.1 h hnd
          clear hnd
          go_wp2_with (go_at_call 39; refine (clkIsV cn _).mono ?_; rintro e w' ⟨rfl, rfl⟩)
          refine (containsFuncV HALL.out B k d _ (HS.out.ext HB.out) (by omega)).mono ?_
          rintro e w3 ⟨rfl, hx3⟩
          have HX := Lib.hid (HXW.out.trans' hx3)
          have HO3 : Hid (w3.ownsMap Try.prog 3 (plainElem Try.prog 4) w1.heap.size k (setOf (.lit (.bool true) : DataW Unit) ((ids jobs).map keyJ))) := HO.out.kept (row := none) ⟨hx3.os, hx3.tape, hx3.output, hx3.size, fun j h1 _ => hx3.block j h1⟩ (by simp)
          clear hx3
          go_wp2_with (at_len; refine wpList_len_own _ rfl _ 76 rfl 3 4 Try.underlying76 _ w1.heap.size k _ rfl HO3.out ?_; rw [HZ.out])
          (try rw [Exit.noGoto_ret])
          go_ret
          exact ⟨by rw [HE.out]; rfl, HX.out⟩
        · have HE := Lib.hid (chkJ_twice HFA.out hnd)
          have hz : decide (z < k) = true := decide_eq_true (HSZ.out.2.2 hnd)
          clear hnd
          go_wp2_with (go_at_call 39; refine (clkIsV cn _).mono ?_; rintro e w' ⟨rfl, rfl⟩)
          refine (containsFuncV HALL.out B k d _ (HS.out.ext HB.out) (by omega)).mono ?_
          rintro e w3 ⟨rfl, hx3⟩
          have HX := Lib.hid (HXW.out.trans' hx3)
          have HO3 : Hid (w3.ownsMap Try.prog 3 (plainElem Try.prog 4) w1.heap.size k (setOf (.lit (.bool true) : DataW Unit) ((ids jobs).map keyJ))) := HO.out.kept (row := none) ⟨hx3.os, hx3.tape, hx3.output, hx3.size, fun j h1 _ => hx3.block j h1⟩ (by simp)
          clear hx3
          go_wp2_with (at_len; refine wpList_len_own _ rfl _ 76 rfl 3 4 Try.underlying76 _ w1.heap.size k _ rfl HO3.out ?_; rw [HZ.out])
          (try rw [Exit.noGoto_ret])
          go_ret
          exact ⟨by rw [HE.out]; rfl, HX.out⟩
end Go.Proofs.Ytbcpjdjlgmhohaa
