/-
  Walk: the statement FillAll. Conditions: none.
-/
import Derived.Test.YtbcpjdjlgmhohaaWKnown15
import Derived.Test.YtbcpjdjlgmhohaaWPlcR
import Derived.Test.YtbcpjdjlgmhohaaPEnd
import Derived.Test.YtbcpjdjlgmhohaaOpen
namespace Go.Proofs.Ytbcpjdjlgmhohaa
open Go.RowKit
set_option linter.unusedVariables false
set_option linter.unusedSimpArgs false

theorem idsA_wf {l : List Jb} (h : ∀ s ∈ l, (Lit.int .i64 s.1).wf = true ∧ (Lit.int .i64 s.2.1).wf = true ∧ (Lit.int .i64 s.2.2.1).wf = true ∧ (Lit.int .i64 s.2.2.2).wf = true) : IdsWf l := fun j hj => wf64 (h j hj).1
def NodesOk (l : List Jb) : Prop := ∀ j ∈ l, 1 ≤ j.2.2.1 ∧ j.2.2.1 ≤ 10000
theorem sumN_append (l m : List Jb) : sumN (l ++ m) = sumN l + sumN m := by
  induction l with
  | nil => simp [sumN]
  | cons j l ih =>
    simp only [sumN, List.cons_append, List.map_cons, List.foldr_cons] at ih ⊢
    rw [ih]; omega
theorem sumN_bd {l : List Jb} (h : NodesOk l) : 0 ≤ sumN l ∧ sumN l ≤ 10000 * (l.length : Int) := by
  induction l with
  | nil => simp [sumN]
  | cons j l ih =>
    have h1 := ih fun k hk => h k (by simp [hk])
    have h2 := h j (by simp)
    have : sumN (j :: l) = j.2.2.1 + sumN l := rfl
    rw [this, List.length_cons]
    omega
theorem sumN_perm {l m : List Jb} (h : l.Perm m) : sumN l = sumN m := by
  induction h with
  | nil => rfl
  | cons x _ ih => show x.2.2.1 + sumN _ = x.2.2.1 + sumN _; rw [ih]
  | swap x y l => show y.2.2.1 + (x.2.2.1 + sumN l) = x.2.2.1 + (y.2.2.1 + sumN l); omega
  | trans _ _ ih1 ih2 => exact ih1.trans ih2
/-- so far counted -/
def CntI (a : Int) (l : List Jb) (k : Nat) (s : Int) : Prop := NodesOk (l.take k) → s = a + sumN (l.take k)
def FarI (l : List Jb) (k : Nat) (b : Bool) : Prop := b = false → ∀ j ∈ l.take k, j.2.2.2 ≤ 1000
theorem cnt_next {a : Int} {l : List Jb} {k : Nat} {s : Int} {x : Jb} (h : CntI a l k s) (hx : l[k]? = some x) (ha : 0 ≤ a ∧ a ≤ 255) (hk : k < 30) : CntI a l (k + 1) (IntKind.i64.wrap (s + x.2.2.1)) := fun hn => by
  have e : l.take (k + 1) = l.take k ++ [x] := take_snoc' hx
  have h1 : NodesOk (l.take k) := fun j hj => hn j (by rw [e]; simp [hj])
  have h2 := hn x (by rw [e]; simp)
  have h3 := sumN_bd h1
  have h4 : (l.take k).length ≤ k := by simp; omega
  have h5 := h h1
  have h6 : s + x.2.2.1 = a + sumN (l.take (k + 1)) := by
    rw [h5, e, sumN_append]; show _ = a + (sumN (l.take k) + (x.2.2.1 + 0)); omega
  rw [h6]
  have h7 : sumN (l.take (k + 1)) = sumN (l.take k) + x.2.2.1 := by rw [e, sumN_append]; show _ + (x.2.2.1 + 0) = _; omega
  exact IntWalk.i64_in _ (by omega)
theorem far_next {l : List Jb} {k : Nat} {b : Bool} {x : Jb} (h : FarI l k b) (hx : l[k]? = some x) {b' : Bool} (h1 : b' = false → b = false ∧ x.2.2.2 ≤ 1000) : FarI l (k + 1) b' := fun hb j hj => by
  rw [take_snoc' hx] at hj
  rcases List.mem_append.1 hj with hj | hj
  · exact h (h1 hb).1 j hj
  · simp at hj; subst hj; exact (h1 hb).2
/-- what they all have -/
theorem all_begin {s now : Int} {jobs : List Jb} {a : Int} (hc : chkJ [(0, s)] now jobs = 0) (hb : now ≤ 1000000) (ha : 0 ≤ a ∧ a ≤ 255) (hm : jobs.length ≤ 20) (hn : CntI a jobs jobs.length s) (hf : ∀ j ∈ jobs, j.2.2.2 ≤ 1000) :
    plcE [(0, s)] now 0 jobs = 0 ∧ (plcR [(0, s)] now 0 jobs).map (·.1) = (orderJ jobs).map (·.1) := by
  obtain ⟨h1, h2⟩ := chkJ_zero hc
  have h3 := plc_ok (deep := 0) hc (by decide)
  have hN : NodesOk jobs := fun j hj => ⟨(h1.2.2 j hj).2.2.2.1, (h1.2.2 j hj).2.2.2.2.1⟩
  have hs : s = a + sumN jobs := by
    have := hn
    unfold CntI at this
    rw [List.take_length] at this
    exact this hN
  have := all_now h1.2.1 hb (orderJ jobs) [(0, s)] h1.1 (fun j hj => ⟨h1.2.2 j (isort_mem.1 hj), hf j (isort_mem.1 hj)⟩) (by rw [orderJ_len]; simp; omega) (fun x hx => by
    rw [show sumN (orderJ jobs) = sumN jobs from sumN_perm (isort_perm jobs)]
    have : freeT [(0, s)] x = s := by simp [freeT, hx]
    omega)
  refine ⟨h3.1, ?_⟩
  rw [h3.2, this, List.map_map]; rfl

set_option maxRecDepth 100000 in
set_option maxHeartbeats 1000000 in
theorem walk_fall (B : Option Addr) (m d : Nat) (now : Int) (jobs : List Jb) (a : Int) (W : World) (hs : RdQ W B m jobs) (hm : m ≤ 9223372036854775807) (hwf : IdsWf jobs) (ha : 0 ≤ a ∧ a ≤ 255) :
    Calls Try.prog 6 #[.int .i64 now, .slice B m d, .int .u8 a] W fun e w' => e = .returned (.bool true) ∧ Ext W w' := by
  have HS := Lib.hid hs; clear hs
  have HJL : Hid (jobs.length = m) := RdL.len HS.out
  obtain ⟨i0, hi0, hz0, hz1, hz2⟩ := info_parts Try.infoInt9
  go_enter Try.func6, Try.ntmps6
  go_wp2
  go_loopw [7, 8, 9] (fun nv fv iv wr => ∃ (k : Nat) (s : Int) (b : Bool), k ≤ m ∧ k ≤ 30 ∧ nv = .int .i64 s ∧ fv = .bool b ∧ iv = .int .i64 k ∧ Hid (CntI a jobs k s) ∧ Hid (FarI jobs k b) ∧ Ext W wr) (fun _ _ iv _ => m - (intOf iv).toNat)
  case atStart => exact ⟨0, a, false, by omega, by omega, by go_num, rfl, rfl, (fun _ => by simp [sumN]), (fun _ j hj => by simp at hj), Ext.rfl'⟩
  case round =>
    obtain ⟨k, s, b, hkm, hk30, rfl, rfl, rfl, HC, HF, hext⟩ := hrel
    have HX := Lib.hid hext
    by_cases hlt : k < m
    · by_cases hl30 : k < 30
      · obtain ⟨bb, off, x1, x2, x3, x4, rfl, hb, hx, _, _, hd2, hd3⟩ := RdQ.cut HS.out hlt
        replace hd2 := hext.cell' hd2
        replace hd3 := hext.cell' hd3
        have HCN : Hid (CntI a jobs (k + 1) (wrap64 (s + x3))) := by
          have h := cnt_next HC.out hx ha hl30
          rw [IntWalk.i64_left] at h
          exact h
        have hkk0 : (0 : Int) ≤ (k : Int) := Int.natCast_nonneg _
        have hkk1 : (k : Int) < (m : Int) := by omega
        cases b with
        | true =>
          have HFN : Hid (FarI jobs (k + 1) true) := fun h => by cases h
          clear hx hext
          go_wp2
          go_roundw
          case rel => exact ⟨k + 1, _, _, by omega, by omega, rfl, rfl, by go_num, HCN, HFN, HX.out⟩
          case measure => simp [intOf]; omega
        | false =>
          have HFN : Hid (FarI jobs (k + 1) (decide (1000 < x4))) := far_next HF.out hx fun h => ⟨rfl, by simp at h; exact h⟩
          clear hx hext
          go_wp2
          go_roundw
          case rel => exact ⟨k + 1, _, _, by omega, by omega, rfl, rfl, by go_num, HCN, HFN, HX.out⟩
          case measure => simp [intOf]; omega
      · have h20 : 20 < m := by omega
        clear hext
        go_wp2_with fail
        refine (known15 _).mono ?_
        rintro e wz ⟨rfl, hxz⟩
        replace HX := Lib.hid (Ext.trans' (HX.out.alloc HX.out.size _) hxz)
        clear hxz
        go_wp2
        (try rw [Exit.noGoto_ret])
        go_ret
        exact ⟨rfl, HX.out⟩
    · obtain rfl : m = k := by omega
      clear hext
      by_cases h20 : 20 < m
      · skip
        go_wp2_with fail
        refine (known15 _).mono ?_
        rintro e wz ⟨rfl, hxz⟩
        replace HX := Lib.hid (Ext.trans' (HX.out.alloc HX.out.size _) hxz)
        clear hxz
        go_wp2
        (try rw [Exit.noGoto_ret])
        go_ret
        exact ⟨rfl, HX.out⟩
      cases b with
      | true =>
        go_wp2_with fail
        refine (known15 _).mono ?_
        rintro e wz ⟨rfl, hxz⟩
        replace HX := Lib.hid (Ext.trans' (HX.out.alloc HX.out.size _) hxz)
        clear hxz
        go_wp2
        (try rw [Exit.noGoto_ret])
        go_ret
        exact ⟨rfl, HX.out⟩
      | false =>
        by_cases hnow : 1000000 < now
        · skip
          go_wp2_with fail
          refine (known15 _).mono ?_
          rintro e wz ⟨rfl, hxz⟩
          replace HX := Lib.hid (Ext.trans' (HX.out.alloc HX.out.size _) hxz)
          clear hxz
          go_wp2
          (try rw [Exit.noGoto_ret])
          go_ret
          exact ⟨rfl, HX.out⟩
        replace HF : Hid (∀ j ∈ jobs, j.2.2.2 ≤ 1000) := fun j hj => HF.out rfl j (by rw [take_all' HJL.out (Nat.le_refl _)]; exact hj)
        go_wp2_with fail
        have hoa := own_lit wr wr.heap.size 48 2 1 1 wr.heap.size #[.int .i64 0, .int .i64 s] (flat encP [(0, s)]) (Nat.le_refl _) rfl (by simp [maxLen]) rfl rfl rfl
        obtain ⟨Aa, ca, hva, hca, hra⟩ := RdL.of_own encP_len hoa rfl
        injection hva with hva1 _ hva2
        subst hva1; subst hva2
        clear hoa hca
        obtain ⟨wl, hwl⟩ : ∃ wl, wl = wr.alloc (.cells #[.int .i64 0, .int .i64 s] 48) := ⟨_, rfl⟩
        have HR : Hid (RdP wl (some ⟨wr.heap.size, 0, none⟩) 1 [(0, s)]) := by rw [hwl]; exact hra
        replace HS : Hid (RdQ wl B m jobs) := by rw [hwl]; exact (HS.out.ext HX.out).alloc' _
        replace HX : Hid (Ext W wl) := by rw [hwl]; exact HX.out.alloc HX.out.size _
        rw [← hwl]
        clear hra hwl
        refine (fillCheck _ B 1 m 1 d [(0, s)] now jobs _ HR.out HS.out (by omega) (by omega) hwf).mono ?_
        rintro e w1 ⟨rfl, hx1⟩
        replace HX := Lib.hid (HX.out.trans' hx1)
        replace HR := Lib.hid (HR.out.ext hx1)
        replace HS := Lib.hid (HS.out.ext hx1)
        clear hx1
        by_cases hc : chkJ [(0, s)] now jobs = 0
        case neg =>
          obtain ⟨C, HCC⟩ : ∃ C, chkJ [(0, s)] now jobs = C := ⟨_, rfl⟩
          rw [HCC] at hc ⊢
          have dC : (C == 0) = false := by simpa using hc
          have dC1 : (C != 0) = true := by simpa using hc
          go_wp2_with fail
          refine (known15 _).mono ?_
          rintro e wz ⟨rfl, hxz⟩
          replace HX := Lib.hid (HX.out.trans' hxz)
          clear hxz
          go_wp2
          (try rw [Exit.noGoto_ret])
          go_ret
          exact ⟨rfl, HX.out⟩
        obtain ⟨q1, q2⟩ := all_begin hc (by omega) ha (by rw [HJL.out]; omega) (by rw [HJL.out]; exact HC.out) HF.out
        have Q1 := Lib.hid q1
        have Q2 := Lib.hid q2
        rw [hc]
        clear q1 q2 hc HC HF
        go_wp2_with fail
        refine (fillNow _ B 1 m 1 d [(0, s)] now jobs _ HR.out HS.out (by omega) (by omega) (by omega) hwf).mono ?_
        rintro e w2 ⟨A1, m1, c1, rfl, hr1, hx2⟩
        replace HX := Lib.hid (HX.out.trans' hx2)
        replace HR := Lib.hid (HR.out.ext hx2)
        replace HS := Lib.hid (HS.out.ext hx2)
        clear hx2
        rw [Q2.out] at hr1
        rw [Q1.out]
        obtain rfl : m = m1 := by rw [← RdL.len hr1, List.length_map, orderJ_len]; exact HJL.out.symm
        have HP1 := Lib.hid hr1
        clear hr1
        go_wp2_with fail
        refine (fillOrder B _ d jobs _ HS.out (by omega)).mono ?_
        rintro e w3 ⟨v8, rfl, ho8, hx3⟩
        replace HX := Lib.hid (HX.out.trans' hx3)
        replace HR := Lib.hid (HR.out.ext hx3)
        replace HS := Lib.hid (HS.out.ext hx3)
        replace HP1 := Lib.hid (HP1.out.ext hx3)
        clear hx3
        rw [HJL.out] at ho8
        obtain ⟨A8, cA8, rfl, hcA8, hrA8⟩ := RdL.of_own encQ_len ho8 (by rw [orderJ_len]; exact HJL.out)
        have HO8 := Lib.hid hrA8
        clear ho8 hrA8
        go_wp2
        go_loopw [14, 15] (fun v i wr => ∃ q : Nat, q ≤ m ∧ i = .int .i64 q ∧ wr.ownsRow w3.heap.size 3 1 v q (flat encI (((orderJ jobs).take q).map (·.1))) ∧ Ext w3 wr) (fun _ i _ => m - (intOf i).toNat)
        case atStart => exact ⟨0, by omega, rfl, by simpa [flat] using World.ownsRow_nil _ _ _ _, Ext.rfl'⟩
        case round =>
          obtain ⟨q, hq, rfl, hown, hext⟩ := hrel
          by_cases hlt : q < m
          · obtain ⟨b, off, x1, x2, x3, x4, rfl, hb, hx, hd0, _, _, _⟩ := RdQ.cut HO8.out hlt
            replace hd0 := hext.cell' hd0
            have HN : Hid (flat encI (((orderJ jobs).take (q + 1)).map (·.1)) = flat encI (((orderJ jobs).take q).map (·.1)) ++ [.int .i64 x1]) := by
              show _ = _
              rw [take_snoc' hx, List.map_append]
              exact flat_append encI _ [x1]
            have Hext := Lib.hid hext
            have HOW := Lib.hid hown
            clear hext hx hown
            obtain ⟨G, HG⟩ : ∃ G, Hid (flat encI (((orderJ jobs).take q).map (·.1)) = G) := ⟨_, rfl⟩
            rw [HG.out] at HOW HN
            go_wp2_with (at_builtin; refine wpList_append_lies _ rfl _ _ _ rfl w3.heap.size 3 i0 _ 1 8 Try.underlying31 hi0 hz0 hz1 hz2 rfl (by omega) _ q G rfl (World.ownsRow.alloc HOW.out _) ⟨wr.heap.size, 0, none⟩ 1 1 [.int .i64 x1] rfl rfl (World.news_of_block (cs := #[.int .i64 x1]) (t := 3) (fr := (0, 0)) (heap_alloc_new wr _)) (by simp [Value.oneCell']) (by omega) (by simp only [maxLen]; omega) (by omega) (by have := Hext.out.size; simp; omega) (wr.heap.size + 1) (by simp) ?_; intro gg cap w9 hown1 hgrow hat hlt2; have Hown1 := Lib.hid hown1; have Hgrow := Lib.hid hgrow; clear hown1 hgrow hat)
            go_roundw
            case rel => exact ⟨q + 1, by omega, by go_num, by rw [HN.out]; exact Hown1.out, (Hext.out.alloc Hext.out.size _).grown Hgrow.out (by have := Hext.out.size; simp; omega) (fun z hz => (HOW.out.lt z hz).1)⟩
            case measure => simp [intOf]; omega
          · obtain rfl : q = m := by omega
            rw [take_all' (by rw [orderJ_len]; exact HJL.out) (Nat.le_refl _)] at hown
            obtain ⟨A4, c4, rfl, _, hr4⟩ := RdL.of_own encI_len hown (by rw [List.length_map, orderJ_len]; exact HJL.out)
            have HP4 := Lib.hid (HP1.out.ext hext)
            have HR4 := Lib.hid hr4
            replace HX := Lib.hid (HX.out.trans' hext)
            have hqq : ((q : Int) == (q : Int)) = true := by simp
            clear hown hr4 hext
            go_wp2_with fail
            refine (refSameIT A1 A4 q c1 q c4 _ _ HP4.out HR4.out (by omega) (by omega)).mono ?_
            rintro e w6 ⟨rfl, hx6⟩
            replace HX := Lib.hid (HX.out.trans' hx6)
            clear hx6
            go_wp2_with fail
            refine (known15 _).mono ?_
            rintro e w7 ⟨rfl, hx7⟩
            replace HX := Lib.hid (HX.out.trans' hx7)
            clear hx7
            go_wp2
            (try rw [Exit.noGoto_ret])
            go_ret
            exact ⟨rfl, HX.out⟩
end Go.Proofs.Ytbcpjdjlgmhohaa
