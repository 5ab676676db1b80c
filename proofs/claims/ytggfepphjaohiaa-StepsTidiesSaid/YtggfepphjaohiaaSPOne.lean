/-
  Walk: one element merged into a row behind it. Conditions: none.
-/
import Derived.Test.YtggfepphjaohiaaSPRot
namespace Go.Proofs.Ytggfepphjaohiaa
open Go.Shelf Go.RowKit Go.Lib Go.Sort

set_option maxHeartbeats 4000000 in
set_option maxRecDepth 1000000 in
theorem symOneP {P : Program} {α : Type} [Inhabited α] {k : Nat} (L : SLayP P k) (enc : α → List Value) (hk : ∀ x, (enc x).length = k) (h1 : ∀ x, ∀ v ∈ enc x, v.oneCell' = true)
    (cf : α → α → Int) (g : Nat) (cb : Array Value) (blk off cap : Nat) (d : Array α) (w : World) (eg : ∀ args w, (callFunc g args).run P w = .ok (.enter g args) w)
    (hcmp : CmpLays P g cb enc k cf blk off d.size w) (hH : HoldsK enc k w blk off d) (hblk : blk < w.heap.size) (hsz : d.size < 4611686018427387904)
    (o : Order cf) (p v s : List α) (x : α) (a m b m0 : Nat) (os0 : Array Obj) (hv : Srt cf v) (ha : p.length = a) (hm : a + 1 = m) (hb : m + v.length = b) (hd : d.size = b + s.length) (U : List α) (hU : [x] ++ v = U) :
    Calls P 50 #[.slice (some ⟨blk, off, none⟩) d.size cap, .int .i64 a, .int .i64 m, .int .i64 b, .func (.func g) #[] cb] (SWl enc k w blk off m0 (p ++ [x] ++ v ++ s) os0) (GivesSW enc k w blk off (Merged cf p s U)) := by
  have mixed := L.mixed; have aE := L.aE; have zE := L.zE; have tyi := L.tyi; have agi := L.agi; have szi := L.szi; have zvi := L.zvi; have tyb := L.tyb; have agb := L.agb; have szb := L.szb; have zvb := L.zvb; have tyu := L.tyu; have agu := L.agu; have szu := L.szu; have zvu := L.zvu; have tys := L.tys; have ags := L.ags; have szs := L.szs; have zvs := L.zvs; have tyf := L.tyf; have agf := L.agf; have szf := L.szf; have zvf := L.zvf; have tyn := L.tyn; have agn := L.agn; have szn := L.szn; have zvn := L.zvn
  have HC : Aside _ := hcmp
  have HH : Hid (HoldsK enc k w blk off d) := hH
  have HK : Hid (∀ x, (enc x).length = k) := hk
  have H1 : Hid (∀ x, ∀ v ∈ enc x, v.oneCell' = true) := h1
  clear hcmp hH hk h1
  have HO : Hid (Order cf) := o
  have HV : Hid (Srt cf v) := hv
  clear o hv
  obtain ⟨dk, hdk⟩ : ∃ dk, dk = (p ++ [x] ++ v ++ s).toArray := ⟨_, rfl⟩
  have HX : Hid (dk[a]! = x) := by show _ = _; rw [hdk, List.append_assoc (p ++ [x])]; exact get_at (t := 0) ha rfl
  have HG : Hid (∀ (t : Nat) (y : α), v[t]? = some y → dk[m + t]! = y) := fun t y h => by rw [hdk]; exact get_at (by simp; omega) h
  have hsk : dk.size = d.size := by rw [hdk]; simp; omega
  have HD : Hid (dk = (p ++ v.take 0 ++ x :: v.drop 0 ++ s).toArray) := by show _ = _; rw [hdk]; simp
  have HSW1 : Hid (∀ t, t < v.length → swp (p ++ v.take t ++ x :: v.drop t ++ s).toArray (a + t) (a + t + 1) = (p ++ v.take (t + 1) ++ x :: v.drop (t + 1) ++ s).toArray) := fun t ht => ins_swp p v s x t a ha ht
  have HSZ : Hid (∀ t, (p ++ v.take t ++ x :: v.drop t ++ s).toArray.size = d.size) := fun t => by simp only [List.size_toArray, List.length_append, List.length_cons, List.length_take, List.length_drop]; omega
  obtain ⟨w0, hw0⟩ : ∃ w0, SWl enc k w blk off m0 (p ++ [x] ++ v ++ s) os0 = w0 := ⟨_, rfl⟩
  have HW0 : Hid (w0 = sortWorldK enc k w blk off m0 dk os0) := by show _ = _; rw [hdk]; exact hw0.symm
  rw [hw0]
  clear hw0 hdk
  have hvl : v.length = b - m := by omega
  have hmb : m ≤ b := by omega
  have hbd : b ≤ d.size := by omega
  clear ha hb hd
  have hm1 : m ≤ a + 1 := by omega
  have hm2 : a + 1 ≤ m := by omega
  clear hm
  have HU : Hid ([x] ++ v = U) := hU
  clear hU
  have hg : (((m : Int) - (a : Int)) == 1) = true := by simp; omega
  go_enter L.f2, Try.ntmps50
  go_wp2
  go_loopw [10, 11] (fun vi vj wr => ∃ (i j : Nat), vi = .int .i64 i ∧ vj = .int .i64 j ∧ m ≤ i ∧ i ≤ j ∧ j ≤ b ∧ AtW enc k w blk off dk wr ∧ Lows cf x v (i - m) (j - m)) (fun vi vj _ => (intOf vj - intOf vi).toNat)
  case atStart => exact ⟨m, b, rfl, rfl, by omega, by omega, by omega, ⟨m0, os0, HW0.out⟩, by simp, by rw [List.drop_of_length_le (by omega)]; simp⟩
  case round =>
    clear HW0
    obtain ⟨i, j, rfl, rfl, hai, hij, hjb, ⟨nd, os, hw⟩, hb⟩ := hrel
    have HW : Hid (wr = sortWorldK enc k w blk off nd dk os) := hw
    have HB : Hid (Lows cf x v (i - m) (j - m)) := hb
    clear hw hb
    by_cases hlt : i < j
    · obtain ⟨M, hM⟩ : ∃ M, (i + j) / 2 = M := ⟨_, rfl⟩
      have hM1 : i ≤ M ∧ M < j := by omega
      obtain ⟨M0, M1⟩ := hM1
      have em : ((i : Int) + (j : Int)) / 2 = (M : Int) := by omega
      have bM : (M : Int) < (d.size : Int) := by omega
      have bA : (a : Int) < (d.size : Int) := by omega
      obtain ⟨xI, hxI⟩ : ∃ y, dk[M]! = y := ⟨_, rfl⟩
      obtain ⟨xJ, hxJ⟩ : ∃ y, dk[a]! = y := ⟨_, rfl⟩
      have HY : Hid (v[M - m]? = some xI ∧ xJ = x) := by
        have hl : M - m < v.length := by omega
        have := HG.out (M - m) _ (List.getElem?_eq_getElem hl)
        rw [show m + (M - m) = M by omega, hxI] at this
        exact ⟨by rw [this]; exact List.getElem?_eq_getElem hl, hxJ.symm.trans HX.out⟩
      have hcls : ∀ n' os', grow (wr.drewN n') os' = sortWorldK enc k w blk off (nd + n') dk (os ++ os') := fun n' os' => by rw [HW.out]; exact sortWorldK_grown_c enc k w blk off nd n' dk os os'
      have hHc : ∀ n' os', HoldsK enc k (grow (wr.drewN n') os') blk off dk := fun n' os' => by rw [hcls]; exact holdsK_sortWorldK_c enc k w blk off d dk _ _ HH.out hblk hsk
      have lI : ∀ n' os', Sem.run P (loadCellsFrom ⟨blk, off + M * k, none⟩ 0 k #[]) (grow (wr.drewN n') os') = .ok (enc xI).toArray (grow (wr.drewN n') os') := fun n' os' => by
        rw [← hxI]; exact run_loadCellsFrom_list P _ _ _ k (HK.out _) (HoldsK.cells (hHc n' os') HK.out (by omega))
      have lJ : ∀ n' os', Sem.run P (loadCellsFrom ⟨blk, off + a * k, none⟩ 0 k #[]) (grow (wr.drewN n') os') = .ok (enc xJ).toArray (grow (wr.drewN n') os') := fun n' os' => by
        rw [← hxJ]; exact run_loadCellsFrom_list P _ _ _ k (HK.out _) (HoldsK.cells (hHc n' os') HK.out (by omega))
      have hcg : ∀ n' os', Calls P g (#[.agg (enc xI).toArray, .agg (enc xJ).toArray] ++ cb) (grow (wr.drewN n') os') fun e w' => e = .returned (.int .i64 (cf xI xJ)) ∧ ∃ q os'', w' = grow ((grow (wr.drewN n') os').drewN q) os'' := fun n' os' => by
        rw [hcls]; exact HC.out _ _ dk hsk xI xJ
      have CLS : Hid _ := hcls
      clear hcls hHc hxI hxJ
      clear hM
      by_cases hlv : cf xI xJ < 0
      · have HB' : Hid (Lows cf x v (M + 1 - m) (j - m)) := by
          refine ⟨?_, HB.out.2⟩
          rw [show M + 1 - m = M - m + 1 by omega]
          exact lo_take HO.out HV.out HY.out.1 (HY.out.2 ▸ hlv)
        go_wp2_with fail
        go_quiet_grown (first | (go_at_fn g; refine Calls.grown_of (hcg _ _)))
        go_wp2
        go_roundw
        case rel => exact ⟨M + 1, j, by go_num, rfl, by omega, by omega, hjb, ⟨_, _, CLS.out nq osq⟩, HB'.out⟩
        case measure => simp [intOf]; omega
      · have HB' : Hid (Lows cf x v (i - m) (M - m)) := by
          exact ⟨HB.out.1, lo_drop HO.out HV.out HY.out.1 (HY.out.2 ▸ hlv)⟩
        go_wp2_with fail
        go_quiet_grown (first | (go_at_fn g; refine Calls.grown_of (hcg _ _)))
        go_wp2
        go_roundw
        case rel => exact ⟨i, M, rfl, rfl, by omega, by omega, by omega, ⟨_, _, CLS.out nq osq⟩, HB'.out⟩
        case measure => simp [intOf]; omega
    · obtain rfl : i = j := by omega
      clear HC HX HG
      go_wp2
      go_loopw [13] (fun vk wr => ∃ (t : Nat), vk = .int .i64 ((a + t : Nat) : Int) ∧ m + t ≤ i ∧ AtW enc k w blk off (p ++ v.take t ++ x :: v.drop t ++ s).toArray wr) (fun vk _ => (i : Nat) - (intOf vk).toNat)
      case atStart => exact ⟨0, by go_num, by omega, nd, os, by rw [HW.out, HD.out]⟩
      case round =>
        clear HW
        obtain ⟨t, rfl, hti, ⟨nd, os, hw⟩⟩ := hrel
        have HW : Hid (wr = SWl enc k w blk off nd (p ++ v.take t ++ x :: v.drop t ++ s) os) := hw
        clear hw
        by_cases hlt2 : m + t < i
        · obtain ⟨I, hI⟩ : ∃ I, a + t = I := ⟨_, rfl⟩
          rw [hI]
          obtain ⟨J, hJ⟩ : ∃ J, I + 1 = J := ⟨_, rfl⟩
          have hg2 : (I : Int) < (i : Int) - 1 := by omega
          have wJ : IntKind.i64.wrap ((I : Int) + 1) = (J : Int) := by rw [IntKind.wrap_i64]; omega
          have bI : (I : Int) < (d.size : Int) := by omega
          have bJ : (J : Int) < (d.size : Int) := by omega
          obtain ⟨dj, hdj⟩ : ∃ dj, dj = (p ++ v.take t ++ x :: v.drop t ++ s).toArray := ⟨_, rfl⟩
          have hsj : dj.size = d.size := by rw [hdj]; exact HSZ.out t
          have HI : Hid (swp dj I J = (p ++ v.take (t + 1) ++ x :: v.drop (t + 1) ++ s).toArray) := by show _ = _; rw [hdj, ← hJ, ← hI]; exact HSW1.out t (by omega)
          replace HW : Hid (wr = sortWorldK enc k w blk off nd dj os) := by show _ = _; rw [hdj]; exact HW.out
          clear hdj
          go_wp2_with fail
          obtain ⟨xI, hxI⟩ : ∃ x, dj[I]! = x := ⟨_, rfl⟩
          obtain ⟨xJ, hxJ⟩ : ∃ x, dj[J]! = x := ⟨_, rfl⟩
          have hHd : HoldsK enc k wr.drew blk off dj := by
            have : HoldsK enc k wr blk off dj := by rw [HW.out]; exact holdsK_sortWorldK_c enc k w blk off d _ _ _ HH.out hblk hsj
            exact this
          have bnd : ∀ x, x < dj.size → x * k + k ≤ dj.size * k := fun x hx => by
            have := Nat.mul_le_mul_right k (show x + 1 ≤ dj.size from hx); rwa [Nat.add_mul, Nat.one_mul] at this
          have lI2 : Sem.run P (loadCellsFrom ⟨blk, off + I * k, none⟩ 0 k #[]) wr.drew = .ok (enc xI).toArray wr.drew := by rw [← hxI]; exact run_loadCellsFrom_list P _ _ _ k (HK.out _) (HoldsK.cells hHd HK.out (by omega))
          have lJ2 : Sem.run P (loadCellsFrom ⟨blk, off + J * k, none⟩ 0 k #[]) wr.drew = .ok (enc xJ).toArray wr.drew := by rw [← hxJ]; exact run_loadCellsFrom_list P _ _ _ k (HK.out _) (HoldsK.cells hHd HK.out (by omega))
          have s1 : Sem.run P (storeCells ⟨blk, off + I * k, none⟩ (enc xJ) 0) wr.drew = .ok () (wr.drew.setCells blk (off + I * k) (enc xJ)) := stores_of_holds P hHd (I * k) _ (by rw [HK.out, size_flatK]; exact bnd I (by omega)) (H1.out _)
          have s2 : Sem.run P (storeCells ⟨blk, off + J * k, none⟩ (enc xI) 0) (wr.drew.setCells blk (off + I * k) (enc xJ)) = .ok () ((wr.drew.setCells blk (off + I * k) (enc xJ)).setCells blk (off + J * k) (enc xI)) :=
            stores_of_holds P (holds_setCells_c hHd (I * k) _ (by rw [HK.out, size_flatK]; exact bnd I (by omega))) (J * k) _ (by rw [HK.out, size_setMany, size_flatK]; exact bnd J (by omega)) (H1.out _)
          have hsI : (enc xI).length = k := HK.out _
          have hsJ : (enc xJ).length = k := HK.out _
          have HSW : Hid (((wr.drew.setCells blk (off + I * k) (enc xJ)).setCells blk (off + J * k) (enc xI)) = sortWorldK enc k w blk off (nd + 1) (swp dj I J) os) := by
            show _ = _
            rw [HW.out, ← hxI, ← hxJ]
            exact sortWorldK_swp_c enc k w blk off HK.out nd dj os hblk I J (by omega) (by omega)
          clear hHd bnd hxI hxJ
          obtain ⟨cI, hcI⟩ : ∃ c, c = enc xI := ⟨_, rfl⟩
          obtain ⟨cJ, hcJ⟩ : ∃ c, c = enc xJ := ⟨_, rfl⟩
          rw [← hcI] at lI2 hsI
          rw [← hcJ] at s1 lJ2 hsJ
          rw [← hcI, ← hcJ] at s2
          rw [← hcI, ← hcJ] at HSW
          clear hcI hcJ
          clear HW
          go_big_region_o
          all_goals go_wp2
          go_roundw
          case rel => exact ⟨t + 1, by go_num, by omega, nd + 1, os, by rw [HSW.out, HI.out]⟩
          case measure => simp [intOf]; omega
        · have hg2 : ¬ ((a + t : Nat) : Int) < (i : Int) - 1 := by omega
          obtain ⟨I, hI⟩ : ∃ I, a + t = I := ⟨_, rfl⟩
          rw [hI] at hg2 ⊢
          go_wp2
          go_end0
          refine GivesSW.mk' nd (p ++ (v.take t ++ x :: v.drop t) ++ s) os (by show _ = _; rw [HW.out, ← List.append_assoc p]) ⟨_, rfl, ?_⟩
          rw [← HU.out]
          have ht : t = i - m := by omega
          have := HB.out
          rw [← ht] at this
          exact one_left HO.out HV.out this.1 this.2
end Go.Proofs.Ytggfepphjaohiaa
