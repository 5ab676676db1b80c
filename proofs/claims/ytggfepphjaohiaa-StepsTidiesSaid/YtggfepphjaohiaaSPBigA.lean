/-
  Walk: two rows in order, side by side, merged in their place: one half. Conditions: none.
-/
import Derived.Test.YtggfepphjaohiaaSPTwo
namespace Go.Proofs.Ytggfepphjaohiaa
open Go.Shelf Go.RowKit Go.Lib Go.Sort

set_option maxHeartbeats 16000000 in
set_option maxRecDepth 1000000 in
theorem symBigAP {P : Program} {α : Type} [Inhabited α] {k : Nat} (L : SLayP P k) (enc : α → List Value) (hk : ∀ x, (enc x).length = k) (h1 : ∀ x, ∀ v ∈ enc x, v.oneCell' = true)
    (cf : α → α → Int) (g : Nat) (cb : Array Value) (blk off cap : Nat) (d : Array α) (w : World) (eg : ∀ args w, (callFunc g args).run P w = .ok (.enter g args) w)
    (hcmp : CmpLays P g cb enc k cf blk off d.size w) (hH : HoldsK enc k w blk off d) (hblk : blk < w.heap.size) (hsz : d.size < 4611686018427387904)
    (o : Order cf) (N : Nat) (ih : ∀ (p u v s : List α) (a m b m0 : Nat) (os0 : Array Obj), Srt cf u → Srt cf v → p.length = a → a + u.length = m → m + v.length = b → 0 < u.length → 0 < v.length → d.size = b + s.length → b - a ≤ N → ∀ U : List α, u ++ v = U → Calls P 50 #[.slice (some ⟨blk, off, none⟩) d.size cap, .int .i64 a, .int .i64 m, .int .i64 b, .func (.func g) #[] cb] (SWl enc k w blk off m0 (p ++ u ++ v ++ s) os0) (GivesSW enc k w blk off (Merged cf p s U)))
    (p u v s : List α) (a m b m0 : Nat) (os0 : Array Obj) (hsu : Srt cf u) (hsv : Srt cf v) (hpa : p.length = a) (hm : a + u.length = m) (hb : m + v.length = b) (hu0 : 0 < u.length) (hv0 : 0 < v.length) (hd : d.size = b + s.length) (hN : b - a ≤ N + 1) (hu1 : u.length ≠ 1) (hv1 : v.length ≠ 1) (hmm0 : (a + b) / 2 < m) (U : List α) (hU : u ++ v = U) :
    Calls P 50 #[.slice (some ⟨blk, off, none⟩) d.size cap, .int .i64 a, .int .i64 m, .int .i64 b, .func (.func g) #[] cb] (SWl enc k w blk off m0 (p ++ u ++ v ++ s) os0) (GivesSW enc k w blk off (Merged cf p s U)) := by
  have mixed := L.mixed; have aE := L.aE; have zE := L.zE; have tyi := L.tyi; have agi := L.agi; have szi := L.szi; have zvi := L.zvi; have tyb := L.tyb; have agb := L.agb; have szb := L.szb; have zvb := L.zvb; have tyu := L.tyu; have agu := L.agu; have szu := L.szu; have zvu := L.zvu; have tys := L.tys; have ags := L.ags; have szs := L.szs; have zvs := L.zvs; have tyf := L.tyf; have agf := L.agf; have szf := L.szf; have zvf := L.zvf; have tyn := L.tyn; have agn := L.agn; have szn := L.szn; have zvn := L.zvn
  have HR : Aside _ := fun (p u v s : List α) (a m b m0 : Nat) (os0 : Array Obj) (ha : p.length = a) (hm : a + u.length = m) (hb : m + v.length = b) (hu0 : 0 < u.length) (hv0 : 0 < v.length) (hd : d.size = b + s.length) (T : List α) (hT : p ++ v ++ u ++ s = T) => rotateP L enc hk h1 g cb blk off cap d w hH hblk hsz p u v s a m b m0 os0 ha hm hb hu0 hv0 hd T hT
  have HC : Aside _ := hcmp
  have HH : Hid (HoldsK enc k w blk off d) := hH
  have HK : Hid (∀ x, (enc x).length = k) := hk
  have H1 : Hid (∀ x, ∀ v ∈ enc x, v.oneCell' = true) := h1
  clear hcmp hH hk h1
  have e1 : ∀ args w, (callFunc 51 args).run P w = .ok (.enter 51 args) w := enters_of L.f1 (by kernel_rfl) rfl
  have e2 : ∀ args w, (callFunc 50 args).run P w = .ok (.enter 50 args) w := enters_of L.f2 (by kernel_rfl) rfl
  have IH : Aside _ := ih
  have HO : Hid (Order cf) := o
  have HSU : Hid (Srt cf u) := hsu
  have HSV : Hid (Srt cf v) := hsv
  clear ih o hsu hsv
  obtain ⟨dk, hdk⟩ : ∃ dk, dk = (p ++ u ++ v ++ s).toArray := ⟨_, rfl⟩
  have HDK : Hid (dk = (p ++ u ++ v ++ s).toArray) := hdk
  have HGU : Hid (∀ (t : Nat) (y : α), u[t]? = some y → dk[a + t]! = y) := fun t y h => by rw [hdk, List.append_assoc (p ++ u)]; exact get_at hpa h
  have HGV : Hid (∀ (t : Nat) (y : α), v[t]? = some y → dk[m + t]! = y) := fun t y h => by rw [hdk]; exact get_at (by simp; omega) h
  have hsk : dk.size = d.size := by rw [hdk]; simp; omega
  have HU : Hid (u ++ v = U) := hU
  clear hU
  obtain ⟨w0, hw0⟩ : ∃ w0, SWl enc k w blk off m0 (p ++ u ++ v ++ s) os0 = w0 := ⟨_, rfl⟩
  have HW0 : Hid (w0 = sortWorldK enc k w blk off m0 dk os0) := by show _ = _; rw [hdk]; exact hw0.symm
  rw [hw0]
  clear hw0 hdk
  have hul : u.length = m - a := by omega
  have hvl : v.length = b - m := by omega
  have ham : a + 2 ≤ m := by omega
  have hmb : m + 2 ≤ b := by omega
  have hbd : b ≤ d.size := by omega
  have _ := hu1
  have _ := hv1
  clear hu0 hv0 hu1 hv1
  have hd1 : d.size ≤ b + s.length := by omega
  have hd2 : b + s.length ≤ d.size := by omega
  clear hd
  have hg0 : (((m : Int) - (a : Int)) == 1) = false := by simp; omega
  have hg1 : (((b : Int) - (m : Int)) == 1) = false := by simp; omega
  obtain ⟨M, hM⟩ : ∃ M, (a + b) / 2 = M := ⟨_, rfl⟩
  have eM : ((a : Int) + (b : Int)) / 2 = (M : Int) := by omega
  have hM1 : 2 * M ≤ a + b := by omega
  have hM2 : a + b ≤ 2 * M + 1 := by omega
  have hmm : M < m := by omega
  clear hM hmm0
  obtain ⟨Nn, hNn⟩ : ∃ Nn, M + m = Nn := ⟨_, rfl⟩
  have eN : (M : Int) + (m : Int) = (Nn : Int) := by omega
  obtain ⟨PP, hPP⟩ : ∃ PP, Nn - 1 = PP := ⟨_, rfl⟩
  have eP : (Nn : Int) - 1 = (PP : Int) := by omega
  go_enter L.f2, Try.ntmps50
  obtain ⟨lo, hlo⟩ : ∃ lo, Nn - b = lo := ⟨_, rfl⟩
  have elo : (Nn : Int) - (b : Int) = (lo : Int) := by omega
  have hgm : decide ((m : Int) > (M : Int)) = true := by simp; omega
  have hgm2 : decide (M < m) = true := by simp; omega
  go_wp2
  go_loopw [20, 21] (fun vi vj wr => ∃ (i j : Nat), vi = .int .i64 i ∧ vj = .int .i64 j ∧ lo ≤ i ∧ i ≤ j ∧ j ≤ M ∧ AtW enc k w blk off dk wr ∧ Cutw cf dk PP lo M i j) (fun vi vj _ => (intOf vj - intOf vi).toNat)
  case atStart => exact ⟨lo, M, rfl, rfl, by omega, by omega, by omega, ⟨m0, os0, HW0.out⟩, .inl rfl, .inl rfl⟩
  case round =>
    clear HW0
    obtain ⟨i, j, rfl, rfl, hai, hij, hjb, ⟨nd, os, hw⟩, hb⟩ := hrel
    have HW : Hid (wr = sortWorldK enc k w blk off nd dk os) := hw
    have HB : Hid (Cutw cf dk PP lo M i j) := hb
    clear hw hb
    by_cases hlt : i < j
    · clear IH HR HU
      obtain ⟨C, hC⟩ : ∃ C, (i + j) / 2 = C := ⟨_, rfl⟩
      have hC1 : i ≤ C ∧ C < j := by omega
      obtain ⟨C0, C1⟩ := hC1
      have eC : ((i : Int) + (j : Int)) / 2 = (C : Int) := by omega
      obtain ⟨Q, hQ⟩ : ∃ Q, PP - C = Q := ⟨_, rfl⟩
      have wQ : IntKind.i64.wrap ((PP : Int) - (C : Int)) = (Q : Int) := by rw [IntKind.wrap_i64]; omega
      have bQ : (Q : Int) < (d.size : Int) := by omega
      have bC : (C : Int) < (d.size : Int) := by omega
      have bQ' : Q < dk.size := by omega
      have bC' : C < dk.size := by omega
      obtain ⟨xI, hxI⟩ : ∃ y, dk[Q]! = y := ⟨_, rfl⟩
      obtain ⟨xJ, hxJ⟩ : ∃ y, dk[C]! = y := ⟨_, rfl⟩
      have HY : Hid (dk[PP - C]! = xI ∧ dk[C]! = xJ) := ⟨by rw [hQ]; exact hxI, hxJ⟩
      have hcls : ∀ n' os', grow (wr.drewN n') os' = sortWorldK enc k w blk off (nd + n') dk (os ++ os') := fun n' os' => by rw [HW.out]; exact sortWorldK_grown_c enc k w blk off nd n' dk os os'
      have hHc : ∀ n' os', HoldsK enc k (grow (wr.drewN n') os') blk off dk := fun n' os' => by rw [hcls]; exact holdsK_sortWorldK_c enc k w blk off d dk _ _ HH.out hblk hsk
      have lI : ∀ n' os', Sem.run P (loadCellsFrom ⟨blk, off + Q * k, none⟩ 0 k #[]) (grow (wr.drewN n') os') = .ok (enc xI).toArray (grow (wr.drewN n') os') := fun n' os' => by
        rw [← hxI]; exact run_loadCellsFrom_list P _ _ _ k (HK.out _) (HoldsK.cells (hHc n' os') HK.out (by omega))
      have lJ : ∀ n' os', Sem.run P (loadCellsFrom ⟨blk, off + C * k, none⟩ 0 k #[]) (grow (wr.drewN n') os') = .ok (enc xJ).toArray (grow (wr.drewN n') os') := fun n' os' => by
        rw [← hxJ]; exact run_loadCellsFrom_list P _ _ _ k (HK.out _) (HoldsK.cells (hHc n' os') HK.out (by omega))
      have hcg : ∀ n' os', Calls P g (#[.agg (enc xI).toArray, .agg (enc xJ).toArray] ++ cb) (grow (wr.drewN n') os') fun e w' => e = .returned (.int .i64 (cf xI xJ)) ∧ ∃ q os'', w' = grow ((grow (wr.drewN n') os').drewN q) os'' := fun n' os' => by
        rw [hcls]; exact HC.out _ _ dk hsk xI xJ
      have CLS : Hid _ := hcls
      clear hcls hHc hxI hxJ
      clear hC hQ
      by_cases hlv : cf xI xJ < 0
      · have HB' : Hid (Cutw cf dk PP lo M i C) := ⟨HB.out.1, .inr (by rw [HY.out.1, HY.out.2]; exact hlv)⟩
        have hdv : (!decide (cf xI xJ < 0)) = false := by simp [hlv]
        go_wp2_with fail
        go_quiet_grown (first | (go_at_fn g; refine Calls.grown_of (hcg _ _)))
        go_wp2
        go_roundw
        case rel => exact ⟨i, C, rfl, rfl, by omega, by omega, by omega, ⟨_, _, CLS.out nq osq⟩, HB'.out⟩
        case measure => simp [intOf]; omega
      · have HB' : Hid (Cutw cf dk PP lo M (C + 1) j) := ⟨.inr (by rw [Nat.add_sub_cancel, HY.out.1, HY.out.2]; exact hlv), HB.out.2⟩
        have hdv : (!decide (cf xI xJ < 0)) = true := by simp [hlv]
        go_wp2_with fail
        go_quiet_grown (first | (go_at_fn g; refine Calls.grown_of (hcg _ _)))
        go_wp2
        go_roundw
        case rel => exact ⟨C + 1, j, by go_num, rfl, by omega, by omega, hjb, ⟨_, _, CLS.out nq osq⟩, HB'.out⟩
        case measure => simp [intOf]; omega
    · obtain rfl : i = j := by omega
      have HB1 := HB.out
      obtain ⟨E, hE⟩ : ∃ E, Nn - i = E := ⟨_, rfl⟩
      have eE : (Nn : Int) - (i : Int) = (E : Int) := by omega
      have hai : a ≤ i := by omega
      have him : i ≤ m := by omega
      have hmE : m ≤ E := by omega
      have hEb : E ≤ b := by omega
      have hsum : i - a + (E - m) = M - a := by omega
      obtain ⟨L1, hL1⟩ : ∃ L1, L1 = p ++ (u.take (i - a) ++ v.take (E - m)) ++ (u.drop (i - a) ++ v.drop (E - m) ++ s) := ⟨_, rfl⟩
      have HL1 : Hid (L1 = p ++ (u.take (i - a) ++ v.take (E - m)) ++ (u.drop (i - a) ++ v.drop (E - m) ++ s)) := hL1
      have HLEN : Hid ((u.take (i - a) ++ v.take (E - m)).length = M - a) := by show _ = _; simp only [List.length_append, List.length_take]; omega
      have HCUT : Hid ((∀ x ∈ u.drop (i - a), ∀ y ∈ v.take (E - m), cf y x < 0) ∧ ∀ x ∈ u.take (i - a), ∀ y ∈ v.drop (E - m), ¬ cf y x < 0) := by
        refine sym_cut HO.out HSU.out HSV.out _ _ ?_ ?_
        · rcases HB1.2 with h | h
          · exact .inr (.inl (by omega))
          · by_cases q1 : i = m
            · exact .inl (by omega)
            · by_cases q2 : E = m
              · exact .inr (.inl (by omega))
              · have hl1 : i - a < u.length := by omega
                have hl2 : E - m - 1 < v.length := by omega
                have g1 := HGU.out _ _ (List.getElem?_eq_getElem hl1)
                have g2 := HGV.out _ _ (List.getElem?_eq_getElem hl2)
                rw [show a + (i - a) = i by omega] at g1
                rw [show m + (E - m - 1) = PP - i by omega] at g2
                rw [g1, g2] at h
                exact .inr (.inr ⟨_, _, List.getElem?_eq_getElem hl1, List.getElem?_eq_getElem hl2, h⟩)
        · rcases HB1.1 with h | h
          · exact .inr (.inl (by omega))
          · by_cases q1 : i = a
            · exact .inl (by omega)
            · by_cases q2 : E = b
              · exact .inr (.inl (by omega))
              · have hl1 : i - a - 1 < u.length := by omega
                have hl2 : E - m < v.length := by omega
                have g1 := HGU.out _ _ (List.getElem?_eq_getElem hl1)
                have g2 := HGV.out _ _ (List.getElem?_eq_getElem hl2)
                rw [show a + (i - a - 1) = i - 1 by omega] at g1
                rw [show m + (E - m) = PP - (i - 1) by omega] at g2
                rw [g1, g2] at h
                exact .inr (.inr ⟨_, _, List.getElem?_eq_getElem hl1, List.getElem?_eq_getElem hl2, h⟩)
      have HROT : Aside (∀ (nd : Nat) (os : Array Obj), i < m → m < E → Calls P 51 #[.slice (some ⟨blk, off, none⟩) d.size cap, .int .i64 i, .int .i64 m, .int .i64 E, .func (.func g) #[] cb] (sortWorldK enc k w blk off nd dk os) (GivesSW enc k w blk off fun l' => l' = L1)) := fun nd os q1 q2 => by
        have := HR.out (p ++ u.take (i - a)) (u.drop (i - a)) (v.take (E - m)) (v.drop (E - m) ++ s) i m E nd os (by simp; omega) (by simp; omega) (by simp; omega) (by simp; omega) (by simp; omega) (by simp; omega) L1 (by rw [hL1]; simp only [List.append_assoc])
        rw [show p ++ u.take (i - a) ++ u.drop (i - a) ++ v.take (E - m) ++ (v.drop (E - m) ++ s) = p ++ u ++ v ++ s by rw [List.append_assoc p, List.take_append_drop, ← List.append_assoc, List.append_assoc (p ++ u), List.take_append_drop]] at this
        rw [HDK.out]; exact this
      have HREC1 : Aside (∀ (nd : Nat) (os : Array Obj), a < i → i < M → Calls P 50 #[.slice (some ⟨blk, off, none⟩) d.size cap, .int .i64 a, .int .i64 i, .int .i64 M, .func (.func g) #[] cb] (SWl enc k w blk off nd L1 os) (GivesSW enc k w blk off (Merged cf p (u.drop (i - a) ++ v.drop (E - m) ++ s) (u.take (i - a) ++ v.take (E - m))))) := fun nd os q1 q2 => by
        have := IH.out p (u.take (i - a)) (v.take (E - m)) (u.drop (i - a) ++ v.drop (E - m) ++ s) a i M nd os (srt_take HSU.out _) (srt_take HSV.out _) hpa (by simp; omega) (by simp; omega) (by simp; omega) (by simp; omega) (by simp; omega) (by omega) _ rfl
        rwa [List.append_assoc p (u.take (i - a)) (v.take (E - m)), ← hL1] at this
      have HREC2 : Aside (∀ (r1 : List α) (nd : Nat) (os : Array Obj), r1.length = M - a → M < E → E < b → Calls P 50 #[.slice (some ⟨blk, off, none⟩) d.size cap, .int .i64 M, .int .i64 E, .int .i64 b, .func (.func g) #[] cb] (SWl enc k w blk off nd (p ++ r1 ++ (u.drop (i - a) ++ v.drop (E - m) ++ s)) os) (GivesSW enc k w blk off (Merged cf (p ++ r1) s (u.drop (i - a) ++ v.drop (E - m))))) := fun r1 nd os q0 q1 q2 => by
        have := IH.out (p ++ r1) (u.drop (i - a)) (v.drop (E - m)) s M E b nd os (srt_drop HSU.out _) (srt_drop HSV.out _) (by simp; omega) (by simp; omega) (by simp; omega) (by simp; omega) (by simp; omega) (by omega) (by omega) _ rfl
        rwa [List.append_assoc (p ++ r1) (u.drop (i - a)) (v.drop (E - m)), List.append_assoc (p ++ r1) (u.drop (i - a) ++ v.drop (E - m)) s] at this
      have HFIN : Aside (∀ r1 r2 : List α, Stab cf (u.take (i - a) ++ v.take (E - m)) r1 → Srt cf r1 → Stab cf (u.drop (i - a) ++ v.drop (E - m)) r2 → Srt cf r2 → Merged cf p s U (p ++ r1 ++ r2 ++ s)) := fun r1 r2 q1 q2 q3 q4 => by
        have := srt_halves HO.out (u1 := u.take (i - a)) (u2 := u.drop (i - a)) (v1 := v.take (E - m)) (v2 := v.drop (E - m)) (by rw [List.take_append_drop]; exact HSU.out) (by rw [List.take_append_drop]; exact HSV.out) HCUT.out.1 HCUT.out.2 q1 q3 q2 q4
        rw [List.take_append_drop, List.take_append_drop, HU.out] at this
        exact ⟨r1 ++ r2, by rw [List.append_assoc p], this.1, this.2⟩
      have HN1 : Aside (¬ (a < i ∧ i < M) → Srt cf (u.take (i - a) ++ v.take (E - m))) := fun q => by
        by_cases q1 : i = a
        · rw [show i - a = 0 by omega]; simpa using srt_take HSV.out _
        · rw [show E - m = 0 by omega]; simpa using srt_take HSU.out _
      have HN2 : Aside (¬ (M < E ∧ E < b) → Srt cf (u.drop (i - a) ++ v.drop (E - m))) := fun q => by
        by_cases q1 : E = b
        · rw [List.drop_of_length_le (l := v) (by omega)]; simpa using srt_drop HSU.out _
        · rw [List.drop_of_length_le (l := u) (by omega)]; simpa using srt_drop HSV.out _
      have HL0 : Aside (¬ (i < m ∧ m < E) → dk = L1.toArray) := fun q => by
        rw [HDK.out, hL1]
        congr 1
        by_cases q1 : i = m
        · rw [List.take_of_length_le (l := u) (by omega), List.drop_of_length_le (l := u) (by omega)]
          simp only [List.nil_append, List.append_assoc]
          rw [← List.append_assoc (v.take _), List.take_append_drop]
        · rw [show E - m = 0 by omega]
          simp only [List.take_zero, List.drop_zero, List.append_nil, List.append_assoc]
          rw [← List.append_assoc (u.take _), List.take_append_drop]
      clear HB1 hL1 HB HGU HGV HC HCUT hE
      by_cases q1 : i < M
      · by_cases q2 : a < i
        · by_cases q3 : E < b
          · have c1 : decide ((i : Int) < (m : Int)) = true := by simp; omega
            have c2 : decide ((m : Int) < (E : Int)) = true := by simp; omega
            have c3 : decide ((a : Int) < (i : Int)) = true := by simp; omega
            have c4 : decide ((i : Int) < (M : Int)) = true := by simp; omega
            have c5 : decide ((M : Int) < (E : Int)) = true := by simp; omega
            have c6 : decide ((E : Int) < (b : Int)) = true := by simp; omega
            go_wp2_with fail
            rw [HW.out]
            refine (HROT.out _ _ (by omega) (by omega)).mono ?_
            rintro e wA ⟨rfl, n1, l1, os1, hwA, hl1⟩
            rw [hl1] at hwA
            clear HW
            have HW : Hid (wA = SWl enc k w blk off n1 L1 os1) := hwA
            clear hwA hl1
            go_wp2_with fail
            rw [HW.out]
            refine (HREC1.out _ _ (by omega) (by omega)).mono ?_
            rintro e wB ⟨rfl, n2, l2, os2, hwB, r1, hl2, st1, sr1⟩
            have hr1 : r1.length = M - a := by have := st1.len; have := HLEN.out; omega
            rw [hl2] at hwB
            clear HW
            have HW : Hid (wB = SWl enc k w blk off n2 (p ++ r1 ++ (u.drop (i - a) ++ v.drop (E - m) ++ s)) os2) := hwB
            clear hwB hl2
            have HS1 : Hid (Stab cf (u.take (i - a) ++ v.take (E - m)) r1 ∧ Srt cf r1) := ⟨st1, sr1⟩
            clear st1 sr1
            go_wp2_with fail
            rw [HW.out]
            refine (HREC2.out r1 _ _ hr1 (by omega) (by omega)).mono ?_
            rintro e wC ⟨rfl, n3, l3, os3, hwC, r2, hl3, st2, sr2⟩
            rw [hl3] at hwC
            have HF := Lib.hid (HFIN.out r1 r2 HS1.out.1 HS1.out.2 st2 sr2)
            clear st2 sr2 hl3 HW
            have HW : Hid (wC = SWl enc k w blk off n3 (p ++ r1 ++ r2 ++ s) os3) := hwC
            clear hwC
            go_wp2
            go_end0
            exact GivesSW.mk' n3 (p ++ r1 ++ r2 ++ s) os3 HW HF.out
          · have c1 : decide ((i : Int) < (m : Int)) = true := by simp; omega
            have c2 : decide ((m : Int) < (E : Int)) = true := by simp; omega
            have c3 : decide ((a : Int) < (i : Int)) = true := by simp; omega
            have c4 : decide ((i : Int) < (M : Int)) = true := by simp; omega
            have c5 : decide ((M : Int) < (E : Int)) = true := by simp; omega
            have c6 : decide ((E : Int) < (b : Int)) = false := by simp; omega
            go_wp2_with fail
            rw [HW.out]
            refine (HROT.out _ _ (by omega) (by omega)).mono ?_
            rintro e wA ⟨rfl, n1, l1, os1, hwA, hl1⟩
            rw [hl1] at hwA
            clear HW
            have HW : Hid (wA = SWl enc k w blk off n1 L1 os1) := hwA
            clear hwA hl1
            go_wp2_with fail
            rw [HW.out]
            refine (HREC1.out _ _ (by omega) (by omega)).mono ?_
            rintro e wB ⟨rfl, n2, l2, os2, hwB, r1, hl2, st1, sr1⟩
            have hr1 : r1.length = M - a := by have := st1.len; have := HLEN.out; omega
            rw [hl2] at hwB
            clear HW
            have HW : Hid (wB = SWl enc k w blk off n2 (p ++ r1 ++ (u.drop (i - a) ++ v.drop (E - m) ++ s)) os2) := hwB
            clear hwB hl2
            have HS1 : Hid (Stab cf (u.take (i - a) ++ v.take (E - m)) r1 ∧ Srt cf r1) := ⟨st1, sr1⟩
            clear st1 sr1
            obtain ⟨r2, hr2⟩ : ∃ r2, r2 = u.drop (i - a) ++ v.drop (E - m) := ⟨_, rfl⟩
            have st2 : Stab cf (u.drop (i - a) ++ v.drop (E - m)) r2 := by rw [hr2]; exact .refl _
            have sr2 : Srt cf r2 := by rw [hr2]; exact HN2.out (by omega)
            have HF := Lib.hid (HFIN.out r1 r2 HS1.out.1 HS1.out.2 st2 sr2)
            clear st2 sr2
            rw [← hr2] at HW
            clear hr2
            go_wp2
            go_end0
            exact GivesSW.mk' n2 (p ++ r1 ++ r2 ++ s) os2 (by show _ = _; rw [HW.out, List.append_assoc (p ++ r1)]) HF.out
        · by_cases q3 : E < b
          · exfalso
            omega
          · have c1 : decide ((i : Int) < (m : Int)) = true := by simp; omega
            have c2 : decide ((m : Int) < (E : Int)) = true := by simp; omega
            have c3 : decide ((a : Int) < (i : Int)) = false := by simp; omega
            have c5 : decide ((M : Int) < (E : Int)) = true := by simp; omega
            have c6 : decide ((E : Int) < (b : Int)) = false := by simp; omega
            go_wp2_with fail
            rw [HW.out]
            refine (HROT.out _ _ (by omega) (by omega)).mono ?_
            rintro e wA ⟨rfl, n1, l1, os1, hwA, hl1⟩
            rw [hl1] at hwA
            clear HW
            have HW : Hid (wA = SWl enc k w blk off n1 L1 os1) := hwA
            clear hwA hl1
            obtain ⟨r1, hr1⟩ : ∃ r1, r1 = u.take (i - a) ++ v.take (E - m) := ⟨_, rfl⟩
            have st1 : Stab cf (u.take (i - a) ++ v.take (E - m)) r1 := by rw [hr1]; exact .refl _
            have sr1 : Srt cf r1 := by rw [hr1]; exact HN1.out (by omega)
            have hL1' : L1 = p ++ r1 ++ (u.drop (i - a) ++ v.drop (E - m) ++ s) := by rw [hr1]; exact HL1.out
            rw [hL1'] at HW
            replace hr1 : r1.length = M - a := by have := HLEN.out; rw [hr1]; omega
            clear hL1'
            have HS1 : Hid (Stab cf (u.take (i - a) ++ v.take (E - m)) r1 ∧ Srt cf r1) := ⟨st1, sr1⟩
            clear st1 sr1
            obtain ⟨r2, hr2⟩ : ∃ r2, r2 = u.drop (i - a) ++ v.drop (E - m) := ⟨_, rfl⟩
            have st2 : Stab cf (u.drop (i - a) ++ v.drop (E - m)) r2 := by rw [hr2]; exact .refl _
            have sr2 : Srt cf r2 := by rw [hr2]; exact HN2.out (by omega)
            have HF := Lib.hid (HFIN.out r1 r2 HS1.out.1 HS1.out.2 st2 sr2)
            clear st2 sr2
            rw [← hr2] at HW
            clear hr2
            go_wp2
            go_end0
            exact GivesSW.mk' n1 (p ++ r1 ++ r2 ++ s) os1 (by show _ = _; rw [HW.out, List.append_assoc (p ++ r1)]) HF.out
      · have c1 : decide ((i : Int) < (m : Int)) = true := by simp; omega
        have c2 : decide ((m : Int) < (E : Int)) = false := by simp; omega
        have c3 : decide ((a : Int) < (i : Int)) = true := by simp; omega
        have c4 : decide ((i : Int) < (M : Int)) = false := by simp; omega
        have c5 : decide ((M : Int) < (E : Int)) = true := by simp; omega
        have c6 : decide ((E : Int) < (b : Int)) = true := by simp; omega
        have HD1 : Hid (dk = L1.toArray) := HL0.out (by omega)
        replace HW : Hid (wr = SWl enc k w blk off nd L1 os) := by show _ = _; rw [HW.out, HD1.out]
        obtain ⟨n1, hn1⟩ : ∃ n1, n1 = nd := ⟨_, rfl⟩
        obtain ⟨os1, hos1⟩ : ∃ os1, os1 = os := ⟨_, rfl⟩
        rw [← hn1, ← hos1] at HW
        obtain ⟨r1, hr1⟩ : ∃ r1, r1 = u.take (i - a) ++ v.take (E - m) := ⟨_, rfl⟩
        have st1 : Stab cf (u.take (i - a) ++ v.take (E - m)) r1 := by rw [hr1]; exact .refl _
        have sr1 : Srt cf r1 := by rw [hr1]; exact HN1.out (by omega)
        have hL1' : L1 = p ++ r1 ++ (u.drop (i - a) ++ v.drop (E - m) ++ s) := by rw [hr1]; exact HL1.out
        rw [hL1'] at HW
        replace hr1 : r1.length = M - a := by have := HLEN.out; rw [hr1]; omega
        clear hL1'
        have HS1 : Hid (Stab cf (u.take (i - a) ++ v.take (E - m)) r1 ∧ Srt cf r1) := ⟨st1, sr1⟩
        clear st1 sr1
        go_wp2_with fail
        rw [HW.out]
        refine (HREC2.out r1 _ _ hr1 (by omega) (by omega)).mono ?_
        rintro e wC ⟨rfl, n3, l3, os3, hwC, r2, hl3, st2, sr2⟩
        rw [hl3] at hwC
        have HF := Lib.hid (HFIN.out r1 r2 HS1.out.1 HS1.out.2 st2 sr2)
        clear st2 sr2 hl3 HW
        have HW : Hid (wC = SWl enc k w blk off n3 (p ++ r1 ++ r2 ++ s) os3) := hwC
        clear hwC
        go_wp2
        go_end0
        exact GivesSW.mk' n3 (p ++ r1 ++ r2 ++ s) os3 HW HF.out

end Go.Proofs.Ytggfepphjaohiaa
