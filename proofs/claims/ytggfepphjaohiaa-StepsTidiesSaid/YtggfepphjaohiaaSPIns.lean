/-
  Walk: a row put in order by insertion. Conditions: none.
-/
import Derived.Test.YtggfepphjaohiaaSPBase
namespace Go.Proofs.Ytggfepphjaohiaa
open Go.Shelf Go.RowKit Go.Lib Go.Sort

def Drops {α : Type} (cf : α → α → Int) (x : α) (r : List α) (t : Nat) : Prop := ∀ z ∈ r.drop t, cf x z < 0
theorem ins_len {α : Type} {p r s : List α} {x : α} {t : Nat} : (p ++ r.take t ++ x :: r.drop t ++ s).toArray.size = p.length + r.length + 1 + s.length := by
  simp only [List.size_toArray, List.length_append, List.length_cons, List.length_take, List.length_drop]; omega
theorem ins_x {α : Type} [Inhabited α] {p r s : List α} {x : α} {t a : Nat} (ha : p.length = a) (ht : t ≤ r.length) : (p ++ r.take t ++ x :: r.drop t ++ s).toArray[a + t]! = x := by
  have := get_mid (p ++ r.take t) (r.drop t ++ s) x
  rw [List.length_append, List.length_take, ha, Nat.min_eq_left ht] at this
  simpa using this
theorem ins_y {α : Type} [Inhabited α] {p r s : List α} {x y : α} {t a : Nat} (ha : p.length = a) (hy : r[t]? = some y) : (p ++ r.take (t + 1) ++ x :: r.drop (t + 1) ++ s).toArray[a + t]! = y := by
  have := get_at (p := p) (v := r.take (t + 1)) (s := x :: r.drop (t + 1) ++ s) (t := t) ha (by rw [List.getElem?_take, if_pos (by omega)]; exact hy)
  simpa using this
def InsO {α : Type} [Inhabited α] (cf : α → α → Int) (enc : α → List Value) (k : Nat) (w : World) (blk off : Nat) (p u s : List α) (t : Nat) (wr : World) : Prop := ∃ r, AtW enc k w blk off (p ++ r ++ (u.drop t ++ s)).toArray wr ∧ Stab cf (u.take t) r ∧ Srt cf r
set_option maxHeartbeats 4000000 in
set_option maxRecDepth 1000000 in
theorem insSortP {P : Program} {α : Type} [Inhabited α] {k : Nat} (L : SLayP P k) (enc : α → List Value) (hk : ∀ x, (enc x).length = k) (h1 : ∀ x, ∀ v ∈ enc x, v.oneCell' = true)
    (cf : α → α → Int) (g : Nat) (cb : Array Value) (blk off cap : Nat) (d : Array α) (w : World) (eg : ∀ args w, (callFunc g args).run P w = .ok (.enter g args) w)
    (hcmp : CmpLays P g cb enc k cf blk off d.size w) (hH : HoldsK enc k w blk off d) (hblk : blk < w.heap.size) (hsz : d.size < 4611686018427387904)
    (o : Order cf) (p u s : List α) (a b m0 : Nat) (os0 : Array Obj) (hpa : p.length = a) (hb : a + u.length = b) (hd : d.size = b + s.length) (U : List α) (hU : u = U) :
    Calls P 49 #[.slice (some ⟨blk, off, none⟩) d.size cap, .int .i64 a, .int .i64 b, .func (.func g) #[] cb] (SWl enc k w blk off m0 (p ++ u ++ s) os0) (GivesSW enc k w blk off (Merged cf p s U)) := by
  have mixed := L.mixed; have aE := L.aE; have zE := L.zE; have tyi := L.tyi; have agi := L.agi; have szi := L.szi; have zvi := L.zvi; have tyb := L.tyb; have agb := L.agb; have szb := L.szb; have zvb := L.zvb; have tyu := L.tyu; have agu := L.agu; have szu := L.szu; have zvu := L.zvu; have tys := L.tys; have ags := L.ags; have szs := L.szs; have zvs := L.zvs; have tyf := L.tyf; have agf := L.agf; have szf := L.szf; have zvf := L.zvf; have tyn := L.tyn; have agn := L.agn; have szn := L.szn; have zvn := L.zvn
  have HC : Aside _ := hcmp
  have HH : Hid (HoldsK enc k w blk off d) := hH
  have HK : Hid (∀ x, (enc x).length = k) := hk
  have H1 : Hid (∀ x, ∀ v ∈ enc x, v.oneCell' = true) := h1
  clear hcmp hH hk h1
  have HO : Hid (Order cf) := o
  clear o
  have HPA : Hid (p.length = a) := hpa
  have HU : Hid (u = U) := hU
  obtain ⟨w0, hw0⟩ : ∃ w0, SWl enc k w blk off m0 (p ++ u ++ s) os0 = w0 := ⟨_, rfl⟩
  have HI0 : Hid (InsO cf enc k w blk off p u s 1 w0) := by
    refine ⟨u.take 1, ⟨m0, os0, ?_⟩, .refl _, ?_⟩
    · rw [← hw0, show p ++ u.take 1 ++ (u.drop 1 ++ s) = p ++ u ++ s by rw [List.append_assoc p, ← List.append_assoc (u.take 1), List.take_append_drop, ← List.append_assoc]]
    · cases u with
      | nil => simp [Srt]
      | cons y u => simp [Srt]
  rw [hw0]
  clear hw0 hU hpa
  have hul : u.length = b - a := by omega
  have hab : a ≤ b := by omega
  have hd1 : d.size ≤ b + s.length := by omega
  have hd2 : b + s.length ≤ d.size := by omega
  clear hb hd
  go_enter L.f3, Try.ntmps49
  go_wp2
  go_loopw [8] (fun vi wr => ∃ (i : Nat), vi = .int .i64 i ∧ a < i ∧ i ≤ b + 1 ∧ InsO cf enc k w blk off p u s (i - a) wr) (fun vi _ => b + 1 - (intOf vi).toNat)
  case atStart => exact ⟨a + 1, by go_num, by omega, by omega, by rw [show a + 1 - a = 1 by omega]; exact HI0.out⟩
  case round =>
    clear HI0
    obtain ⟨i, rfl, hai, hib, r, hw, hst, hsr⟩ := hrel
    have HST : Hid (Stab cf (u.take (i - a)) r) := hst
    have HSR : Hid (Srt cf r) := hsr
    have HW0 : Hid (AtW enc k w blk off (p ++ r ++ (u.drop (i - a) ++ s)).toArray wr) := hw
    clear hst hsr hw
    by_cases hlt : i < b
    · have hrl : r.length = i - a := by have := HST.out.len; rw [this, List.length_take]; omega
      have hil : i - a < u.length := by omega
      obtain ⟨x, hx⟩ : ∃ x, u[i - a]? = some x := ⟨_, List.getElem?_eq_getElem hil⟩
      obtain ⟨S, hS⟩ : ∃ S, S = u.drop (i + 1 - a) ++ s := ⟨_, rfl⟩
      have hdx : u.drop (i - a) ++ s = x :: S := by
        rw [hS, List.drop_eq_getElem_cons hil, show i + 1 - a = i - a + 1 by omega]
        rw [List.getElem?_eq_getElem hil] at hx; injection hx with hx; rw [hx]; rfl
      have htx : u.take (i + 1 - a) = u.take (i - a) ++ [x] := by rw [show i + 1 - a = i - a + 1 by omega, List.take_add_one, hx]; rfl
      have hSl : S.length + (i + 1) = d.size := by have : (x :: S).length = (u.drop (i - a) ++ s).length := by rw [hdx]
                                                   simp only [List.length_cons, List.length_append, List.length_drop] at this; omega
      have HOUT : Aside (∀ (t : Nat) (W : World), t ≤ r.length → (t = 0 ∨ ∃ y, r[t - 1]? = some y ∧ ¬ cf x y < 0) → Drops cf x r t → AtW enc k w blk off (p ++ r.take t ++ x :: r.drop t ++ S).toArray W → InsO cf enc k w blk off p u s (i + 1 - a) W) := fun t W ht q1 q2 q3 => by
        have h1 : ∀ z ∈ r.take t, ¬ cf x z < 0 := by
          rcases q1 with q | ⟨y, hy, hc⟩
          · subst q; simp
          · rcases Nat.eq_zero_or_pos t with h0 | h0
            · subst h0; simp
            · have := hi_take HO.out HSR.out hy hc
              rwa [show t - 1 + 1 = t by omega] at this
        have := one_right HO.out HSR.out h1 q2
        refine ⟨r.take t ++ x :: r.drop t, ?_, ?_, this.2⟩
        · rw [← hS, ← List.append_assoc p]; exact q3
        · rw [htx]
          have h2 := HST.out.in_ [] [x]
          simp only [List.nil_append] at h2
          exact h2.trans this.1
      have HL : Hid (AtW enc k w blk off (p ++ r.take r.length ++ x :: r.drop r.length ++ S).toArray wr) := by
        have := HW0.out
        rw [hdx] at this
        show AtW _ _ _ _ _ _ _
        simpa using this
      have HGX : Hid (∀ t, t ≤ r.length → (p ++ r.take t ++ x :: r.drop t ++ S).toArray[a + t]! = x) := fun t ht => ins_x HPA.out ht
      have HGY : Hid (∀ t y, r[t]? = some y → (p ++ r.take (t + 1) ++ x :: r.drop (t + 1) ++ S).toArray[a + t]! = y) := fun t y hy => ins_y HPA.out hy
      have HSW1 : Hid (∀ t, t < r.length → swp (p ++ r.take (t + 1) ++ x :: r.drop (t + 1) ++ S).toArray (a + t + 1) (a + t) = (p ++ r.take t ++ x :: r.drop t ++ S).toArray) := fun t ht => ins_swp' p r S x t a HPA.out ht
      have HSZ : Hid (∀ t, (p ++ r.take t ++ x :: r.drop t ++ S).toArray.size = d.size) := fun t => by rw [ins_len, HPA.out]; omega
      clear hx hS hdx htx HW0
      have hltz : (i : Int) < (b : Int) := by omega
      go_wp2
      go_loopw [9] (fun vj wr2 => ∃ (t : Nat), vj = .int .i64 ((a + t : Nat) : Int) ∧ t ≤ r.length ∧ Drops cf x r t ∧ AtW enc k w blk off (p ++ r.take t ++ x :: r.drop t ++ S).toArray wr2) (fun vj _ => (intOf vj).toNat)
      case atStart => exact ⟨r.length, by rw [show a + r.length = i by omega], Nat.le_refl _, by intro z hz; simp at hz, HL.out⟩
      case round =>
        clear HL
        obtain ⟨t, rfl, htr, hdr, nd, os, hw⟩ := hrel
        have HD : Hid (Drops cf x r t) := hdr
        clear hdr
        rcases Nat.eq_zero_or_pos t with ht0 | ht0
        · subst ht0
          have HW : Hid (AtW enc k w blk off (p ++ r.take 0 ++ x :: r.drop 0 ++ S).toArray wr.drew) := ⟨nd + 1, os, by rw [hw]; rfl⟩
          clear hw
          have hja : decide (((a + 0 : Nat) : Int) > (a : Int)) = false := decide_eq_false (by omega)
          have hja2 : ¬ ((a + 0 : Nat) : Int) > (a : Int) := by omega
          go_wp2_with fail
          go_big_region_o
          all_goals go_wp2
          go_roundw
          case rel => exact ⟨i + 1, by go_num, by omega, by omega, HOUT.out 0 _ (by omega) (.inl rfl) HD.out HW.out⟩
          case measure => simp [intOf]; omega
        · obtain ⟨t, rfl⟩ : ∃ t', t = t' + 1 := ⟨t - 1, by omega⟩
          obtain ⟨J, hJ⟩ : ∃ J, a + (t + 1) = J := ⟨_, rfl⟩
          rw [hJ]
          obtain ⟨Q, hQ⟩ : ∃ Q, a + t = Q := ⟨_, rfl⟩
          obtain ⟨dj, hdj⟩ : ∃ dj, dj = (p ++ r.take (t + 1) ++ x :: r.drop (t + 1) ++ S).toArray := ⟨_, rfl⟩
          have HW : Hid (wr = sortWorldK enc k w blk off nd dj os) := by show _ = _; rw [hdj]; exact hw
          have hsj : dj.size = d.size := by rw [hdj]; exact HSZ.out (t + 1)
          obtain ⟨y, hy⟩ : ∃ y, r[t]? = some y := ⟨_, List.getElem?_eq_getElem (by omega)⟩
          have HY : Hid (r[t]? = some y) := hy
          have hxI : dj[J]! = x := by rw [hdj, ← hJ]; exact HGX.out (t + 1) htr
          have hxJ : dj[Q]! = y := by rw [hdj, ← hQ]; exact HGY.out t y hy
          have HI : Hid (swp dj J Q = (p ++ r.take t ++ x :: r.drop t ++ S).toArray) := by show _ = _; rw [hdj, ← hJ, ← hQ, ← Nat.add_assoc]; exact HSW1.out t (by omega)
          have hIJ1 : J ≤ Q + 1 := by omega
          have hIJ2 : Q + 1 ≤ J := by omega
          have HN : Aside (∀ W, (∃ nd' os', W = sortWorldK enc k w blk off nd' dj os') → AtW enc k w blk off (p ++ r.take (t + 1) ++ x :: r.drop (t + 1) ++ S).toArray W) := fun W ⟨n', o', h⟩ => ⟨n', o', by rw [h, hdj]⟩
          clear hw hdj hJ hy HGX HGY
          have wJ : IntKind.i64.wrap ((J : Int) - 1) = (Q : Int) := by rw [IntKind.wrap_i64]; omega
          have bJ : (J : Int) < (d.size : Int) := by omega
          have bQ : (Q : Int) < (d.size : Int) := by omega
          have bJ' : J < dj.size := by omega
          have bQ' : Q < dj.size := by omega
          have hjaz : (a : Int) < (J : Int) := by omega
          have hjad : decide ((J : Int) > (a : Int)) = true := decide_eq_true (by omega)
          obtain ⟨xI, hXI⟩ : ∃ z, z = x := ⟨_, rfl⟩
          obtain ⟨xJ, hXJ⟩ : ∃ z, z = y := ⟨_, rfl⟩
          rw [← hXI] at hxI
          rw [← hXJ] at hxJ
          have HX : Hid (xI = x ∧ xJ = y) := ⟨hXI, hXJ⟩
          clear hXI hXJ
          have hcls : ∀ n' os', grow (wr.drewN n') os' = sortWorldK enc k w blk off (nd + n') dj (os ++ os') := fun n' os' => by rw [HW.out]; exact sortWorldK_grown_c enc k w blk off nd n' dj os os'
          have hHc : ∀ n' os', HoldsK enc k (grow (wr.drewN n') os') blk off dj := fun n' os' => by rw [hcls]; exact holdsK_sortWorldK_c enc k w blk off d dj _ _ HH.out hblk hsj
          have lI : ∀ n' os', Sem.run P (loadCellsFrom ⟨blk, off + J * k, none⟩ 0 k #[]) (grow (wr.drewN n') os') = .ok (enc xI).toArray (grow (wr.drewN n') os') := fun n' os' => by
            rw [← hxI]; exact run_loadCellsFrom_list P _ _ _ k (HK.out _) (HoldsK.cells (hHc n' os') HK.out (by omega))
          have lJ : ∀ n' os', Sem.run P (loadCellsFrom ⟨blk, off + Q * k, none⟩ 0 k #[]) (grow (wr.drewN n') os') = .ok (enc xJ).toArray (grow (wr.drewN n') os') := fun n' os' => by
            rw [← hxJ]; exact run_loadCellsFrom_list P _ _ _ k (HK.out _) (HoldsK.cells (hHc n' os') HK.out (by omega))
          have hcg : ∀ n' os', Calls P g (#[.agg (enc xI).toArray, .agg (enc xJ).toArray] ++ cb) (grow (wr.drewN n') os') fun e w' => e = .returned (.int .i64 (cf xI xJ)) ∧ ∃ q os'', w' = grow ((grow (wr.drewN n') os').drewN q) os'' := fun n' os' => by
            rw [hcls]; exact HC.out _ _ dj hsj xI xJ
          have CLS : Hid _ := hcls
          clear hcls hHc hxI hxJ
          by_cases hlv : cf xI xJ < 0
          · have HD' : Hid (Drops cf x r t) := hi_drop HO.out HSR.out HY.out (HX.out.1 ▸ HX.out.2 ▸ hlv)
            go_wp2_with fail
            go_quiet_grown (first | (go_at_fn g; refine Calls.grown_of (hcg _ _)))
            have HW2 : Hid (grow (wr.drewN nq) osq = sortWorldK enc k w blk off (nd + nq) dj (os ++ osq)) := CLS.out nq osq
            clear CLS hcg lI lJ HW
            generalize grow (wr.drewN nq) osq = wq2 at HW2 ⊢
            have HW := HW2
            clear HW2
            obtain ⟨nd2, hnd2⟩ : ∃ n, n = nd + nq := ⟨_, rfl⟩
            obtain ⟨os2, hos2⟩ : ∃ n, n = os ++ osq := ⟨_, rfl⟩
            rw [← hnd2, ← hos2] at HW
            clear hnd2 hos2
            go_wp2_with fail
            obtain ⟨xI2, hxI2⟩ : ∃ x, dj[J]! = x := ⟨_, rfl⟩
            obtain ⟨xJ2, hxJ2⟩ : ∃ x, dj[Q]! = x := ⟨_, rfl⟩
            have hHd : HoldsK enc k wq2.drew blk off dj := by
              have : HoldsK enc k wq2 blk off dj := by rw [HW.out]; exact holdsK_sortWorldK_c enc k w blk off d _ _ _ HH.out hblk hsj
              exact this
            have bnd : ∀ x, x < dj.size → x * k + k ≤ dj.size * k := fun x hx => by
              have := Nat.mul_le_mul_right k (show x + 1 ≤ dj.size from hx); rwa [Nat.add_mul, Nat.one_mul] at this
            have lI2 : Sem.run P (loadCellsFrom ⟨blk, off + J * k, none⟩ 0 k #[]) wq2.drew = .ok (enc xI2).toArray wq2.drew := by rw [← hxI2]; exact run_loadCellsFrom_list P _ _ _ k (HK.out _) (HoldsK.cells hHd HK.out (by omega))
            have lJ2 : Sem.run P (loadCellsFrom ⟨blk, off + Q * k, none⟩ 0 k #[]) wq2.drew = .ok (enc xJ2).toArray wq2.drew := by rw [← hxJ2]; exact run_loadCellsFrom_list P _ _ _ k (HK.out _) (HoldsK.cells hHd HK.out (by omega))
            have s1 : Sem.run P (storeCells ⟨blk, off + J * k, none⟩ (enc xJ2) 0) wq2.drew = .ok () (wq2.drew.setCells blk (off + J * k) (enc xJ2)) := stores_of_holds P hHd (J * k) _ (by rw [HK.out, size_flatK]; exact bnd J (by omega)) (H1.out _)
            have s2 : Sem.run P (storeCells ⟨blk, off + Q * k, none⟩ (enc xI2) 0) (wq2.drew.setCells blk (off + J * k) (enc xJ2)) = .ok () ((wq2.drew.setCells blk (off + J * k) (enc xJ2)).setCells blk (off + Q * k) (enc xI2)) :=
              stores_of_holds P (holds_setCells_c hHd (J * k) _ (by rw [HK.out, size_flatK]; exact bnd J (by omega))) (Q * k) _ (by rw [HK.out, size_setMany, size_flatK]; exact bnd Q (by omega)) (H1.out _)
            have hsI : (enc xI2).length = k := HK.out _
            have hsJ : (enc xJ2).length = k := HK.out _
            have HSW : Hid (((wq2.drew.setCells blk (off + J * k) (enc xJ2)).setCells blk (off + Q * k) (enc xI2)) = sortWorldK enc k w blk off (nd2 + 1) (swp dj J Q) os2) := by
              show _ = _
              rw [HW.out, ← hxI2, ← hxJ2]
              exact sortWorldK_swp_c enc k w blk off HK.out nd2 dj os2 hblk J Q (by omega) (by omega)
            clear hHd bnd hxI2 hxJ2
            obtain ⟨cI, hcI⟩ : ∃ c, c = enc xI2 := ⟨_, rfl⟩
            obtain ⟨cJ, hcJ⟩ : ∃ c, c = enc xJ2 := ⟨_, rfl⟩
            rw [← hcI] at lI2 hsI
            rw [← hcJ] at s1 lJ2 hsJ
            rw [← hcI, ← hcJ] at s2
            rw [← hcI, ← hcJ] at HSW
            clear hcI hcJ
            clear HW
            go_big_region_o
            all_goals go_wp2
            go_roundw
            case rel => exact ⟨t, by go_num, by omega, HD'.out, nd2 + 1, os2, by rw [HSW.out, HI.out]⟩
            case measure => simp [intOf]; omega
          · have HC2 : Hid (¬ cf x y < 0) := HX.out.1 ▸ HX.out.2 ▸ hlv
            go_wp2_with fail
            go_quiet_grown (first | (go_at_fn g; refine Calls.grown_of (hcg _ _)))
            go_wp2
            go_roundw
            case rel => exact ⟨i + 1, by go_num, by omega, by omega, HOUT.out (t + 1) _ htr (.inr ⟨y, HY.out, HC2.out⟩) HD.out (HN.out _ ⟨_, _, CLS.out nq osq⟩)⟩
            case measure => simp [intOf]; omega
    · have hltz : ¬ (i : Int) < (b : Int) := by omega
      go_wp2
      go_end0
      obtain ⟨nd, os, hw⟩ := HW0.out
      refine GivesSW.mk' nd (p ++ r ++ s) os (by show _ = _; rw [hw, List.drop_of_length_le (by omega)]; rfl) ⟨r, rfl, ?_, HSR.out⟩
      rw [← HU.out]
      have := HST.out
      rwa [List.take_of_length_le (by omega)] at this
end Go.Proofs.Ytggfepphjaohiaa
