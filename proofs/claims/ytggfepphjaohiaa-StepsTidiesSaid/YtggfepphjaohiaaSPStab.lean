/-
  Walk: a row put in order, what is alike left as it stood. Conditions: none.
-/
import Derived.Test.YtggfepphjaohiaaSPSym
import Derived.Test.YtggfepphjaohiaaSPIns
import Derived.Test.YtggfepphjaohiaaPStab
namespace Go.Proofs.Ytggfepphjaohiaa
open Go.Shelf Go.RowKit Go.Lib Go.Sort

def LoopI {α : Type} [Inhabited α] (cf : α → α → Int) (enc : α → List Value) (k : Nat) (w : World) (blk off : Nat) (l0 : List α) (bs q : Nat) (wr : World) : Prop := ∃ l, AtW enc k w blk off l.toArray wr ∧ Stab cf l0 l ∧ BlksTo cf bs l q
def LoopO {α : Type} [Inhabited α] (cf : α → α → Int) (enc : α → List Value) (k : Nat) (w : World) (blk off : Nat) (l0 : List α) (bs : Nat) (wr : World) : Prop := ∃ l, AtW enc k w blk off l.toArray wr ∧ Stab cf l0 l ∧ BlksFrom cf bs l 0
def LoopM {α : Type} [Inhabited α] (cf : α → α → Int) (enc : α → List Value) (k : Nat) (w : World) (blk off : Nat) (l0 : List α) (bs q a : Nat) (wr : World) : Prop := ∃ l, AtW enc k w blk off l.toArray wr ∧ Stab cf l0 l ∧ BlksTo cf (2 * bs) l q ∧ BlksFrom cf bs l a

set_option maxHeartbeats 16000000 in
set_option maxRecDepth 1000000 in
theorem stableP {P : Program} {α : Type} [Inhabited α] {k : Nat} (L : SLayP P k) (enc : α → List Value) (hk : ∀ x, (enc x).length = k) (h1 : ∀ x, ∀ v ∈ enc x, v.oneCell' = true)
    (cf : α → α → Int) (g : Nat) (cb : Array Value) (blk off cap : Nat) (d : Array α) (w : World) (eg : ∀ args w, (callFunc g args).run P w = .ok (.enter g args) w)
    (hcmp : CmpLays P g cb enc k cf blk off d.size w) (hH : HoldsK enc k w blk off d) (hblk : blk < w.heap.size) (hsz : d.size < 4611686018427387904)
    (o : Order cf) (hsz2 : d.size < 1152921504606846976) (l0 : List α) (m0 : Nat) (os0 : Array Obj) (hl0 : l0.length = d.size) :
    Calls P 48 #[.slice (some ⟨blk, off, none⟩) d.size cap, .int .i64 (d.size : Nat), .func (.func g) #[] cb] (SWl enc k w blk off m0 l0 os0) (GivesSW enc k w blk off fun l' => Stab cf l0 l' ∧ Srt cf l') := by
  have mixed := L.mixed; have aE := L.aE; have zE := L.zE; have tyi := L.tyi; have agi := L.agi; have szi := L.szi; have zvi := L.zvi; have tyb := L.tyb; have agb := L.agb; have szb := L.szb; have zvb := L.zvb; have tyu := L.tyu; have agu := L.agu; have szu := L.szu; have zvu := L.zvu; have tys := L.tys; have ags := L.ags; have szs := L.szs; have zvs := L.zvs; have tyf := L.tyf; have agf := L.agf; have szf := L.szf; have zvf := L.zvf; have tyn := L.tyn; have agn := L.agn; have szn := L.szn; have zvn := L.zvn
  obtain ⟨n, hn⟩ : ∃ n, n = d.size := ⟨_, rfl⟩
  have HINS : Aside (∀ (l : List α) (a b nd : Nat) (os : Array Obj), l.length = n → a ≤ b → b ≤ n → Calls P 49 #[.slice (some ⟨blk, off, none⟩) n cap, .int .i64 a, .int .i64 b, .func (.func g) #[] cb] (sortWorldK enc k w blk off nd l.toArray os)
      (GivesSW enc k w blk off (Merged cf (l.take a) (l.drop b) ((l.drop a).take (b - a))))) := fun l a b nd os q1 q2 q3 => by
    subst hn
    have := insSortP L enc hk h1 cf g cb blk off cap d w eg hcmp hH hblk hsz o (l.take a) ((l.drop a).take (b - a)) (l.drop b) a b nd os (by rw [List.length_take]; omega) (by rw [List.length_take, List.length_drop]; omega) (by rw [List.length_drop]; omega) _ rfl
    rwa [cut3 l q2] at this
  have HSYM : Aside (∀ (l : List α) (a m b nd : Nat) (os : Array Obj), l.length = n → a < m → m < b → b ≤ n → Srt cf ((l.drop a).take (m - a)) → Srt cf ((l.drop m).take (b - m)) → Calls P 50 #[.slice (some ⟨blk, off, none⟩) n cap, .int .i64 a, .int .i64 m, .int .i64 b, .func (.func g) #[] cb] (sortWorldK enc k w blk off nd l.toArray os)
      (GivesSW enc k w blk off (Merged cf (l.take a) (l.drop b) ((l.drop a).take (m - a) ++ (l.drop m).take (b - m))))) := fun l a m b nd os q1 q2 q3 q4 q5 q6 => by
    subst hn
    have := symMergeP L enc hk h1 cf g cb blk off cap d w eg hcmp hH hblk hsz o _ (l.take a) ((l.drop a).take (m - a)) ((l.drop m).take (b - m)) (l.drop b) a m b nd os q5 q6 (by rw [List.length_take]; omega) (by rw [List.length_take, List.length_drop]; omega) (by rw [List.length_take, List.length_drop]; omega) (by rw [List.length_take, List.length_drop]; omega) (by rw [List.length_take, List.length_drop]; omega) (by rw [List.length_drop]; omega) (Nat.le_refl _) _ rfl
    rwa [cut4 l (by omega) (by omega)] at this
  have e2 : ∀ args w, (callFunc 50 args).run P w = .ok (.enter 50 args) w := enters_of L.f2 (by kernel_rfl) rfl
  have e3 : ∀ args w, (callFunc 49 args).run P w = .ok (.enter 49 args) w := enters_of L.f3 (by kernel_rfl) rfl
  clear hcmp hH hk h1 eg o
  rw [← hn] at hl0 hsz hsz2 ⊢
  have HL0 : Hid (l0.length = n) := hl0
  have HI0 : Hid (LoopI cf enc k w blk off l0 20 0 (SWl enc k w blk off m0 l0 os0)) := ⟨l0, ⟨m0, os0, rfl⟩, .refl _, fun q h => absurd h (by omega)⟩
  generalize SWl enc k w blk off m0 l0 os0 = w0 at HI0 ⊢
  clear hl0 hn
  go_enter L.f4, Try.ntmps48
  go_wp2
  go_loopw [7, 8] (fun vi vj wr => ∃ (a q : Nat), vi = .int .i64 a ∧ vj = .int .i64 ((a + 20 : Nat) : Int) ∧ a ≤ n ∧ Hid (a = q * 20) ∧ LoopI cf enc k w blk off l0 20 q wr) (fun vi _ _ => n - (intOf vi).toNat)
  case atStart => exact ⟨0, 0, rfl, rfl, by omega, by show _ = _; omega, HI0.out⟩
  case round =>
    clear HI0
    obtain ⟨a, q, rfl, rfl, han, HA, l, ⟨nd, os, hw⟩, hst, hbl⟩ := hrel
    have HW : Hid (wr = sortWorldK enc k w blk off nd l.toArray os) := hw
    have HST : Hid (Stab cf l0 l) := hst
    have HBL : Hid (BlksTo cf 20 l q) := hbl
    have HLL : Hid (l.length = n) := hst.len.trans HL0.out
    clear hw hst hbl
    obtain ⟨b, hb⟩ : ∃ b, a + 20 = b := ⟨_, rfl⟩
    rw [hb]
    have hb1 : a + 20 ≤ b := by omega
    have hb2 : b ≤ a + 20 := by omega
    clear hb
    by_cases hlt : b ≤ n
    · have hltz : (b : Int) ≤ (n : Int) := by omega
      go_wp2_with fail
      rw [HW.out]
      refine (HINS.out l a b nd os HLL.out (by omega) hlt).mono ?_
      rintro e wA ⟨rfl, n1, l1, os1, hwA, hm⟩
      have h2 := ins_step (bs := 20) (q := q) hm HA.out (by omega) (by rw [HLL.out]; exact hlt) (.inl (by omega)) HBL.out HST.out
      have HN : Hid (LoopI cf enc k w blk off l0 20 (q + 1) wA) := ⟨l1, ⟨n1, os1, hwA⟩, h2.1, h2.2⟩
      clear hwA hm h2
      go_wp2
      go_roundw
      case rel => exact ⟨b, q + 1, rfl, by go_num, hlt, by have := HA.out; show _ = _; omega, HN.out⟩
      case measure => simp [intOf]; omega
    · have hltz : ¬ (b : Int) ≤ (n : Int) := by omega
      go_wp2_with fail
      rw [HW.out]
      refine (HINS.out l a n nd os HLL.out (by omega) (Nat.le_refl _)).mono ?_
      rintro e wA ⟨rfl, n1, l1, os1, hwA, hm⟩
      have h2 := ins_step (bs := 20) (q := q) hm HA.out (by omega) (by rw [HLL.out]; exact Nat.le_refl _) (.inr HLL.out.symm) HBL.out HST.out
      have HN : Hid (LoopO cf enc k w blk off l0 20 wA) := ⟨l1, ⟨n1, os1, hwA⟩, h2.1, blks_all h2.2 (by rw [h2.1.len, HL0.out]; have := HA.out; omega)⟩
      clear hwA hm h2 HW HST HBL HLL HA
      go_wp2
      go_loopw [6] (fun vb wr => ∃ (bs : Nat), vb = .int .i64 bs ∧ 0 < bs ∧ bs ≤ 2 * n + 20 ∧ LoopO cf enc k w blk off l0 bs wr) (fun vb _ => n - (intOf vb).toNat)
      case atStart => exact ⟨20, rfl, by omega, by omega, HN.out⟩
      case round =>
        clear HN
        obtain ⟨bs, rfl, hbs0, hbsn, l, ⟨nd, os, hw⟩, hst, hbl⟩ := hrel
        by_cases hlt2 : bs < n
        · have hltz2 : (bs : Int) < (n : Int) := by omega
          have HM : Hid (LoopM cf enc k w blk off l0 bs 0 0 wr) := ⟨l, ⟨nd, os, hw⟩, hst, fun q h => absurd h (by omega), hbl⟩
          clear hw hst hbl
          go_wp2
          go_loopw [7, 8] (fun vi vj wr => ∃ (a q : Nat), vi = .int .i64 a ∧ vj = .int .i64 ((a + 2 * bs : Nat) : Int) ∧ a ≤ n ∧ Hid (a = q * (2 * bs)) ∧ LoopM cf enc k w blk off l0 bs q a wr) (fun vi _ _ => n - (intOf vi).toNat)
          case atStart => exact ⟨0, 0, rfl, by go_num, by omega, by show _ = _; simp, HM.out⟩
          case round =>
            clear HM
            obtain ⟨a, q, rfl, rfl, han, HA, l, ⟨nd, os, hw⟩, hst, hbl, hbf⟩ := hrel
            have HW : Hid (wr = sortWorldK enc k w blk off nd l.toArray os) := hw
            have HST : Hid (Stab cf l0 l) := hst
            have HBL : Hid (BlksTo cf (2 * bs) l q) := hbl
            have HBF : Hid (BlksFrom cf bs l a) := hbf
            have HLL : Hid (l.length = n) := hst.len.trans HL0.out
            have HSS : Hid (Srt cf ((l.drop a).take bs) ∧ Srt cf ((l.drop (a + bs)).take bs)) := blk_at HA.out hbf
            clear hw hst hbl hbf
            obtain ⟨b, hb⟩ : ∃ b, a + 2 * bs = b := ⟨_, rfl⟩
            rw [hb]
            have hb1 : a + 2 * bs ≤ b := by omega
            have hb2 : b ≤ a + 2 * bs := by omega
            clear hb
            obtain ⟨m, hm⟩ : ∃ m, a + bs = m := ⟨_, rfl⟩
            have em : (a : Int) + (bs : Int) = (m : Int) := by omega
            by_cases hlt3 : b ≤ n
            · have hltz3 : (b : Int) ≤ (n : Int) := by omega
              go_wp2_with fail
              rw [HW.out]
              refine (HSYM.out l a m b nd os HLL.out (by omega) (by omega) hlt3 (by rw [show m - a = bs by omega]; exact HSS.out.1) (by rw [← hm, show b - (a + bs) = bs by omega]; exact HSS.out.2)).mono ?_
              rintro e wA ⟨rfl, n1, l1, os1, hwA, hmr⟩
              have h2 := sym_step (bs := bs) (q := q) hmr HA.out (by omega) (by omega) (by rw [HLL.out]; exact hlt3) (.inl (by omega)) HBL.out HBF.out HST.out
              have HN : Hid (LoopM cf enc k w blk off l0 bs (q + 1) b wA) := ⟨l1, ⟨n1, os1, hwA⟩, h2.1, h2.2.1, h2.2.2⟩
              have HA2 : Hid (b = (q + 1) * (2 * bs)) := by have := HA.out; show _ = _; rw [Nat.succ_mul]; omega
              clear hwA hmr h2
              go_wp2
              go_roundw
              case rel => exact ⟨b, q + 1, rfl, by go_num, hlt3, HA2, HN.out⟩
              case measure => simp [intOf]; omega
            · have hltz3 : ¬ (b : Int) ≤ (n : Int) := by omega
              by_cases hlt4 : m < n
              · have hltz4 : (m : Int) < (n : Int) := by omega
                go_wp2_with fail
                rw [HW.out]
                refine (HSYM.out l a m n nd os HLL.out (by omega) hlt4 (Nat.le_refl _) (by rw [show m - a = bs by omega]; exact HSS.out.1) (by have := srt_take HSS.out.2 (n - m); rwa [List.take_take, Nat.min_eq_left (by omega), hm] at this)).mono ?_
                rintro e wA ⟨rfl, n1, l1, os1, hwA, hmr⟩
                have h2 := sym_step (bs := bs) (q := q) hmr HA.out (by omega) (by omega) (by rw [HLL.out]; exact Nat.le_refl _) (.inr HLL.out.symm) HBL.out HBF.out HST.out
                have HN : Hid (LoopO cf enc k w blk off l0 (2 * bs) wA) := ⟨l1, ⟨n1, os1, hwA⟩, h2.1, blks_all h2.2.1 (by rw [h2.1.len, HL0.out, Nat.succ_mul]; have := HA.out; omega)⟩
                clear hwA hmr h2 hm
                go_wp2
                go_roundw
                case rel => exact ⟨2 * bs, by go_num, by omega, by omega, HN.out⟩
                case measure => simp [intOf]; omega
              · have hltz4 : ¬ (m : Int) < (n : Int) := by omega
                have HN : Hid (LoopO cf enc k w blk off l0 (2 * bs) wr) := ⟨l, ⟨nd, os, HW.out⟩, HST.out, short_step HA.out (by rw [HLL.out]; omega) HBL.out HBF.out⟩
                clear hm
                go_wp2
                go_roundw
                case rel => exact ⟨2 * bs, by go_num, by omega, by omega, HN.out⟩
                case measure => simp [intOf]; omega
        · have hltz2 : ¬ (bs : Int) < (n : Int) := by omega
          have HW : Hid (wr = sortWorldK enc k w blk off nd l.toArray os) := hw
          have HR : Hid (Stab cf l0 l ∧ Srt cf l) := ⟨hst, blks_srt hbl (by rw [hst.len, HL0.out]; omega)⟩
          clear hw hst hbl
          go_wp2
          go_end0
          exact GivesSW.mk' nd l os HW HR.out
end Go.Proofs.Ytggfepphjaohiaa
