/-
  Walks: all times at which a request fits, the first one, and the last one. Conditions: none.
-/
import Derived.Test.YtbcpjdjlgmhohaaWHoles
import Derived.Test.YtbcpjdjlgmhohaaWFits
namespace Go.Proofs.Ytbcpjdjlgmhohaa
open Go.RowKit

def cutOne (f b g : Int) (h : Stp) : List Stp := if min h.2 b - g < max h.1 f then [] else [(max h.1 f, min h.2 b - g)]
def cutL (f b g : Int) (hs : List Stp) : List Stp := hs.flatMap (cutOne f b g)
theorem cutL_snoc (f b g : Int) (hs : List Stp) (h : Stp) : cutL f b g (hs ++ [h]) = cutL f b g hs ++ cutOne f b g h := by simp [cutL]
theorem cutL_len (f b g : Int) (hs : List Stp) : (cutL f b g hs).length ≤ hs.length := by
  induction hs with
  | nil => simp [cutL]
  | cons h hs ih =>
    have : (cutOne f b g h).length ≤ 1 := by unfold cutOne; split <;> simp
    simp only [cutL, List.flatMap_cons, List.length_append, List.length_cons] at ih ⊢
    omega
/-- all times -/
def allF (l : List Stp) (f b n g : Int) : List Stp := if g = 0 then (if b < f then [] else [(f, b)]) else cutL f b g (holes n l)
theorem holTo_len (n : Int) (l : List Stp) : (holOut (holTo n l)).length ≤ l.length := by
  suffices h : ∀ (m : List Stp) (s : Hol), (holOut (m.foldl (holStep n) s)).length ≤ (holOut s).length + m.length by simpa [holOut, holTo] using h l ([], none)
  intro m
  induction m with
  | nil => intro s; simp
  | cons x m ih =>
    intro s
    rw [List.foldl_cons, List.length_cons]
    have h1 := ih (holStep n s x)
    have h2 : (holOut (holStep n s x)).length ≤ (holOut s).length + 1 := by
      unfold holStep holOut
      split <;> split <;> simp_all
    omega
/-- the ends of whiles are times, or never -/
theorem holTo_bd {n : Int} {l : List Stp} (hl : ∀ (i : Nat) (a f : Int), l[i]? = some (a, f) → 0 ≤ a ∧ a ≤ 1099511627775) : ∀ p ∈ holes n l, 0 ≤ p.1 ∧ p.1 ≤ 1099511627775 ∧ 0 ≤ p.2 ∧ p.2 ≤ 2199023255550 := by
  have hm : ∀ s ∈ l, 0 ≤ s.1 ∧ s.1 ≤ 1099511627775 := fun s hs => by
    obtain ⟨i, hi⟩ := List.mem_iff_getElem?.1 hs
    exact hl i s.1 s.2 hi
  suffices h : ∀ (m : List Stp) (s : Hol), (∀ q ∈ m, 0 ≤ q.1 ∧ q.1 ≤ 1099511627775) → (∀ p ∈ s.1, 0 ≤ p.1 ∧ p.1 ≤ 1099511627775 ∧ 0 ≤ p.2 ∧ p.2 ≤ 2199023255550) → (∀ x, s.2 = some x → 0 ≤ x ∧ x ≤ 1099511627775) →
      ∀ p ∈ holOut (m.foldl (holStep n) s), 0 ≤ p.1 ∧ p.1 ≤ 1099511627775 ∧ 0 ≤ p.2 ∧ p.2 ≤ 2199023255550 from h l ([], none) hm (by simp) (by simp)
  intro m
  induction m with
  | nil =>
    intro s _ h1 h2 p hp
    simp only [List.foldl_nil, holOut, List.mem_append] at hp
    rcases hp with hp | hp
    · exact h1 p hp
    · cases h : s.2 with
      | none => simp [h] at hp
      | some x => rw [h] at hp; simp at hp; subst hp; have := h2 x h; simp; omega
  | cons q m ih =>
    intro s hm h1 h2
    rw [List.foldl_cons]
    have hq := hm q (by simp)
    refine ih _ (fun z hz => hm z (by simp [hz])) ?_ ?_
    · intro p hp
      unfold holStep at hp
      cases h : s.2 with
      | none => rw [h] at hp; simp only at hp; split at hp <;> exact h1 p hp
      | some x =>
        rw [h] at hp; simp only at hp
        split at hp
        · exact h1 p hp
        · simp only [List.mem_append, List.mem_singleton] at hp
          rcases hp with hp | rfl
          · exact h1 p hp
          · have := h2 x h; simp; omega
    · intro x hx
      unfold holStep at hx
      cases h : s.2 with
      | none =>
        rw [h] at hx; simp only at hx
        split at hx
        · simp at hx; subst hx; exact hq
        · exact h2 x hx
      | some y =>
        rw [h] at hx; simp only at hx
        split at hx
        · exact h2 x hx
        · simp at hx
/-- it hands back a new slice that reads as l, and no error -/
def GivesPE (l : List Stp) (w : World) (e : Ending) (w' : World) : Prop := ∃ A m c, e = .returned (.tuple #[.slice A m c, .int .i64 0]) ∧ RdP w' A m l ∧ Ext w w'

set_option maxHeartbeats 1000000 in
theorem fitAll_bad (A : Option Addr) (m c : Nat) (l : List Stp) (f b n g : Int) (w : World) (hr : RdP w A m l) (hn : m ≤ 9223372036854775807) (hbad : ¬ Req l f b n g) :
    Calls Try.prog 46 #[.slice A m c, .agg #[.int .i64 f, .int .i64 b], .int .i64 n, .int .i64 g] w fun e w' => e = .returned (.tuple #[.slice none 0 0, .int .i64 2]) ∧ Ext w w' := by
  have HR := Lib.hid hr; clear hr
  have HC := Lib.hid (reqE_f hbad); clear hbad
  go_enter Try.func46, Try.ntmps46
  go_wp2
  go_step3
  go_wp2_with (go_at_call 47; refine (fitRequest A m c l f b n g _ (HR.out.alloc' _) hn).mono ?_; rintro e w1 ⟨rfl, hx1⟩; have hcell := hx1.cell' (p := ⟨w.heap.size, 0, none⟩) (by simp [go_sem]; rfl); have hcell1 := hx1.cell' (p := ⟨w.heap.size, 1, none⟩) (by simp [go_sem]; rfl); have Hx1 := Lib.hid hx1; clear hx1; rw [HC.out])
  (try rw [Exit.noGoto_ret])
  go_ret2
  exact ⟨rfl, ((Below.refl _ _).alloc (Nat.le_refl _) _).trans (Hx1.out.mono (by simp))⟩

set_option maxRecDepth 100000 in
set_option maxHeartbeats 2000000 in
theorem fitAll (A : Option Addr) (m c : Nat) (l : List Stp) (f b n g : Int) (w : World) (hr : RdP w A m l) (hn : m ≤ 100000) (hok : Req l f b n g) :
    Calls Try.prog 46 #[.slice A m c, .agg #[.int .i64 f, .int .i64 b], .int .i64 n, .int .i64 g] w (GivesPE (allF l f b n g) w) := by
  have HR := Lib.hid hr; clear hr
  have HC := Lib.hid (reqE_t hok)
  obtain ⟨i0, hi0, hz0, hz1, hz2⟩ := info_parts Try.infoWin
  have hlen := holTo_len n l
  rw [RdL.len HR.out] at hlen
  have HB := Lib.hid (holTo_bd (n := n) hok.1.times)
  obtain ⟨f0, f1⟩ := (isT_iff f).1 hok.2.1
  obtain ⟨b0, b1⟩ := (isT_iff b).1 hok.2.2.1
  obtain ⟨g0, g1⟩ := (isT_iff g).1 hok.2.2.2.2.2
  clear hok
  by_cases hg : g = 0
  · have hz : (g == 0) = true := by simpa using hg
    by_cases hbf : b < f
    · have HA : Hid (allF l f b n g = []) := by show _ = _; unfold allF; rw [if_pos hg, if_pos hbf]
      replace hg := Lib.hid hg
      go_enter Try.func46, Try.ntmps46
      go_wp2
      go_step3
      go_wp2_with (go_at_call 47; refine (fitRequest A m c l f b n g _ (HR.out.alloc' _) (by omega)).mono ?_; rintro e w1 ⟨rfl, hx1⟩; have hcell := hx1.cell' (p := ⟨w.heap.size, 0, none⟩) (by simp [go_sem]; rfl); have hcell1 := hx1.cell' (p := ⟨w.heap.size, 1, none⟩) (by simp [go_sem]; rfl); have Hx1 := Lib.hid hx1; clear hx1; rw [HC.out])
      (try rw [Exit.noGoto_ret])
      go_ret2
      exact ⟨none, 0, 0, rfl, by rw [HA.out]; exact ⟨encP_len, rfl, Rd.nil' _ _ _⟩, ((Below.refl _ _).alloc (Nat.le_refl _) _).trans (Hx1.out.mono (by simp))⟩
    · have HA : Hid (allF l f b n g = [(f, b)]) := by show _ = _; unfold allF; rw [if_pos hg, if_neg hbf]
      replace hg := Lib.hid hg
      go_enter Try.func46, Try.ntmps46
      go_wp2
      go_step3
      go_wp2_with (go_at_call 47; refine (fitRequest A m c l f b n g _ (HR.out.alloc' _) (by omega)).mono ?_; rintro e w1 ⟨rfl, hx1⟩; have hcell := hx1.cell' (p := ⟨w.heap.size, 0, none⟩) (by simp [go_sem]; rfl); have hcell1 := hx1.cell' (p := ⟨w.heap.size, 1, none⟩) (by simp [go_sem]; rfl); have Hx1 := Lib.hid hx1; clear hx1; rw [HC.out])
      (try rw [Exit.noGoto_ret])
      go_ret2
      have hown := own_lit w1 w1.heap.size 61 2 1 1 w1.heap.size #[.int .i64 f, .int .i64 b] (flat encP [(f, b)]) (Nat.le_refl _) rfl (by simp [maxLen]) rfl rfl rfl
      obtain ⟨A', c', hv, hc', hr'⟩ := RdL.of_own encP_len hown rfl
      injection hv with hv1 _ hv2
      subst hv1; subst hv2
      exact ⟨_, _, _, rfl, by rw [HA.out]; exact hr', (((Below.refl _ _).alloc (Nat.le_refl _) _).trans (Hx1.out.mono (by simp))).alloc (by have := Hx1.out.size; simp at this; omega) _⟩
  have hz : (g == 0) = false := by simpa using hg
  have HA : Hid (allF l f b n g = cutL f b g (holes n l)) := by show _ = _; unfold allF; rw [if_neg hg]
  go_enter Try.func46, Try.ntmps46
  go_wp2
  go_step3
  go_wp2_with ((go_at_call 47; refine (fitRequest A m c l f b n g _ (HR.out.alloc' _) (by omega)).mono ?_; rintro e w1 ⟨rfl, hx1⟩; have hcell := hx1.cell' (p := ⟨w.heap.size, 0, none⟩) (by simp [go_sem]; rfl); have hcell1 := hx1.cell' (p := ⟨w.heap.size, 1, none⟩) (by simp [go_sem]; rfl); have HX1 : Hid (Ext w w1) := ((Below.refl _ _).alloc (Nat.le_refl _) _).trans (hx1.mono (by simp)); clear hx1; rw [HC.out]))
  go_step3
  go_wp2_with (go_at_call 60; refine (fitHoles A m c l n _ (HR.out.ext HX1.out) hn).mono ?_; rintro e w2 ⟨A2, m2, c2, rfl, hr2, hx2⟩; replace hcell := hx2.cell' hcell; replace hcell1 := hx2.cell' hcell1; have HX2 : Hid (Ext w w2) := HX1.out.trans' hx2; have HR2 := Lib.hid hr2; clear hx2 hr2 HX1)
  have hm2 : m2 ≤ 100000 := by have := RdL.len HR2.out; unfold holes at this; omega
  have hw2 : w.heap.size < w2.heap.size := World.block_lt_of_cell? w2 _ hcell
  have em := min_go
  have ex := max_go
  obtain ⟨hs, Hhs⟩ : ∃ hs, Hid (hs = holes n l) := ⟨_, rfl⟩
  rw [← Hhs.out] at HB HR2 HA
  go_loopw [11, 37] (fun v i wr => ∃ k : Nat, k ≤ m2 ∧ i = .int .i64 k ∧ wr.ownsRow w2.heap.size 61 2 v (cutL f b g (hs.take k)).length (flat encP (cutL f b g (hs.take k))) ∧ Ext w2 wr) (fun _ i _ => m2 - (intOf i).toNat)
  case atStart => exact ⟨0, by omega, rfl, by simpa [cutL, flat] using World.ownsRow_nil _ _ _ _, Ext.rfl'⟩
  case round =>
    obtain ⟨k, hk, rfl, hown, hext⟩ := hrel
    by_cases hlt : k < m2
    · obtain ⟨bb, off, x, y, rfl, hbb, hx, hd0, hd1⟩ := RdP.cut HR2.out hlt
      obtain ⟨x0, x1, y0, y1⟩ := HB.out _ (List.mem_of_getElem? hx)
      simp only at x0 x1 y0 y1
      replace hd0 := hext.cell' hd0
      replace hd1 := hext.cell' hd1
      have hc0 := hext.cell' hcell
      have hc1 := hext.cell' hcell1
      have HS : Hid (cutL f b g (hs.take (k + 1)) = cutL f b g (hs.take k) ++ cutOne f b g (x, y)) := by
        show _ = _
        rw [take_snoc' hx, cutL_snoc]
      have hle : (cutL f b g (hs.take k)).length ≤ k := by
        have := cutL_len f b g (hs.take k)
        rw [List.length_take] at this
        omega
      have hbw : bb < wr.heap.size := by have := hext.size; omega
      have hww : w.heap.size < wr.heap.size := by have := hext.size; omega
      have e1 : IntKind.i64.wrap (min y b - g) = min y b - g := IntWalk.i64_in _ (by omega)
      have hi0' : (0 : Int) ≤ (k : Int) := Int.natCast_nonneg _
      have hi1 : (k : Int) < (m2 : Int) := by omega
      have Hext := Lib.hid hext; clear hext hx hcell hcell1 hw2 hbb
      by_cases hc : min y b - g < max x f
      · have HN : Hid (cutL f b g (hs.take (k + 1)) = cutL f b g (hs.take k)) := by
          show _ = _
          rw [HS.out]; unfold cutOne; rw [if_pos hc, List.append_nil]
        go_wp2
        go_quiet (fail)
        go_wp2
        go_roundw
        case rel => exact ⟨k + 1, by omega, by go_num, by rw [HN.out]; exact hown.alloc _, below_drewN' (Hext.out.alloc Hext.out.size _) _⟩
        case measure => simp [intOf]; omega
      · have HN : Hid (cutL f b g (hs.take (k + 1)) = cutL f b g (hs.take k) ++ [(max x f, min y b - g)]) := by
          show _ = _
          rw [HS.out]; unfold cutOne; rw [if_neg hc]
        obtain ⟨L, HL⟩ : ∃ L, Hid (L = (cutL f b g (hs.take k)).length) := ⟨_, rfl⟩
        obtain ⟨F, HF⟩ : ∃ F, Hid (F = flat encP (cutL f b g (hs.take k))) := ⟨_, rfl⟩
        rw [← HL.out, ← HF.out] at hown
        rw [← HL.out] at hle
        go_wp2
        go_quiet (fail)
        obtain ⟨w3, hw3⟩ : ∃ w3, w3 = (wr.alloc (.cells #[.int .i64 x, .int .i64 y] 61)).drewN nq := ⟨_, rfl⟩
        rw [← hw3]
        have hown3 : w3.ownsRow w2.heap.size 61 2 u11 L F := by rw [hw3]; exact hown.alloc _
        have HX3 : Hid (Ext w2 w3) := by show Ext _ _; rw [hw3]; exact below_drewN' (Hext.out.alloc Hext.out.size _) _
        clear hw3 hown hd0 hd1 hc0 hc1 hbw hww
        obtain ⟨p, HP⟩ : ∃ p, Hid (p = max x f) := ⟨_, rfl⟩
        obtain ⟨q, HQ⟩ : ∃ q, Hid (q = min y b - g) := ⟨_, rfl⟩
        rw [← HP.out, ← HQ.out] at HN hc ⊢
        clear e1 em ex
        go_wp2_with (at_builtin; refine wpList_append_lies _ rfl _ _ _ rfl w2.heap.size 61 i0 _ 2 16 Try.underlying82 hi0 hz0 hz1 hz2 rfl (by omega) u11 L F rfl (hown3.alloc _) ⟨w3.heap.size, 0, none⟩ 1 1 [.int .i64 p, .int .i64 q] rfl rfl (World.news_of_block (cs := #[.int .i64 p, .int .i64 q]) (t := 61) (fr := (0, 0)) (heap_alloc_new w3 _)) (by simp [Value.oneCell']) (by omega) (by simp only [maxLen]; omega) (by omega) (by have := HX3.out.size; simp; omega) (w3.heap.size + 1) (by simp) ?_; intro gg cap w4 hown4 hgrow hat hlt2; have Hown4 := Lib.hid hown4; have Hgrow := Lib.hid hgrow; clear hown4 hgrow hat)
        go_roundw
        case rel =>
          refine ⟨k + 1, by omega, by go_num, ?_, ?_⟩
          · rw [HN.out, flat_append, flat_one, List.length_append, ← HL.out, ← HF.out]
            exact Hown4.out
          · exact (HX3.out.alloc HX3.out.size _).grown Hgrow.out (by have := HX3.out.size; simp; omega) (fun z hz => (hown3.lt z hz).1)
        case measure => simp [intOf]; omega
    · have HE : Hid (hs.take k = hs) := take_all' (RdL.len HR2.out) (by omega)
      rw [HE.out] at hown
      obtain ⟨A', c', rfl, hc', hr'⟩ := RdL.of_own encP_len hown rfl
      have Hr := Lib.hid hr'
      clear hown hr'
      go_wp2
      (try rw [Exit.noGoto_ret])
      go_ret2
      exact ⟨A', _, c', rfl, by rw [HA.out]; exact Hr.out, HX2.out.trans' hext⟩
end Go.Proofs.Ytbcpjdjlgmhohaa
