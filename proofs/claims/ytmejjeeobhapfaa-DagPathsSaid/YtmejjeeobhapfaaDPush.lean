/-
  Walk: one number more in the heap. Conditions: none.
-/
import Derived.Test.YtmejjeeobhapfaaDHeap
import Derived.Deep.QuietTactic
import Derived.BigQuiet
import Derived.BigRegion
namespace Go.Proofs.Ytmejjeeobhapfaa
open Go.RowKit
set_option linter.unusedVariables false
set_option linter.unusedSimpArgs false

theorem Try.infoIntD : (Try.prog.info? 3).map (fun i => (i.zero, i.size, i.bytes)) = some (some (.int .i64 0), 1, 8) := by kernel_rfl
def GivesPush (hb base : Nat) (v : Value) (l : List Int) (w : World) (w' : World) : Prop :=
  ∃ v', OI w' base v' l ∧ w'.heap[hb]? = some (.cells #[v'] 60) ∧ Mod (hb :: v.ownBlock.toList) w w' ∧ ∀ g, v'.ownBlock = some g → v.ownBlock = some g ∨ w.heap.size ≤ g
theorem heap_apart {w : World} {hb base : Nat} {v : Value} {l : List Int} {o : Array Value} (ho : OI w base v l) (hobj : w.heap[hb]? = some (.cells o 60)) : v.ownBlock ≠ some hb := fun h => by
  obtain ⟨_, cur, hc⟩ := ho.obj h
  rw [hobj] at hc
  injection hc with hc
  injection hc with _ h2 _
  cases h2
set_option maxRecDepth 100000 in
set_option maxHeartbeats 2000000 in
theorem hPush (hb base : Nat) (v : Value) (l : List Int) (x : Int) (w : World) (ho : OI w base v l) (hobj : w.heap[hb]? = some (.cells #[v] 60)) (hn : l.length ≤ 1000000) (hbase : base ≤ w.heap.size) :
    Calls Try.prog 40 #[.pointer (some ⟨hb, 0, none⟩), .int .i64 x] w fun e w' => e = .returned (.tuple #[]) ∧ GivesPush hb base v (hpush l x) w w' := by
  obtain ⟨i0, hi0, hz0, hz1, hz2⟩ := info_parts Try.infoIntD
  obtain ⟨A, c, rfl, hlc, hr⟩ := ho.slice
  have hc0 : w.cell? ⟨hb, 0, none⟩ = some (.slice A l.length c) := by rw [World.cell?, hobj]; simp
  have hhb : hb < w.heap.size := (Array.getElem?_eq_some_iff.1 hobj).1
  have HO := Lib.hid ho
  have HOB := Lib.hid hobj
  have HAP := Lib.hid (heap_apart ho hobj)
  obtain ⟨n, Hn⟩ : ∃ n, Hid (l.length = n) := ⟨_, rfl⟩
  have hown : w.ownsRow base 3 1 (.slice A n c) n (flat encI l) := by rw [← Hn.out]; exact ho
  rw [Hn.out] at hlc hr hc0 hn
  rw [Hn.out] at HO HAP HOB
  rw [Hn.out]
  clear hr hobj ho
  obtain ⟨FL, HF⟩ : ∃ FL, Hid (FL = flat encI l) := ⟨_, rfl⟩
  rw [← HF.out] at hown
  go_enter Try.func40, Try.ntmps40
  go_wp2_with (at_builtin; refine wpList_append_lies _ rfl _ _ _ rfl base 3 i0 _ 1 8 Try.underlying23 hi0 hz0 hz1 hz2 rfl (by omega) _ n FL rfl (World.ownsRow.alloc hown _) ⟨w.heap.size, 0, none⟩ 1 1 [.int .i64 x] rfl rfl (World.news_of_block (cs := #[.int .i64 x]) (t := 3) (fr := (0, 0)) (heap_alloc_new w _)) (by simp [Value.oneCell']) (by omega) (by simp only [maxLen]; omega) (by omega) (by simp; omega) (w.heap.size + 1) (by simp) ?_; intro gg cap w1 hown1 hgrow hat hlt2; have HX := Lib.hid (app1 (gg := gg) (cap := cap) HO.out Hn.out (by rw [← HF.out]; exact hown1) hgrow hat); have hc1 : w1.cell? ⟨hb, 0, none⟩ = some (.slice A n c) := HX.out.2.1.cell' hc0 (by simpa using HAP.out); have hf1 : w1.frozen? ⟨hb, 0, none⟩ = false := frozen_of_row w1 hb 0 _ _ (HX.out.2.1.obj HOB.out (by simpa using HAP.out)); clear hown1 hgrow hat)
  obtain ⟨V, HV⟩ : ∃ V : Value, Hid (V = .slice (some ⟨gg, 0, none⟩) (n + 1) cap) := ⟨_, rfl⟩
  have hne : hb ≠ gg := fun h => by
    have h1 := HX.out.2.1.obj HOB.out (by simpa using HAP.out)
    obtain ⟨_, cur, hc⟩ := HX.out.1.obj rfl
    rw [← h, h1] at hc
    injection hc with hc
    injection hc with _ h2 _
    cases h2
  have H0 : Hid (OI (w1.setCell ⟨hb, 0, none⟩ (.slice (some ⟨gg, 0, none⟩) (n + 1) cap)) base (.slice (some ⟨gg, 0, none⟩) (n + 1) cap) (l ++ [x]) ∧ (w1.setCell ⟨hb, 0, none⟩ (.slice (some ⟨gg, 0, none⟩) (n + 1) cap)).heap[hb]? = some (.cells #[.slice (some ⟨gg, 0, none⟩) (n + 1) cap] 60) ∧
      Mod (hb :: (Value.slice A n c).ownBlock.toList) w (w1.setCell ⟨hb, 0, none⟩ (.slice (some ⟨gg, 0, none⟩) (n + 1) cap)) ∧ ((Value.slice A n c).ownBlock = some gg ∨ w.heap.size ≤ gg)) := by
    refine ⟨Mod.own ((Mod.refl [hb] w1).setCell (by simp) _) HX.out.1 (fun s hs => by cases hs; simp; exact fun h => hne h.symm), ?_, ?_, HX.out.2.2⟩
    · rw [heap_setCell_same w1 hb 0 _ _ _ (HX.out.2.1.obj HOB.out (by simpa using HAP.out))]; simp
    · exact (HX.out.2.1.more (fun s hs => List.mem_cons_of_mem _ hs)).setCell (.inl (by simp)) _
  have HLL : Hid ((l ++ [x]).length = n + 1) := by show _ = _; rw [List.length_append, Hn.out]; rfl
  have HST : Hid (∃ f, n < f ∧ upH f (l ++ [x]) n = hpush l x) := ⟨l.length + 1, by rw [Hn.out]; omega, by rw [hpush, Hn.out]⟩
  obtain ⟨W0, HW0⟩ : ∃ W0, Hid (w1.setCell ⟨hb, 0, none⟩ (.slice (some ⟨gg, 0, none⟩) (n + 1) cap) = W0) := ⟨_, rfl⟩
  rw [HW0.out] at H0
  rw [HW0.out]
  have HGG : Hid (gg ∈ hb :: (Value.slice A n c).ownBlock.toList ∨ w.heap.size ≤ gg) := H0.out.2.2.2.elim (fun h => .inl (by rw [h]; simp)) .inr
  clear HW0 HX hc1 hf1 hlt2 hown hc0 HAP HOB
  go_loopw [4] (fun v wr => ∃ (i : Nat) (L : List Int), v = .int .i64 i ∧ i ≤ n ∧ Hid (L.length = n + 1) ∧ Hid (OI wr base (.slice (some ⟨gg, 0, none⟩) (n + 1) cap) L) ∧ Hid (wr.heap[hb]? = some (.cells #[.slice (some ⟨gg, 0, none⟩) (n + 1) cap] 60)) ∧
    Hid (Mod (hb :: (Value.slice A n c).ownBlock.toList) w wr) ∧ Hid (∃ f, i < f ∧ upH f L i = hpush l x)) (fun v _ => (intOf v).toNat)
  case atStart => exact ⟨n, l ++ [x], by go_num, by omega, HLL, H0.out.1, H0.out.2.1, H0.out.2.2.1, HST⟩
  case round =>
    obtain ⟨i, L, rfl, hin, HL, HOI, HOB, HM, HU⟩ := hrel
    have hcb : wr.cell? ⟨hb, 0, none⟩ = some (.slice (some ⟨gg, 0, none⟩) (n + 1) cap) := by rw [World.cell?, HOB.out]; simp
    have hD : Hid (¬ (0 < i ∧ L.getD i 0 < L.getD ((i - 1) / 2) 0) → GivesPush hb base (.slice A n c) (hpush l x) w wr) := fun h => by
      obtain ⟨f, _, hf⟩ := HU.out
      rw [upH_stop h] at hf
      rw [← hf]
      have hoi := HOI.out
      exact ⟨_, hoi, HOB.out, HM.out, fun g hg => by cases hg; exact H0.out.2.2.2⟩
    have hD' : Hid (∀ q, ¬ (0 < i ∧ L.getD i 0 < L.getD ((i - 1) / 2) 0) → GivesPush hb base (.slice A n c) (hpush l x) w (wr.drewN q)) := fun q h => by
      obtain ⟨v', h1, h2, h3, h4⟩ := hD.out h
      exact ⟨v', h1, h2, h3.drewN q, h4⟩
    by_cases hi0 : i = 0
    · subst hi0
      go_wp2
      go_quiet (fail)
      go_wp2
      go_end0
      exact ⟨rfl, hD'.out _ (by omega)⟩
    · obtain ⟨I, rfl⟩ : ∃ I, i = I + 1 := ⟨i - 1, by omega⟩
      obtain ⟨P, hP⟩ : ∃ P, I / 2 = P := ⟨_, rfl⟩
      have wI : IntKind.i64.wrap (I : Int) = (I : Int) := IntWalk.i64_in _ (by omega)
      have hq : (I : Int).tdiv 2 = (P : Int) := by rw [← hP]; rfl
      have wP : IntKind.i64.wrap (P : Int) = (P : Int) := IntWalk.i64_in _ (by omega)
      have b1 : (I : Int) + 1 < (n : Int) + 1 := by omega
      have b2 : (P : Int) < (n : Int) + 1 := by omega
      have g0 : decide ((I : Int) + 1 > 0) = true := decide_eq_true (by omega)
      have HP := Lib.hid hP
      have hin2 := hin
      clear hP hi0
      obtain ⟨y, hy⟩ : ∃ y, L[I + 1]? = some y := ⟨_, List.getElem?_eq_getElem (by have := HL.out; omega)⟩
      obtain ⟨z, hz⟩ : ∃ z, L[P]? = some z := ⟨_, List.getElem?_eq_getElem (by have := HL.out; have := HP.out; omega)⟩
      have hoi := HOI.out
      rw [← HL.out] at hoi
      obtain ⟨g, c', hv, _, _, _, _, hcl, hfr⟩ := hoi.at_ (i := 0) (by have := HL.out; omega)
      injection hv with hv _ hv2
      injection hv with hv
      injection hv with hv
      subst hv
      subst hv2
      have cy := hcl _ _ hy
      have cz := hcl _ _ hz
      have fy := hfr (I + 1)
      have fz := hfr P
      have c2 : ∀ (q : Nat) (u : Value), ((wr.drewN q).setCell ⟨gg, P, none⟩ u).cell? ⟨gg, I + 1, none⟩ = some (.int .i64 y) := fun q u => (World.cell?_setCell_other (wr.drewN q) ⟨gg, P, none⟩ ⟨gg, I + 1, none⟩ u (by simp; have := HP.out; omega)).trans cy
      have Hy := Lib.hid hy
      have Hz := Lib.hid hz
      clear hcl hfr hy hz hoi
      by_cases hzy : y < z
      · have g1 : decide (z > y) = true := decide_eq_true hzy
        have HZY := Lib.hid hzy
        clear hzy
        go_wp2
        go_quiet (fail)
        go_wp2
        go_big_region
        go_wp2
        go_roundw
        case rel =>
          have e1 : L.getD (I + 1) 0 = y := by rw [List.getD, Hy.out]; rfl
          have e2 : L.getD P 0 = z := by rw [List.getD, Hz.out]; rfl
          have e3 : (I + 1 - 1) / 2 = P := by have := HP.out; omega
          obtain ⟨f, hf1, hf2⟩ := HU.out
          obtain ⟨f', hf3, hf4⟩ := upH_go (f := f) (l := L) (i := I + 1) (by omega) ⟨by omega, by rw [e1, e3, e2]; exact HZY.out⟩
          rw [e3] at hf3 hf4
          have hs : swpI L P (I + 1) = (L.set P y).set (I + 1) z := by rw [swpI, e1, e2]
          have hst := OI.store2 (OI.store2 HOI.out HL.out P y) (by rw [List.length_set]; exact HL.out) (I + 1) z
          refine ⟨P, swpI L P (I + 1), by go_num, by have := HP.out; omega, by show _ = _; rw [swpI_len]; exact HL.out, by rw [hs]; exact hst, ?_, ?_, ⟨f', hf3, by rw [← hf4]; exact hf2⟩⟩
          · refine Mod.obj (S := [gg]) (((Mod.refl _ wr).setCell (p := ⟨gg, P, none⟩) (by simp) _).setCell (p := ⟨gg, I + 1, none⟩) (by simp) _) HOB.out (by simpa using hne)
          · exact ((HM.out.drewN _).setCell (p := ⟨gg, P, none⟩) HGG.out _).setCell (p := ⟨gg, I + 1, none⟩) HGG.out _
        case measure => simp [intOf]; have := HP.out; omega
      · have g1 : decide (z > y) = false := decide_eq_false hzy
        have HZY := Lib.hid hzy
        clear hzy
        go_wp2
        go_quiet (fail)
        go_wp2
        go_end0
        exact ⟨rfl, hD'.out _ (fun h => by
          have h1 := h.2
          rw [show (I + 1 - 1) / 2 = P by have := HP.out; omega] at h1
          simp only [List.getD, Hy.out, Hz.out, Option.getD] at h1
          exact absurd h1 (Int.not_lt.2 HZY.out))⟩
end Go.Proofs.Ytmejjeeobhapfaa
