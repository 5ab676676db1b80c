/-
  Walk: is a row a way. Conditions: none.
-/
import Derived.Test.YtmejjeeobhapfaaDBothP
import Derived.Test.YtmejjeeobhapfaaDRef
import Derived.Deep.QuietTactic
import Derived.BigQuiet
import Derived.BigRegion
namespace Go.Proofs.Ytmejjeeobhapfaa
open Go.RowKit
set_option linter.unusedVariables false
set_option linter.unusedSimpArgs false

structure RightL (ls : List (List Int)) (l : List Int) (v w : Int) : Prop where
  fst : l[0]? = some v
  lst : l[l.length - 1]? = some w
  step : ∀ (i : Nat) (x y : Int), l[i]? = some x → l[i + 1]? = some y → (0 ≤ y ∧ y < ls.length) ∧ x ∈ ls.getD y.toNat []
theorem right_path {ls : List (List Int)} {w : Nat} : ∀ k v, canK ls w k v = true → RightL ls ((v : Int) :: restP ls w k v) v w
  | 0, v, h => by
    obtain rfl : v = w := by simpa [canK] using h
    exact ⟨rfl, rfl, fun i x y h1 h2 => by simp [restP] at h2⟩
  | k + 1, v, h => by
    have hs := stp_ok h
    have ih := right_path k (stp ls w k v) hs.2.1
    rw [restP]
    refine ⟨rfl, ?_, fun i x y h1 h2 => ?_⟩
    · have := ih.lst
      simp only [List.length_cons, Nat.add_sub_cancel] at this ⊢
      rw [List.getElem?_cons_succ]; exact this
    · cases i with
      | zero =>
        simp at h1 h2
        subst h1; subst h2
        exact ⟨⟨by omega, by omega⟩, by rw [Int.toNat_natCast]; exact hs.2.2⟩
      | succ i =>
        rw [List.getElem?_cons_succ] at h1 h2
        exact ih.step i x y h1 h2
theorem right_pathT {ls : List (List Int)} {v w : Int} (h : pathT ls v w ≠ []) : RightL ls (pathT ls v w) v w := by
  rw [pathT] at h ⊢
  split at h
  · rename_i hr
    rw [if_pos hr]
    cases hf : (List.range (ls.length + 1)).find? (fun k => canK ls w.toNat k v.toNat) with
    | none => rw [hf] at h; exact absurd rfl h
    | some k =>
      have hk : canK ls w.toNat k v.toNat = true := by have := List.find?_some hf; exact this
      have := right_path k v.toNat hk
      rwa [show ((v.toNat : Nat) : Int) = v by omega, show ((w.toNat : Nat) : Int) = w by omega] at this
  · exact absurd rfl h
set_option maxRecDepth 100000 in
set_option maxHeartbeats 2000000 in
theorem refRightW (A L : Option Addr) (n ca m cl : Nat) (ls : List (List Int)) (l : List Int) (v u : Int) (w : World) (hr : RdLL (fun _ => True) w A n ls) (hl : RdI w L m l) (hm : 1 ≤ m) (hm2 : m ≤ 1000000) (hn : n ≤ 1000000) (hls : ∀ l ∈ ls, l.length ≤ 1000000) (hri : RightL ls l v u) :
    Calls Try.prog 27 #[.slice A n ca, .slice L m cl, .int .i64 v, .int .i64 u] w fun e w' => e = .returned (.bool true) ∧ Ext w w' := by
  have HR := Lib.hid hr
  have HL := Lib.hid hl
  have HLS := Lib.hid hls
  have HLN : Hid (ls.length = n) := hr.len
  have HLM : Hid (l.length = m) := RdL.len hl
  have HRI := Lib.hid hri
  obtain ⟨b, off, x0, hA, -, h0, hc0⟩ := RdI.cut hl (k := 0) (by omega)
  obtain ⟨b', off', x1, hA1, -, h1, hc1⟩ := RdI.cut hl (k := m - 1) (by omega)
  rw [hA] at hA1
  injection hA1 with e1
  injection e1 with e1 e2 _
  subst e1; subst e2; subst hA
  have e3 : x0 = v := by have := hri.fst; rw [h0] at this; injection this
  have e4 : x1 = u := by have := hri.lst; rw [HLM.out, h1] at this; injection this
  subst e3; subst e4
  rw [Nat.add_zero] at hc0
  obtain ⟨p, hp⟩ : ∃ p, p = m - 1 := ⟨_, rfl⟩
  rw [← hp] at hc1
  have hpm : (p : Int) < (m : Int) := by omega
  have hp0 : (0 : Int) ≤ (p : Int) := Int.natCast_nonneg _
  have hm0 : (0 : Int) < (m : Int) := by omega
  have hwm : IntKind.i64.wrap ((m : Int) - 1) = (p : Int) := by rw [IntKind.wrap_i64]; omega
  have d0 : ((m : Int) == 0) = false := by simp; omega
  have d1 : (x0 != x0) = false := by simp
  have d2 : (x1 != x1) = false := by simp
  clear hr hl hls hri h0 h1 hp
  go_enter Try.func27, Try.ntmps27
  go_wp2
  go_loopw [9] (fun i wr => ∃ k : Nat, 1 ≤ k ∧ k ≤ m ∧ i = .int .i64 k ∧ Hid (Ext w wr)) (fun i _ => m - (intOf i).toNat)
  case atStart => exact ⟨1, by omega, by omega, rfl, Ext.rfl'⟩
  case round =>
    obtain ⟨k, hk1, hk, rfl, HX⟩ := hrel
    by_cases hlt : k < m
    · have hkp : (k : Int) < (m : Int) := by omega
      have hk0 : (0 : Int) ≤ (k : Int) := Int.natCast_nonneg _
      obtain ⟨j, hj⟩ : ∃ j, k = j + 1 := ⟨k - 1, by omega⟩
      obtain ⟨b2, o2, y, h2, -, hy, hcy⟩ := RdI.cut (HL.out.ext HX.out) (k := k) hlt
      injection h2 with h2
      injection h2 with e1 e2 _
      subst e1; subst e2
      obtain ⟨b2, o2, x, h2, -, hx, hcx⟩ := RdI.cut (HL.out.ext HX.out) (k := j) (by omega)
      injection h2 with h2
      injection h2 with e1 e2 _
      subst e1; subst e2
      obtain ⟨⟨hy0, hyn⟩, hin⟩ := HRI.out.step j x y hx (by rw [← hj]; exact hy)
      rw [HLN.out] at hyn
      obtain ⟨Y, rfl⟩ : ∃ Y : Nat, y = (Y : Int) := ⟨y.toNat, by omega⟩
      have hYn : Y < n := by omega
      obtain ⟨b3, o3, A3, c3, l3, rfl, -, hl3, hcl, -, hrl, -, -⟩ := (HR.out.ext HX.out).at_ hYn
      obtain ⟨m3, HM3⟩ : ∃ m3, Hid (l3.length = m3) := ⟨_, rfl⟩
      have hm3 := HLS.out l3 (List.mem_of_getElem? hl3)
      rw [HM3.out] at hcl hrl hm3
      have hgd : ls.getD Y [] = l3 := RdLL.getD_ hl3
      rw [Int.toNat_natCast, hgd] at hin
      have hrl2 := hrl
      have Q : Hid (∀ z, Calls Try.prog 28 #[.slice A3 m3 c3, .int .i64 x] (wr.drewN z) fun e w'' => e = .returned (.bool true) ∧ ∃ q, w'' = wr.drewN q) := fun z => quietL (refHas5V (decide_eq_true hin) A3 m3 c3 (wr.drewN z) (hrl2.ext (below_drewN' Ext.rfl' z)) (by omega))
      have d3 : decide ((Y : Int) < 0) = false := decide_eq_false (by omega)
      have d4 : decide ((Y : Int) ≥ (n : Int)) = false := decide_eq_false (by omega)
      have hYn2 : (Y : Int) < (n : Int) := by omega
      have hwj : IntKind.i64.wrap ((k : Int) - 1) = (j : Int) := by rw [IntKind.wrap_i64]; omega
      have hj0 : (0 : Int) ≤ (j : Int) := Int.natCast_nonneg _
      have hjm : (j : Int) < (m : Int) := by omega
      clear hj
      clear hx hy hl3 hrl hrl2 hgd hin hm3 hy0 hyn
      go_wp2
      go_quiet ((go_at_call 28; with_reducible exact Q.out _))
      go_wp2
      go_roundw
      case rel => exact ⟨k + 1, by omega, by omega, by go_num, below_drewN' HX.out _⟩
      case measure => simp [intOf]; omega
    · have hkp : ¬ (k : Int) < (m : Int) := by omega
      obtain rfl : k = m := by omega
      go_wp2
      (try rw [Exit.noGoto_ret])
      go_ret
      exact ⟨rfl, HX.out⟩
end Go.Proofs.Ytmejjeeobhapfaa
