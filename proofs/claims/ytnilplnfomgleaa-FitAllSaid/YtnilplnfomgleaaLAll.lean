/-
  Walk: FitAll. Conditions: none.
-/
import Derived.Test.YtnilplnfomgleaaWRAll
import Derived.Test.YtnilplnfomgleaaWKnown
namespace Go.Proofs.Ytnilplnfomgleaa
open Go.RowKit

set_option maxRecDepth 100000 in
set_option maxHeartbeats 2000000 in
theorem walk_all (A : Option Addr) (m c : Nat) (l : List Stp) (f b n g : Int) (w : World) (hr : RdP w A m l) (hm : m ≤ 9223372036854775807) :
    Calls Try.prog 4 #[.slice A m c, .agg #[.int .i64 f, .int .i64 b], .int .i64 n, .int .i64 g] w fun e w' => e = .returned (.bool true) ∧ Ext w w' := by
  have HR := Lib.hid hr; clear hr
  by_cases hlong : 20 < m
  · skip
    go_enter Try.func4, Try.ntmps4
    have HR0 := Lib.hid (HR.out.alloc' (.cells #[.int .i64 f, .int .i64 b] 24))
    have c0 : (w.alloc (.cells #[.int .i64 f, .int .i64 b] 24)).cell? ⟨w.heap.size, 0, none⟩ = some (.int .i64 f) := by simp [go_sem]
    have c1 : (w.alloc (.cells #[.int .i64 f, .int .i64 b] 24)).cell? ⟨w.heap.size, 1, none⟩ = some (.int .i64 b) := by simp [go_sem]
    have HX : Hid (Ext w (w.alloc (.cells #[.int .i64 f, .int .i64 b] 24))) := (Below.refl _ _).alloc (Nat.le_refl _) _
    clear HR
    have HR := HR0; clear HR0
    go_wp2_with fail
    refine (knownW _).mono ?_
    rintro e w1 ⟨rfl, hx1⟩
    replace c0 := hx1.cell' c0
    replace c1 := hx1.cell' c1
    replace HR := Lib.hid (HR.out.ext hx1)
    replace HX := Lib.hid (HX.out.trans' hx1)
    clear hx1
    go_wp2
    go_ret
    exact ⟨rfl, HX.out⟩
  by_cases hq : Req l f b n g
  case neg =>
    have H3 := Lib.hid (reqE_f hq)
    have HQ := Lib.hid hq
    clear hq
    go_enter Try.func4, Try.ntmps4
    have HR0 := Lib.hid (HR.out.alloc' (.cells #[.int .i64 f, .int .i64 b] 24))
    have c0 : (w.alloc (.cells #[.int .i64 f, .int .i64 b] 24)).cell? ⟨w.heap.size, 0, none⟩ = some (.int .i64 f) := by simp [go_sem]
    have c1 : (w.alloc (.cells #[.int .i64 f, .int .i64 b] 24)).cell? ⟨w.heap.size, 1, none⟩ = some (.int .i64 b) := by simp [go_sem]
    have HX : Hid (Ext w (w.alloc (.cells #[.int .i64 f, .int .i64 b] 24))) := (Below.refl _ _).alloc (Nat.le_refl _) _
    clear HR
    have HR := HR0; clear HR0
    go_wp2_with fail
    refine (fitAll_bad A m c l f b n g _ HR.out (by omega) HQ.out).mono ?_
    rintro e w1 ⟨rfl, hx1⟩
    replace c0 := hx1.cell' c0
    replace c1 := hx1.cell' c1
    replace HR := Lib.hid (HR.out.ext hx1)
    replace HX := Lib.hid (HX.out.trans' hx1)
    clear hx1
    go_wp2_with fail
    refine (ref10Check A m c l f b n g _ HR.out (by omega)).mono ?_
    rintro e w2 ⟨rfl, hx2⟩
    replace c0 := hx2.cell' c0
    replace c1 := hx2.cell' c1
    replace HR := Lib.hid (HR.out.ext hx2)
    replace HX := Lib.hid (HX.out.trans' hx2)
    clear hx2
    rw [H3.out]
    go_wp2_with fail
    refine (knownW _).mono ?_
    rintro e w3 ⟨rfl, hx3⟩
    replace c0 := hx3.cell' c0
    replace c1 := hx3.cell' c1
    replace HR := Lib.hid (HR.out.ext hx3)
    replace HX := Lib.hid (HX.out.trans' hx3)
    clear hx3
    go_wp2
    go_ret
    exact ⟨rfl, HX.out⟩
  have H3 := Lib.hid (reqE_t hq)
  have HQ := Lib.hid hq
  clear hq
  go_enter Try.func4, Try.ntmps4
  have HR0 := Lib.hid (HR.out.alloc' (.cells #[.int .i64 f, .int .i64 b] 24))
  have c0 : (w.alloc (.cells #[.int .i64 f, .int .i64 b] 24)).cell? ⟨w.heap.size, 0, none⟩ = some (.int .i64 f) := by simp [go_sem]
  have c1 : (w.alloc (.cells #[.int .i64 f, .int .i64 b] 24)).cell? ⟨w.heap.size, 1, none⟩ = some (.int .i64 b) := by simp [go_sem]
  have HX : Hid (Ext w (w.alloc (.cells #[.int .i64 f, .int .i64 b] 24))) := (Below.refl _ _).alloc (Nat.le_refl _) _
  clear HR
  have HR := HR0; clear HR0
  go_wp2_with fail
  refine (fitAll A m c l f b n g _ HR.out (by omega) HQ.out).mono ?_
  rintro e w1 ⟨A1, m1, cc1, rfl, ra, hy1⟩
  replace c0 := hy1.cell' c0
  replace c1 := hy1.cell' c1
  replace HR := Lib.hid (HR.out.ext hy1)
  replace HX := Lib.hid (HX.out.trans' hy1)
  have Hra := Lib.hid ra
  clear ra hy1
  go_wp2_with fail
  refine (ref10Check A m c l f b n g _ HR.out (by omega)).mono ?_
  rintro e w2 ⟨rfl, hx2⟩
  replace c0 := hx2.cell' c0
  replace c1 := hx2.cell' c1
  replace HR := Lib.hid (HR.out.ext hx2)
  replace HX := Lib.hid (HX.out.trans' hx2)
  replace Hra := Lib.hid (Hra.out.ext hx2)
  clear hx2
  rw [H3.out]
  go_wp2_with fail
  refine (refAll A m c l f b n g _ HR.out HQ.out).mono ?_
  rintro e w3 ⟨A2, m2, cc2, rfl, rb, hy3⟩
  replace c0 := hy3.cell' c0
  replace c1 := hy3.cell' c1
  replace HR := Lib.hid (HR.out.ext hy3)
  replace HX := Lib.hid (HX.out.trans' hy3)
  replace Hra := Lib.hid (Hra.out.ext hy3)
  have Hrb := Lib.hid rb
  clear rb hy3
  have hlen : (allF l f b n g).length ≤ 100000 := by
    have h2 := holTo_len n l
    have h4 := cutL_len f b g (holes n l)
    have h5 := HQ.out.1.2.1
    unfold allF
    unfold holes at h4
    split
    · split <;> simp
    · unfold holes; omega
  have hm1 := RdL.len Hra.out
  have hm2 := RdL.len Hrb.out
  have hs1 : m1 ≤ 100000 := by omega
  have hs2 : m2 ≤ 100000 := by omega
  clear hm1 hm2 hlen
  go_wp2_with fail
  refine (refSameW A1 A2 m1 _ m2 _ _ _ _ Hra.out Hrb.out (by omega) (by omega)).mono ?_
  rintro e w4 ⟨rfl, hx4⟩
  replace c0 := hx4.cell' c0
  replace c1 := hx4.cell' c1
  replace HR := Lib.hid (HR.out.ext hx4)
  replace HX := Lib.hid (HX.out.trans' hx4)
  replace Hra := Lib.hid (Hra.out.ext hx4)
  replace Hrb := Lib.hid (Hrb.out.ext hx4)
  clear hx4
  rw [sameL_t rfl]
  go_wp2_with fail
  refine (knownW _).mono ?_
  rintro e w5 ⟨rfl, hx5⟩
  replace c0 := hx5.cell' c0
  replace c1 := hx5.cell' c1
  replace HR := Lib.hid (HR.out.ext hx5)
  replace HX := Lib.hid (HX.out.trans' hx5)
  replace Hra := Lib.hid (Hra.out.ext hx5)
  replace Hrb := Lib.hid (Hrb.out.ext hx5)
  clear hx5
  go_wp2
  go_ret
  exact ⟨rfl, HX.out⟩
end Go.Proofs.Ytnilplnfomgleaa
