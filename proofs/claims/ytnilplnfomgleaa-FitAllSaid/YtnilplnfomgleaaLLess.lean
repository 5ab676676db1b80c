/-
  Walk: FitLess. Conditions: none.
-/
import Derived.Test.YtnilplnfomgleaaPFit
import Derived.Test.YtnilplnfomgleaaWKnown
namespace Go.Proofs.Ytnilplnfomgleaa
open Go.RowKit

theorem err_same (l : List Stp) (f b n g : Int) : (firstR l f b n g).2 = (lastR l f b n g).2 := by
  by_cases hq : Req l f b n g
  · rcases finds hq with ⟨_, h1, h2⟩ | ⟨_, h1, h2⟩ <;> rw [h1, h2]
  · rw [firstR_bad hq, lastR_bad hq]
theorem err_ok {l : List Stp} {f b n g : Int} (h : (firstR l f b n g).2 = 0) : Req l f b n g ∧ FitsP l f b n g (firstR l f b n g).1 ∧ FitsP l f b n g (lastR l f b n g).1 ∧
    (∀ t, FitsP l f b n g t → (firstR l f b n g).1 ≤ t ∧ t ≤ (lastR l f b n g).1) := by
  by_cases hq : Req l f b n g
  · refine ⟨hq, ?_⟩
    rcases ha : allF l f b n g with _ | ⟨p, r⟩
    · rw [firstR_none hq ha] at h; simp at h
    · obtain ⟨q, hl⟩ : ∃ q, (allF l f b n g).getLast? = some q := by rw [ha, List.getLast?_cons]; exact ⟨_, rfl⟩
      rw [firstR_some hq ha, lastR_some hq hl]
      have hp : p ∈ allF l f b n g := by rw [ha]; simp
      have hql : q ∈ allF l f b n g := List.mem_of_getLast? hl
      have hr := all_rise hq
      refine ⟨(fits_all hq _).2 ⟨p, hp, Int.le_refl _, all_le p hp⟩, (fits_all hq _).2 ⟨q, hql, all_le q hql, Int.le_refl _⟩, fun t ht => ?_⟩
      obtain ⟨s, hs, s1, s2⟩ := (fits_all hq t).1 ht
      obtain ⟨ys, hys⟩ := List.getLast?_eq_some_iff.1 hl
      constructor
      · rw [ha] at hs hr
        rcases List.mem_cons.1 hs with rfl | hs'
        · exact s1
        · have := (List.pairwise_cons.1 hr).1 s hs'; have := all_le p hp; simp only; omega
      · rw [hys] at hs hr
        rcases List.mem_append.1 hs with hs' | hs'
        · have := (List.pairwise_append.1 hr).2.2 s hs' q (by simp); have := all_le q hql; simp only; omega
        · simp at hs'; subst hs'; exact s2
  · rw [firstR_bad hq] at h; simp at h
theorem err_room {l : List Stp} {f b n g t : Int} (hq : Req l f b n g) (ht : FitsP l f b n g t) : (firstR l f b n g).2 = 0 := by
  rcases ha : allF l f b n g with _ | ⟨p, r⟩
  · obtain ⟨s, hs, _⟩ := (fits_all hq t).1 ht
    rw [ha] at hs; simp at hs
  · rw [firstR_some hq ha]
theorem err_req {l : List Stp} {f b n g : Int} (h : (firstR l f b n g).2 ≠ 2) : Req l f b n g := by
  by_cases hq : Req l f b n g
  · exact hq
  · rw [firstR_bad hq] at h; exact absurd rfl h
theorem fits_less {l : List Stp} {f b n g f' b' n' g' t : Int} (hg : 0 ≤ g') (hf : f' ≤ f) (hb : b ≤ b') (hn : n' ≤ n) (hg' : g' ≤ g) (ht : FitsP l f b n g t) : FitsP l f' b' n' g' t := by
  obtain ⟨h1, h2, h3⟩ := ht
  refine ⟨by omega, by omega, ?_⟩
  rcases h3 with h3 | h3
  · left; omega
  · right
    have h4 := (le_minTo l l t (t + g) n).1 h3
    exact (le_minTo l l t (t + g') n').2 ⟨by omega, fun s hs s1 s2 => by have := h4.2 s hs s1 (by omega); omega⟩
theorem less_plain {l : List Stp} {f b n g f' b' n' g' : Int} (h : (firstR l f b n g).2 = 0) (hf : f' ≤ f) (hb : b ≤ b') (hn : n' ≤ n) (hg' : g' ≤ g) (h2 : (firstR l f' b' n' g').2 ≠ 2) :
    (firstR l f' b' n' g').2 = 0 ∧ (lastR l f' b' n' g').2 = 0 ∧ (firstR l f' b' n' g').1 ≤ (firstR l f b n g).1 ∧ (lastR l f b n g).1 ≤ (lastR l f' b' n' g').1 := by
  obtain ⟨hq, t1, t2, _⟩ := err_ok h
  have hq' := err_req h2
  have g0 := hq'.bd
  have s1 := fits_less (f' := f') (b' := b') (n' := n') (g' := g') (by omega) hf hb hn hg' t1
  have s2 := fits_less (f' := f') (b' := b') (n' := n') (g' := g') (by omega) hf hb hn hg' t2
  have h0 := err_room hq' s1
  obtain ⟨_, _, _, h3⟩ := err_ok h0
  exact ⟨h0, (err_same ..).symm.trans h0, (h3 _ s1).1, (h3 _ s2).2⟩

set_option maxHeartbeats 1000000 in
theorem less_long (A : Option Addr) (m c : Nat) (f b n g x y z : Int) (w : World) (hm : 40 < m) :
    Calls Try.prog 5 #[.slice A m c, .agg #[.int .i64 f, .int .i64 b], .int .i64 n, .int .i64 g, .int .u8 x, .int .u8 y, .int .u8 z] w fun e w' => e = .returned (.bool true) ∧ Ext w w' := by
  go_enter Try.func5, Try.ntmps5
  go_wp2_with (go_at_call 10; refine (knownW _).mono ?_; rintro e w1 ⟨rfl, hx1⟩; have Hx1 := Lib.hid hx1; clear hx1)
  go_ret
  exact ⟨rfl, ((Below.refl _ _).alloc (Nat.le_refl _) _).trans (Hx1.out.mono (by simp))⟩

set_option maxRecDepth 100000 in
set_option maxHeartbeats 2000000 in
theorem less_short (A : Option Addr) (m c : Nat) (l : List Stp) (f b n g x y z : Int) (w : World) (hr : RdP w A m l) (hm : m ≤ 40)
    (x0 : 0 ≤ x ∧ x ≤ 255) (y0 : 0 ≤ y ∧ y ≤ 255) (z0 : 0 ≤ z ∧ z ≤ 255) :
    Calls Try.prog 5 #[.slice A m c, .agg #[.int .i64 f, .int .i64 b], .int .i64 n, .int .i64 g, .int .u8 x, .int .u8 y, .int .u8 z] w fun e w' => e = .returned (.bool true) ∧ Ext w w' := by
  have HR := Lib.hid hr; clear hr
  obtain ⟨x0, x1⟩ := x0
  obtain ⟨y0, y1⟩ := y0
  obtain ⟨z0, z1⟩ := z0
  obtain ⟨a1, e1, H1⟩ : ∃ a e, Hid (firstR l f b n g = (a, e)) := ⟨_, _, rfl⟩
  obtain ⟨a2, e2, H2⟩ : ∃ a e, Hid (lastR l f b n g = (a, e)) := ⟨_, _, rfl⟩
  obtain rfl : e1 = e2 := by have := err_same l f b n g; rw [H1.out, H2.out] at this; exact this
  by_cases h0 : e1 = 0
  case neg =>
    have d0 : (e1 != 0) = true := by simpa using h0
    have d1 : (e1 == e1) = true := by simp
    clear h0
    go_enter Try.func5, Try.ntmps5
    have HR0 := Lib.hid (HR.out.alloc' (.cells #[.int .i64 f, .int .i64 b] 24))
    have c0 : (w.alloc (.cells #[.int .i64 f, .int .i64 b] 24)).cell? ⟨w.heap.size, 0, none⟩ = some (.int .i64 f) := by simp [go_sem]
    have c1 : (w.alloc (.cells #[.int .i64 f, .int .i64 b] 24)).cell? ⟨w.heap.size, 1, none⟩ = some (.int .i64 b) := by simp [go_sem]
    have HX : Hid (Ext w (w.alloc (.cells #[.int .i64 f, .int .i64 b] 24))) := (Below.refl _ _).alloc (Nat.le_refl _) _
    clear HR
    have HR := HR0; clear HR0
    go_wp2_with fail
    refine (fitFirst A m c l f b n g _ HR.out (by omega)).mono ?_
    rintro e w1 ⟨rfl, hx1⟩
    replace c0 := hx1.cell' c0
    replace c1 := hx1.cell' c1
    replace HR := Lib.hid (HR.out.ext hx1)
    replace HX := Lib.hid (HX.out.trans' hx1)
    clear hx1
    rw [H1.out]
    go_wp2_with fail
    refine (fitLast A m c l f b n g _ HR.out (by omega)).mono ?_
    rintro e w2 ⟨rfl, hx2⟩
    replace c0 := hx2.cell' c0
    replace c1 := hx2.cell' c1
    replace HR := Lib.hid (HR.out.ext hx2)
    replace HX := Lib.hid (HX.out.trans' hx2)
    clear hx2
    rw [H2.out]
    go_wp2_with fail
    have HR0 := Lib.hid (HR.out.alloc' (.cells #[.int .i64 (wrap64 (f - x)), .int .i64 (wrap64 (b + x))] 24))
    have c2 : (w2.alloc (.cells #[.int .i64 (wrap64 (f - x)), .int .i64 (wrap64 (b + x))] 24)).cell? ⟨w2.heap.size, 0, none⟩ = some (.int .i64 (wrap64 (f - x))) := by simp [go_sem]
    have c3 : (w2.alloc (.cells #[.int .i64 (wrap64 (f - x)), .int .i64 (wrap64 (b + x))] 24)).cell? ⟨w2.heap.size, 1, none⟩ = some (.int .i64 (wrap64 (b + x))) := by simp [go_sem]
    replace HX : Hid (Ext w (w2.alloc (.cells #[.int .i64 (wrap64 (f - x)), .int .i64 (wrap64 (b + x))] 24))) := HX.out.alloc HX.out.size _
    clear HR c0 c1
    have HR := HR0; clear HR0
    go_wp2_with fail
    refine (fitFirst A m c l _ _ _ _ _ HR.out (by omega)).mono ?_
    rintro e w3 ⟨rfl, hx3⟩
    replace c2 := hx3.cell' c2
    replace c3 := hx3.cell' c3
    replace HR := Lib.hid (HR.out.ext hx3)
    replace HX := Lib.hid (HX.out.trans' hx3)
    clear hx3
    go_wp2_with fail
    refine (fitLast A m c l _ _ _ _ _ HR.out (by omega)).mono ?_
    rintro e w4 ⟨rfl, hx4⟩
    replace c2 := hx4.cell' c2
    replace c3 := hx4.cell' c3
    replace HR := Lib.hid (HR.out.ext hx4)
    replace HX := Lib.hid (HX.out.trans' hx4)
    clear hx4
    go_wp2_with fail
    refine (knownW _).mono ?_
    rintro e w5 ⟨rfl, hx5⟩
    replace c2 := hx5.cell' c2
    replace c3 := hx5.cell' c3
    replace HR := Lib.hid (HR.out.ext hx5)
    replace HX := Lib.hid (HX.out.trans' hx5)
    clear hx5
    go_wp2
    go_ret
    exact ⟨rfl, HX.out⟩
  subst h0
  have hok := err_ok (l := l) (f := f) (b := b) (n := n) (g := g) (by rw [H1.out])
  have hbd := hok.1.bd
  have hnb := hok.1.2.2.2
  obtain ⟨f0, f1, b0, b1, g0, g1⟩ := hbd
  have n0 := hnb.1
  have n1 := hnb.2.1
  clear hnb hok
  obtain ⟨a3, e3, H3⟩ : ∃ a e, Hid (firstR l (f - x) (b + x) (n - y) (g - z) = (a, e)) := ⟨_, _, rfl⟩
  obtain ⟨a4, e4, H4⟩ : ∃ a e, Hid (lastR l (f - x) (b + x) (n - y) (g - z) = (a, e)) := ⟨_, _, rfl⟩
  by_cases h3 : e3 = 2
  · subst h3
    go_enter Try.func5, Try.ntmps5
    have HR0 := Lib.hid (HR.out.alloc' (.cells #[.int .i64 f, .int .i64 b] 24))
    have c0 : (w.alloc (.cells #[.int .i64 f, .int .i64 b] 24)).cell? ⟨w.heap.size, 0, none⟩ = some (.int .i64 f) := by simp [go_sem]
    have c1 : (w.alloc (.cells #[.int .i64 f, .int .i64 b] 24)).cell? ⟨w.heap.size, 1, none⟩ = some (.int .i64 b) := by simp [go_sem]
    have HX : Hid (Ext w (w.alloc (.cells #[.int .i64 f, .int .i64 b] 24))) := (Below.refl _ _).alloc (Nat.le_refl _) _
    clear HR
    have HR := HR0; clear HR0
    go_wp2_with fail
    refine (fitFirst A m c l f b n g _ HR.out (by omega)).mono ?_
    rintro e w1 ⟨rfl, hx1⟩
    replace c0 := hx1.cell' c0
    replace c1 := hx1.cell' c1
    replace HR := Lib.hid (HR.out.ext hx1)
    replace HX := Lib.hid (HX.out.trans' hx1)
    clear hx1
    rw [H1.out]
    go_wp2_with fail
    refine (fitLast A m c l f b n g _ HR.out (by omega)).mono ?_
    rintro e w2 ⟨rfl, hx2⟩
    replace c0 := hx2.cell' c0
    replace c1 := hx2.cell' c1
    replace HR := Lib.hid (HR.out.ext hx2)
    replace HX := Lib.hid (HX.out.trans' hx2)
    clear hx2
    rw [H2.out]
    go_wp2_with fail
    have HR0 := Lib.hid (HR.out.alloc' (.cells #[.int .i64 (f - x), .int .i64 (b + x)] 24))
    have c2 : (w2.alloc (.cells #[.int .i64 (f - x), .int .i64 (b + x)] 24)).cell? ⟨w2.heap.size, 0, none⟩ = some (.int .i64 (f - x)) := by simp [go_sem]
    have c3 : (w2.alloc (.cells #[.int .i64 (f - x), .int .i64 (b + x)] 24)).cell? ⟨w2.heap.size, 1, none⟩ = some (.int .i64 (b + x)) := by simp [go_sem]
    replace HX : Hid (Ext w (w2.alloc (.cells #[.int .i64 (f - x), .int .i64 (b + x)] 24))) := HX.out.alloc HX.out.size _
    clear HR c0 c1
    have HR := HR0; clear HR0
    go_wp2_with fail
    refine (fitFirst A m c l _ _ _ _ _ HR.out (by omega)).mono ?_
    rintro e w3 ⟨rfl, hx3⟩
    replace c2 := hx3.cell' c2
    replace c3 := hx3.cell' c3
    replace HR := Lib.hid (HR.out.ext hx3)
    replace HX := Lib.hid (HX.out.trans' hx3)
    clear hx3
    rw [H3.out]
    go_wp2_with fail
    refine (fitLast A m c l _ _ _ _ _ HR.out (by omega)).mono ?_
    rintro e w4 ⟨rfl, hx4⟩
    replace c2 := hx4.cell' c2
    replace c3 := hx4.cell' c3
    replace HR := Lib.hid (HR.out.ext hx4)
    replace HX := Lib.hid (HX.out.trans' hx4)
    clear hx4
    rw [H4.out]
    go_wp2_with fail
    refine (knownW _).mono ?_
    rintro e w5 ⟨rfl, hx5⟩
    replace c2 := hx5.cell' c2
    replace c3 := hx5.cell' c3
    replace HR := Lib.hid (HR.out.ext hx5)
    replace HX := Lib.hid (HX.out.trans' hx5)
    clear hx5
    go_wp2
    go_ret
    exact ⟨rfl, HX.out⟩
  · obtain ⟨q1, q2, q3, q4⟩ := less_plain (l := l) (f := f) (b := b) (n := n) (g := g) (f' := f - x) (b' := b + x) (n' := n - y) (g' := g - z) (by rw [H1.out]) (by omega) (by omega) (by omega) (by omega) (by rw [H3.out]; exact h3)
    rw [H3.out] at q1 q3
    rw [H4.out] at q2 q4
    rw [H1.out] at q3
    rw [H2.out] at q4
    simp only at q1 q2 q3 q4
    subst q1
    subst q2
    go_enter Try.func5, Try.ntmps5
    have HR0 := Lib.hid (HR.out.alloc' (.cells #[.int .i64 f, .int .i64 b] 24))
    have c0 : (w.alloc (.cells #[.int .i64 f, .int .i64 b] 24)).cell? ⟨w.heap.size, 0, none⟩ = some (.int .i64 f) := by simp [go_sem]
    have c1 : (w.alloc (.cells #[.int .i64 f, .int .i64 b] 24)).cell? ⟨w.heap.size, 1, none⟩ = some (.int .i64 b) := by simp [go_sem]
    have HX : Hid (Ext w (w.alloc (.cells #[.int .i64 f, .int .i64 b] 24))) := (Below.refl _ _).alloc (Nat.le_refl _) _
    clear HR
    have HR := HR0; clear HR0
    go_wp2_with fail
    refine (fitFirst A m c l f b n g _ HR.out (by omega)).mono ?_
    rintro e w1 ⟨rfl, hx1⟩
    replace c0 := hx1.cell' c0
    replace c1 := hx1.cell' c1
    replace HR := Lib.hid (HR.out.ext hx1)
    replace HX := Lib.hid (HX.out.trans' hx1)
    clear hx1
    rw [H1.out]
    go_wp2_with fail
    refine (fitLast A m c l f b n g _ HR.out (by omega)).mono ?_
    rintro e w2 ⟨rfl, hx2⟩
    replace c0 := hx2.cell' c0
    replace c1 := hx2.cell' c1
    replace HR := Lib.hid (HR.out.ext hx2)
    replace HX := Lib.hid (HX.out.trans' hx2)
    clear hx2
    rw [H2.out]
    go_wp2_with fail
    have HR0 := Lib.hid (HR.out.alloc' (.cells #[.int .i64 (f - x), .int .i64 (b + x)] 24))
    have c2 : (w2.alloc (.cells #[.int .i64 (f - x), .int .i64 (b + x)] 24)).cell? ⟨w2.heap.size, 0, none⟩ = some (.int .i64 (f - x)) := by simp [go_sem]
    have c3 : (w2.alloc (.cells #[.int .i64 (f - x), .int .i64 (b + x)] 24)).cell? ⟨w2.heap.size, 1, none⟩ = some (.int .i64 (b + x)) := by simp [go_sem]
    replace HX : Hid (Ext w (w2.alloc (.cells #[.int .i64 (f - x), .int .i64 (b + x)] 24))) := HX.out.alloc HX.out.size _
    clear HR c0 c1
    have HR := HR0; clear HR0
    go_wp2_with fail
    refine (fitFirst A m c l _ _ _ _ _ HR.out (by omega)).mono ?_
    rintro e w3 ⟨rfl, hx3⟩
    replace c2 := hx3.cell' c2
    replace c3 := hx3.cell' c3
    replace HR := Lib.hid (HR.out.ext hx3)
    replace HX := Lib.hid (HX.out.trans' hx3)
    clear hx3
    rw [H3.out]
    go_wp2_with fail
    refine (fitLast A m c l _ _ _ _ _ HR.out (by omega)).mono ?_
    rintro e w4 ⟨rfl, hx4⟩
    replace c2 := hx4.cell' c2
    replace c3 := hx4.cell' c3
    replace HR := Lib.hid (HR.out.ext hx4)
    replace HX := Lib.hid (HX.out.trans' hx4)
    clear hx4
    rw [H4.out]
    go_wp2_with fail
    refine (knownW _).mono ?_
    rintro e w5 ⟨rfl, hx5⟩
    replace c2 := hx5.cell' c2
    replace c3 := hx5.cell' c3
    replace HR := Lib.hid (HR.out.ext hx5)
    replace HX := Lib.hid (HX.out.trans' hx5)
    clear hx5
    go_wp2
    go_ret
    exact ⟨rfl, HX.out⟩

theorem walk_less (A : Option Addr) (m c : Nat) (l : List Stp) (f b n g x y z : Int) (w : World) (hr : RdP w A m l)
    (x0 : 0 ≤ x ∧ x ≤ 255) (y0 : 0 ≤ y ∧ y ≤ 255) (z0 : 0 ≤ z ∧ z ≤ 255) :
    Calls Try.prog 5 #[.slice A m c, .agg #[.int .i64 f, .int .i64 b], .int .i64 n, .int .i64 g, .int .u8 x, .int .u8 y, .int .u8 z] w fun e w' => e = .returned (.bool true) ∧ Ext w w' := by
  by_cases h : m ≤ 40
  · exact less_short A m c l f b n g x y z w hr h x0 y0 z0
  · exact less_long A m c f b n g x y z w (by omega)
end Go.Proofs.Ytnilplnfomgleaa
