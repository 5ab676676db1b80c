/-
  Walk: FitBounds. Conditions: none.
-/
import Derived.Test.YtnilplnfomgleaaWFitF
import Derived.Test.YtnilplnfomgleaaWKnown
import Derived.Test.YtnilplnfomgleaaPFit
import Derived.Test.YtnilplnfomgleaaLLess
namespace Go.Proofs.Ytnilplnfomgleaa
open Go.RowKit

/-- does t lie in one of the windows? -/
def inAny (L : List Stp) (t : Int) : Bool := L.any fun p => decide (p.1 ≤ t) && decide (t ≤ p.2)
theorem inAny_snoc (L : List Stp) (p : Stp) (t : Int) : inAny (L ++ [p]) t = (inAny L t || (decide (p.1 ≤ t) && decide (t ≤ p.2))) := by simp [inAny]
theorem inAny_fits {l : List Stp} {f b n g : Int} (hq : Req l f b n g) (t : Int) : inAny (allF l f b n g) t = fitsB l f b n g t := by
  rw [Bool.eq_iff_iff, fitsB_iff, fits_all hq]
  simp [inAny]
set_option maxRecDepth 100000 in
set_option maxHeartbeats 4000000 in
theorem walk_bounds (A : Option Addr) (m c : Nat) (l : List Stp) (f b n g t : Int) (w : World) (hr : RdP w A m l) (hn : m ≤ 9223372036854775807) :
    Calls Try.prog 9 #[.slice A m c, .agg #[.int .i64 f, .int .i64 b], .int .i64 n, .int .i64 g, .int .i64 t] w fun e w' => e = .returned (.bool true) ∧ Ext w w' := by
  have HR := Lib.hid hr; clear hr
  by_cases hlong : 40 < m
  · skip
    go_enter Try.func9, Try.ntmps9
    have HR0 := Lib.hid (HR.out.alloc' (.cells #[.int .i64 f, .int .i64 b] 24))
    have c0 : (w.alloc (.cells #[.int .i64 f, .int .i64 b] 24)).cell? ⟨w.heap.size, 0, none⟩ = some (.int .i64 f) := by simp [go_sem]
    have c1 : (w.alloc (.cells #[.int .i64 f, .int .i64 b] 24)).cell? ⟨w.heap.size, 1, none⟩ = some (.int .i64 b) := by simp [go_sem]
    have HX : Hid (Ext w (w.alloc (.cells #[.int .i64 f, .int .i64 b] 24))) := (Below.refl _ _).alloc (Nat.le_refl _) _
    clear HR
    have HR := HR0; clear HR0
    go_wp2_with fail
    refine (knownW _).mono ?_
    rintro e w1 ⟨rfl, hx1⟩
    replace c0 := hx1.cell' c0
    replace c1 := hx1.cell' c1
    replace HR := Lib.hid (HR.out.ext hx1)
    replace HX := Lib.hid (HX.out.trans' hx1)
    clear hx1
    go_wp2
    go_ret
    exact ⟨rfl, HX.out⟩
  by_cases hqt : Req l f b n g ∧ isT t = true
  case neg =>
    have HB := Lib.hid hqt
    clear hqt
    go_enter Try.func9, Try.ntmps9
    have HR0 := Lib.hid (HR.out.alloc' (.cells #[.int .i64 f, .int .i64 b] 24))
    have c0 : (w.alloc (.cells #[.int .i64 f, .int .i64 b] 24)).cell? ⟨w.heap.size, 0, none⟩ = some (.int .i64 f) := by simp [go_sem]
    have c1 : (w.alloc (.cells #[.int .i64 f, .int .i64 b] 24)).cell? ⟨w.heap.size, 1, none⟩ = some (.int .i64 b) := by simp [go_sem]
    have HX : Hid (Ext w (w.alloc (.cells #[.int .i64 f, .int .i64 b] 24))) := (Below.refl _ _).alloc (Nat.le_refl _) _
    clear HR
    have HR := HR0; clear HR0
    go_wp2_with fail
    refine (fitFits_bad A m c l f b n g t _ HR.out (by omega) HB.out).mono ?_
    rintro e w1 ⟨rfl, hx1⟩
    replace c0 := hx1.cell' c0
    replace c1 := hx1.cell' c1
    replace HR := Lib.hid (HR.out.ext hx1)
    replace HX := Lib.hid (HX.out.trans' hx1)
    clear hx1
    go_wp2_with fail
    refine (knownW _).mono ?_
    rintro e w2 ⟨rfl, hx2⟩
    replace c0 := hx2.cell' c0
    replace c1 := hx2.cell' c1
    replace HR := Lib.hid (HR.out.ext hx2)
    replace HX := Lib.hid (HX.out.trans' hx2)
    clear hx2
    go_wp2
    go_ret
    exact ⟨rfl, HX.out⟩
  have HQ := Lib.hid hqt.1
  have HT := Lib.hid hqt.2
  clear hqt
  obtain ⟨v, HV⟩ : ∃ v, Hid (fitsB l f b n g t = v) := ⟨_, rfl⟩
  have hbd := HQ.out.bd
  obtain ⟨f0, f1, b0, b1, g0, g1⟩ := hbd
  go_enter Try.func9, Try.ntmps9
  have HR0 := Lib.hid (HR.out.alloc' (.cells #[.int .i64 f, .int .i64 b] 24))
  have c0 : (w.alloc (.cells #[.int .i64 f, .int .i64 b] 24)).cell? ⟨w.heap.size, 0, none⟩ = some (.int .i64 f) := by simp [go_sem]
  have c1 : (w.alloc (.cells #[.int .i64 f, .int .i64 b] 24)).cell? ⟨w.heap.size, 1, none⟩ = some (.int .i64 b) := by simp [go_sem]
  have HX : Hid (Ext w (w.alloc (.cells #[.int .i64 f, .int .i64 b] 24))) := (Below.refl _ _).alloc (Nat.le_refl _) _
  clear HR
  have HR := HR0; clear HR0
  go_wp2_with fail
  refine (fitFits A m c l f b n g t _ HR.out (by omega) HQ.out HT.out).mono ?_
  rintro e w1 ⟨rfl, hx1⟩
  replace c0 := hx1.cell' c0
  replace c1 := hx1.cell' c1
  replace HR := Lib.hid (HR.out.ext hx1)
  replace HX := Lib.hid (HX.out.trans' hx1)
  clear hx1
  rw [HV.out]
  go_wp2_with fail
  refine (fitAll A m c l f b n g _ HR.out (by omega) HQ.out).mono ?_
  rintro e w2 ⟨A1, m1, cc1, rfl, hr1, hx2⟩
  have HR1 := Lib.hid hr1
  replace c0 := hx2.cell' c0
  replace c1 := hx2.cell' c1
  replace HR := Lib.hid (HR.out.ext hx2)
  replace HX := Lib.hid (HX.out.trans' hx2)
  have hm1 : m1 ≤ 100000 := by
    have h1 := RdL.len hr1
    have h2 := holTo_len n l
    have h3 := RdL.len HR.out
    have h4 := cutL_len f b g (holes n l)
    unfold allF at h1
    unfold holes at h1 h4
    split at h1
    · split at h1 <;> simp at h1 <;> omega
    · omega
  clear hr1 hx2
  obtain ⟨L, HL⟩ : ∃ L, Hid (allF l f b n g = L) := ⟨_, rfl⟩
  rw [HL.out] at HR1
  have HA : Hid (∀ p ∈ L, p.1 ≤ p.2 ∧ 0 ≤ p.1 ∧ p.2 ≤ 1099511627775) := fun p hp => by
    rw [← HL.out] at hp
    have h1 := all_le p hp
    have h2 := all_from p hp
    omega
  have HN : Hid (∀ (k : Nat) (a u a' u' : Int), L[k]? = some (a, u) → L[k + 1]? = some (a', u') → u + 1 < a') := fun k a u a' u' h1 h2 => by
    have hp := all_rise HQ.out
    rw [HL.out] at hp
    obtain ⟨h3, h4⟩ := List.getElem?_eq_some_iff.1 h1
    obtain ⟨h5, h6⟩ := List.getElem?_eq_some_iff.1 h2
    have := (List.pairwise_iff_getElem.1 hp) k (k + 1) h3 h5 (by omega)
    rw [h4, h6] at this
    exact this
  go_wp2
  go_loopw [15, 16] (fun o i wr => ∃ k : Nat, k ≤ m1 ∧ i = .int .i64 k ∧ o = .bool (inAny (L.take k) t) ∧ Ext w2 wr) (fun _ i _ => m1 - (intOf i).toNat)
  case atStart => exact ⟨0, by omega, rfl, rfl, Ext.rfl'⟩
  case round =>
    obtain ⟨k, hk, rfl, rfl, hext⟩ := hrel
    by_cases hlt : k < m1
    · obtain ⟨bb, off, x, y, rfl, hbb, hx, hd0, hd1⟩ := RdP.cut HR1.out hlt
      have Hx := Lib.hid hx; clear hx
      obtain ⟨y1, x0, y0⟩ := HA.out _ (List.mem_of_getElem? Hx.out)
      simp only at y1 x0 y0
      replace hd0 := hext.cell' hd0
      replace hd1 := hext.cell' hd1
      have HS : Hid (inAny (L.take (k + 1)) t = (inAny (L.take k) t || (decide (x ≤ t) && decide (t ≤ y)))) := by
        show _ = _
        rw [take_snoc' Hx.out, inAny_snoc]
      have hi0' : (0 : Int) ≤ (k : Int) := Int.natCast_nonneg _
      have hi1 : (k : Int) < (m1 : Int) := by omega
      have Hext := Lib.hid hext; clear hext
      obtain ⟨B, HBd⟩ : ∃ B, Hid (inAny (L.take k) t = B) := ⟨_, rfl⟩
      rw [HBd.out]
      have hcases : (B = true ∨ (B = false ∧ t < x)) ∨ ((B = false ∧ x ≤ t ∧ t ≤ y) ∨ (B = false ∧ x ≤ t ∧ y < t)) := by
        cases B
        · rcases Int.lt_or_le t x with h | h
          · exact .inl (.inr ⟨rfl, h⟩)
          · rcases Int.lt_or_le y t with h' | h'
            · exact .inr (.inr ⟨rfl, h, h'⟩)
            · exact .inr (.inl ⟨rfl, h, h'⟩)
        · exact .inl (.inl rfl)
      have dxy : decide (y < x) = false := by simp; omega
      by_cases hk0 : k = 0
      · subst hk0
        simp only [Nat.zero_mul, Nat.add_zero] at hd0 hd1
        rcases hcases with (rfl | ⟨rfl, q1⟩) | (⟨rfl, q1, q2⟩ | ⟨rfl, q1, q2⟩)
        · skip
          go_wp2
          go_quiet (fail)
          go_wp2
          go_roundw
          case rel => exact ⟨0 + 1, by omega, by go_num, by rw [HS.out, HBd.out]; rfl, below_drewN' Hext.out _⟩
          case measure => simp [intOf]; omega
        · skip
          have dx : decide (x ≤ t) = false := by simp; omega
          go_wp2
          go_quiet (fail)
          go_wp2
          go_roundw
          case rel => exact ⟨0 + 1, by omega, by go_num, by rw [HS.out, HBd.out, show decide (x ≤ t) = false by simp; omega]; rfl, below_drewN' Hext.out _⟩
          case measure => simp [intOf]; omega
        · skip
          go_wp2
          go_quiet (fail)
          go_wp2
          go_roundw
          case rel => exact ⟨0 + 1, by omega, by go_num, by rw [HS.out, HBd.out, show decide (x ≤ t) = true by simp; omega, show decide (t ≤ y) = true by simp; omega]; rfl, below_drewN' Hext.out _⟩
          case measure => simp [intOf]; omega
        · skip
          have dy : decide (t ≤ y) = false := by simp; omega
          go_wp2
          go_quiet (fail)
          go_wp2
          go_roundw
          case rel => exact ⟨0 + 1, by omega, by go_num, by rw [HS.out, HBd.out, show decide (x ≤ t) = true by simp; omega, show decide (t ≤ y) = false by simp; omega]; rfl, below_drewN' Hext.out _⟩
          case measure => simp [intOf]; omega
      obtain ⟨p, rfl⟩ : ∃ p, k = p + 1 := ⟨k - 1, by omega⟩
      obtain ⟨b', off', x', y', hA, _, hx', he0, he1⟩ := RdP.cut HR1.out (k := p) (by omega)
      injection hA with hA; injection hA with hA1 hA2 _; subst hA1; subst hA2
      replace he0 := Hext.out.cell' he0
      replace he1 := Hext.out.cell' he1
      have hrise := HN.out p _ _ _ _ hx' Hx.out
      obtain ⟨y1', x0', y0'⟩ := HA.out _ (List.mem_of_getElem? hx')
      simp only at y1' x0' y0'
      clear hx' hk0
      have drise : decide (x ≤ y' + 1) = false := by simp; omega
      have ew : IntKind.i64.wrap (y' + 1) = y' + 1 := IntWalk.i64_in _ (by omega)
      rcases hcases with (rfl | ⟨rfl, q1⟩) | (⟨rfl, q1, q2⟩ | ⟨rfl, q1, q2⟩)
      · skip
        go_wp2
        go_quiet (fail)
        go_wp2
        go_roundw
        case rel => exact ⟨p + 1 + 1, by omega, by go_num, by rw [HS.out, HBd.out]; rfl, below_drewN' Hext.out _⟩
        case measure => simp [intOf]; omega
      · skip
        have dx : decide (x ≤ t) = false := by simp; omega
        go_wp2
        go_quiet (fail)
        go_wp2
        go_roundw
        case rel => exact ⟨p + 1 + 1, by omega, by go_num, by rw [HS.out, HBd.out, show decide (x ≤ t) = false by simp; omega]; rfl, below_drewN' Hext.out _⟩
        case measure => simp [intOf]; omega
      · skip
        go_wp2
        go_quiet (fail)
        go_wp2
        go_roundw
        case rel => exact ⟨p + 1 + 1, by omega, by go_num, by rw [HS.out, HBd.out, show decide (x ≤ t) = true by simp; omega, show decide (t ≤ y) = true by simp; omega]; rfl, below_drewN' Hext.out _⟩
        case measure => simp [intOf]; omega
      · skip
        have dy : decide (t ≤ y) = false := by simp; omega
        go_wp2
        go_quiet (fail)
        go_wp2
        go_roundw
        case rel => exact ⟨p + 1 + 1, by omega, by go_num, by rw [HS.out, HBd.out, show decide (x ≤ t) = true by simp; omega, show decide (t ≤ y) = false by simp; omega]; rfl, below_drewN' Hext.out _⟩
        case measure => simp [intOf]; omega
    · have HE : Hid (L.take k = L) := take_all' (RdL.len HR1.out) (by omega)
      have HI : Hid (inAny (L.take k) t = v) := by
        show _ = _
        rw [HE.out, ← HL.out, inAny_fits HQ.out, HV.out]
      rw [HI.out]
      have dvv : (v != v) = false := by simp
      replace c0 := hext.cell' c0
      replace c1 := hext.cell' c1
      replace HR := Lib.hid (HR.out.ext hext)
      replace HR1 := Lib.hid (HR1.out.ext hext)
      replace HX := Lib.hid (HX.out.trans' hext)
      clear hext HI HE
      rcases hL : L with _ | ⟨p, r⟩
      · have h0 : m1 = 0 := by rw [← RdL.len HR1.out, hL]; rfl
        have H1 := Lib.hid (firstR_none HQ.out (HL.out.trans hL))
        have H2 := Lib.hid (lastR_none HQ.out (HL.out.trans hL))
        have hv : v = false := by
          rw [← HV.out, ← inAny_fits HQ.out, HL.out, hL]; rfl
        subst hv
        subst h0
        clear hL HL HR1
        go_wp2_with fail
        refine (fitFirst A m c l f b n g _ HR.out (by omega)).mono ?_
        rintro e w5 ⟨rfl, hx5⟩
        replace c0 := hx5.cell' c0
        replace c1 := hx5.cell' c1
        replace HR := Lib.hid (HR.out.ext hx5)
        replace HX := Lib.hid (HX.out.trans' hx5)
        clear hx5
        rw [H1.out]
        go_wp2_with fail
        refine (fitLast A m c l f b n g _ HR.out (by omega)).mono ?_
        rintro e w6 ⟨rfl, hx6⟩
        replace c0 := hx6.cell' c0
        replace c1 := hx6.cell' c1
        replace HR := Lib.hid (HR.out.ext hx6)
        replace HX := Lib.hid (HX.out.trans' hx6)
        clear hx6
        rw [H2.out]
        go_wp2_with fail
        refine (knownW _).mono ?_
        rintro e w7 ⟨rfl, hx7⟩
        replace c0 := hx7.cell' c0
        replace c1 := hx7.cell' c1
        replace HR := Lib.hid (HR.out.ext hx7)
        replace HX := Lib.hid (HX.out.trans' hx7)
        clear hx7
        go_wp2
        go_ret
        exact ⟨rfl, HX.out⟩
      · obtain ⟨q, hq⟩ : ∃ q, (allF l f b n g).getLast? = some q := by rw [HL.out, hL, List.getLast?_cons]; exact ⟨_, rfl⟩
        have H1 := Lib.hid (firstR_some HQ.out (HL.out.trans hL))
        have H2 := Lib.hid (lastR_some HQ.out hq)
        have hlen := RdL.len HR1.out
        obtain ⟨m2, rfl⟩ : ∃ m2, m1 = m2 + 1 := ⟨m1 - 1, by rw [hL] at hlen; simp at hlen; omega⟩
        have hbounds : v = true → p.1 ≤ t ∧ t ≤ q.2 := fun hv => by
          rw [hv] at HV
          have hf := (fitsB_iff ..).1 HV.out
          have h0 := err_room HQ.out hf
          obtain ⟨_, _, _, h3⟩ := err_ok h0
          have := h3 t hf
          rw [H1.out, H2.out] at this
          exact this
        obtain ⟨bb, off, x, y, rfl, hbb, hx, hd0, hd1⟩ := RdP.cut HR1.out (k := 0) (by omega)
        obtain ⟨b', off', x', y', hA, _, hx', he0, he1⟩ := RdP.cut HR1.out (k := m2) (by omega)
        injection hA with hA; injection hA with hA1 hA2 _; subst hA1; subst hA2
        have e1 : p = (x, y) := by rw [hL] at hx; simpa using hx
        have e2 : q = (x', y') := by
          rw [HL.out, List.getLast?_eq_getElem?, hlen, Nat.add_sub_cancel, hx'] at hq
          injection hq with hq
          exact hq.symm
        subst e1
        subst e2
        simp only [Nat.zero_mul, Nat.add_zero] at hd0 hd1
        have dz : decide ((0 : Int) < (m2 : Int) + 1) = true := decide_eq_true (by omega)
        simp only at hbounds
        have hneq : (((m2 + 1 : Nat) : Int) == 0) = false := by rw [beq_eq_false_iff_ne]; omega
        clear hx hx' hq hlen hL
        replace H1 : Hid (firstR l f b n g = (x, 0)) := H1
        replace H2 : Hid (lastR l f b n g = (y', 0)) := H2
        cases v
        · clear hbounds
          go_wp2_with fail
          refine (fitFirst A m c l f b n g _ HR.out (by omega)).mono ?_
          rintro e w5 ⟨rfl, hx5⟩
          replace c0 := hx5.cell' c0
          replace c1 := hx5.cell' c1
          replace hd0 := hx5.cell' hd0
          replace hd1 := hx5.cell' hd1
          replace he0 := hx5.cell' he0
          replace he1 := hx5.cell' he1
          replace HR := Lib.hid (HR.out.ext hx5)
          replace HX := Lib.hid (HX.out.trans' hx5)
          clear hx5
          rw [H1.out]
          go_wp2_with fail
          refine (fitLast A m c l f b n g _ HR.out (by omega)).mono ?_
          rintro e w6 ⟨rfl, hx6⟩
          replace c0 := hx6.cell' c0
          replace c1 := hx6.cell' c1
          replace hd0 := hx6.cell' hd0
          replace hd1 := hx6.cell' hd1
          replace he0 := hx6.cell' he0
          replace he1 := hx6.cell' he1
          replace HR := Lib.hid (HR.out.ext hx6)
          replace HX := Lib.hid (HX.out.trans' hx6)
          clear hx6
          rw [H2.out]
          go_wp2_with fail
          refine (knownW _).mono ?_
          rintro e w7 ⟨rfl, hx7⟩
          replace c0 := hx7.cell' c0
          replace c1 := hx7.cell' c1
          replace hd0 := hx7.cell' hd0
          replace hd1 := hx7.cell' hd1
          replace he0 := hx7.cell' he0
          replace he1 := hx7.cell' he1
          replace HR := Lib.hid (HR.out.ext hx7)
          replace HX := Lib.hid (HX.out.trans' hx7)
          clear hx7
          go_wp2
          go_ret
          exact ⟨rfl, HX.out⟩
        · obtain ⟨p1, p2⟩ := hbounds rfl
          clear hbounds
          go_wp2_with fail
          refine (fitFirst A m c l f b n g _ HR.out (by omega)).mono ?_
          rintro e w5 ⟨rfl, hx5⟩
          replace c0 := hx5.cell' c0
          replace c1 := hx5.cell' c1
          replace hd0 := hx5.cell' hd0
          replace hd1 := hx5.cell' hd1
          replace he0 := hx5.cell' he0
          replace he1 := hx5.cell' he1
          replace HR := Lib.hid (HR.out.ext hx5)
          replace HX := Lib.hid (HX.out.trans' hx5)
          clear hx5
          rw [H1.out]
          go_wp2_with fail
          refine (fitLast A m c l f b n g _ HR.out (by omega)).mono ?_
          rintro e w6 ⟨rfl, hx6⟩
          replace c0 := hx6.cell' c0
          replace c1 := hx6.cell' c1
          replace hd0 := hx6.cell' hd0
          replace hd1 := hx6.cell' hd1
          replace he0 := hx6.cell' he0
          replace he1 := hx6.cell' he1
          replace HR := Lib.hid (HR.out.ext hx6)
          replace HX := Lib.hid (HX.out.trans' hx6)
          clear hx6
          rw [H2.out]
          go_wp2_with fail
          refine (knownW _).mono ?_
          rintro e w7 ⟨rfl, hx7⟩
          replace c0 := hx7.cell' c0
          replace c1 := hx7.cell' c1
          replace hd0 := hx7.cell' hd0
          replace hd1 := hx7.cell' hd1
          replace he0 := hx7.cell' he0
          replace he1 := hx7.cell' he1
          replace HR := Lib.hid (HR.out.ext hx7)
          replace HX := Lib.hid (HX.out.trans' hx7)
          clear hx7
          go_wp2
          go_ret
          exact ⟨rfl, HX.out⟩
end Go.Proofs.Ytnilplnfomgleaa
