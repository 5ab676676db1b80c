/-
  Plain law: how many places a job has. Conditions: none.
-/
import Derived.Test.YtbcpjdjlgmhohaaLFNow
namespace Go.Proofs.Ytbcpjdjlgmhohaa
open Go.RowKit
set_option linter.unusedVariables false
set_option linter.unusedSimpArgs false

theorem cnt_next2 {a : List Slt} {k : Nat} {x : Int} {s : Slt} (h : a[k]? = some s) : ((a.take (k + 1)).filter fun s => s.1 == x).length = ((a.take k).filter fun s => s.1 == x).length + if s.1 = x then 1 else 0 := by
  rw [take_snoc' h, List.filter_append, List.length_append]
  by_cases e : s.1 = x
  · simp [e]
  · simp [e]
theorem cnt_one : ∀ {a : List Slt} {x : Int}, (a.map (·.1)).Nodup → (a.filter fun s => s.1 == x).length ≤ 1
  | [], _, _ => by simp
  | s :: a, x, h => by
    have hc := List.nodup_cons.1 (show (s.1 :: a.map (·.1)).Nodup from h)
    by_cases e : s.1 = x
    · have h0 : a.filter (fun s => s.1 == x) = [] := List.filter_eq_nil_iff.2 fun t ht => by
        simp only [beq_iff_eq]
        intro h1
        exact hc.1 (List.mem_map.2 ⟨t, ht, by rw [h1, e]⟩)
      simp [e, h0]
    · have := cnt_one (x := x) hc.2
      simpa [e] using this
section
variable {l : List Stp} {now : Int} {jobs : List Jb}
theorem fit_slot (hc : chkJ l now jobs = 0) (hlen : l.length + 2 * jobs.length ≤ 19000) {deep : Int} (hd : ¬ deep < 0) {j : Jb} (hj : j ∈ jobs) {s : Slt} (hs : s ∈ plcR l now deep jobs) (he : s.1 = j.1) :
    ∃ t, s = slotOf j t ∧ now ≤ t ∧ t + j.2.2.2 ≤ 1099511627775 := by
  obtain ⟨h1, h2⟩ := chkJ_zero hc
  rw [(plc_ok hc hd).2] at hs
  obtain ⟨k, hk, t, rfl, hf, _⟩ := slot_mem h1.2.1 (orderJ jobs) l deep h1.1 (fun j hj => h1.2.2 j (isort_mem.1 hj)) (by rw [orderJ_len]; exact hlen) s hs
  obtain rfl : k = j := id_inj h2 (isort_mem.1 hk) hj he
  exact ⟨t, rfl, hf.1, hf.2.1⟩
theorem fit_nodup (hc : chkJ l now jobs = 0) {deep : Int} (hd : ¬ deep < 0) : ((plcR l now deep jobs).map (·.1)).Nodup := by
  obtain ⟨h1, h2⟩ := chkJ_zero hc
  rw [(plc_ok hc hd).2]
  exact (slots_ids now (orderJ jobs) l deep).nodup (((isort_perm jobs).map _).nodup_iff.2 h2)
theorem fit_none (hc : chkJ l now jobs = 0) (hlen : l.length + 2 * jobs.length ≤ 19000) {deep : Int} (hd : (jobs.length : Int) ≤ deep) {j : Jb} (hj : j ∈ jobs) (h0 : ((plcR l now deep jobs).filter fun s => s.1 == j.1).length = 0) :
    firstR (finalP now l deep (orderJ jobs)) now 1099511627775 j.2.2.1 j.2.2.2 = (0, 70) := by
  obtain ⟨h1, h2⟩ := chkJ_zero hc
  have hp := (now_left hc hlen deep (by omega)).2
  rw [(plc_ok hc (by omega)).2] at h0
  have hjo := h1.2.2 j hj
  rcases slot_none h1.2.1 (orderJ jobs) l deep h1.1 (fun j hj => h1.2.2 j (isort_mem.1 hj)) (by rw [orderJ_len]; exact hlen) j (isort_mem.2 hj) with ⟨t, h⟩ | h
  · have := List.filter_eq_nil_iff.1 (List.length_eq_zero_iff.1 h0) _ h
    simp [slotOf] at this
  · refine (first_r hp h1.2.1 hjo).1 ?_
    by_cases hf : firstN (finalP now l deep (orderJ jobs)) now j < 0
    · exact hf
    · exact absurd (first_fits hp h1.2.1 hjo hf) (h.2 (by rw [orderJ_len]; exact hd) _)
end
end Go.Proofs.Ytbcpjdjlgmhohaa
