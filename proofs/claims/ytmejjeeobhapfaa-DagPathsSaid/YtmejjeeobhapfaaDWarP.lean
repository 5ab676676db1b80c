/-
  The document's table of what waits for what, over others: plain. Conditions: none.
-/
import Derived.Test.YtmejjeeobhapfaaDBool
namespace Go.Proofs.Ytmejjeeobhapfaa
open Go.RowKit
set_option linter.unusedVariables false

def foldN {α : Type} (f : Nat → α → α) : Nat → α → α
  | 0, a => a
  | k + 1, a => f k (foldN f k a)
abbrev Tab := List (List Bool)
def mget (r : Tab) (v u : Nat) : Bool := (r.getD v []).getD u false
def mset (r : Tab) (v u : Nat) : Tab := r.set v ((r.getD v []).set u true)
def wstep (k v u : Nat) (r : Tab) : Tab := if mget r v k && mget r k u then mset r v u else r
def wrow (n k v : Nat) (r : Tab) : Tab := foldN (wstep k v) n r
def wall (n k : Nat) (r : Tab) : Tab := foldN (wrow n k) n r
def warsh (n : Nat) (r : Tab) : Tab := foldN (wall n) n r
def tab0 (ls : List (List Int)) (n : Nat) : Tab := (List.range n).map fun v => (List.range n).map fun (u : Nat) => decide ((u : Int) ∈ ls.getD v [])
def reachT (ls : List (List Int)) : Tab := warsh ls.length (tab0 ls ls.length)
/-- n rows of n each -/
def Sq (n : Nat) (r : Tab) : Prop := r.length = n ∧ ∀ l ∈ r, l.length = n
theorem Sq.mset {n v u : Nat} {r : Tab} (h : Sq n r) : Sq n (mset r v u) := by
  refine ⟨by simp [Go.Proofs.Ytmejjeeobhapfaa.mset, h.1], fun l hl => ?_⟩
  rcases List.mem_or_eq_of_mem_set hl with h1 | h1
  · exact h.2 l h1
  · subst h1
    rw [List.length_set, List.getD]
    cases hh : r[v]? with
    | none =>
      have : ¬ v < r.length := fun hv => by rw [List.getElem?_eq_getElem hv] at hh; cases hh
      have h2 : Go.Proofs.Ytmejjeeobhapfaa.mset r v u = r := by rw [Go.Proofs.Ytmejjeeobhapfaa.mset, List.set_eq_of_length_le (by omega)]
      rw [h2] at hl
      have := h.2 _ hl
      rw [List.length_set, List.getD, hh] at this
      exact this
    | some l => exact h.2 l (List.mem_of_getElem? hh)
theorem Sq.wstep {n k v u : Nat} {r : Tab} (h : Sq n r) : Sq n (wstep k v u r) := by
  unfold Go.Proofs.Ytmejjeeobhapfaa.wstep; split
  · exact h.mset
  · exact h
theorem foldN_ind {α : Type} {P : α → Prop} {f : Nat → α → α} (hf : ∀ k a, P a → P (f k a)) : ∀ k a, P a → P (foldN f k a)
  | 0, a, h => h
  | k + 1, a, h => hf k _ (foldN_ind hf k a h)
theorem Sq.wrow {n k v j : Nat} {r : Tab} (h : Sq n r) : Sq n (foldN (Go.Proofs.Ytmejjeeobhapfaa.wstep k v) j r) := foldN_ind (P := Sq n) (fun _ _ h => h.wstep) j r h
theorem Sq.wall {n k j : Nat} {r : Tab} (h : Sq n r) : Sq n (foldN (Go.Proofs.Ytmejjeeobhapfaa.wrow n k) j r) := foldN_ind (P := Sq n) (fun _ _ h => h.wrow) j r h
theorem Sq.warsh {n j : Nat} {r : Tab} (h : Sq n r) : Sq n (foldN (Go.Proofs.Ytmejjeeobhapfaa.wall n) j r) := foldN_ind (P := Sq n) (fun _ _ h => h.wall) j r h
theorem sq_tab0 (ls : List (List Int)) (n : Nat) : Sq n (tab0 ls n) := ⟨by simp [tab0], fun l hl => by obtain ⟨v, _, rfl⟩ := List.mem_map.1 hl; simp⟩
theorem sq_reach (ls : List (List Int)) : Sq ls.length (reachT ls) := (sq_tab0 ls ls.length).warsh
theorem Sq.at_ {n v u : Nat} {r : Tab} (h : Sq n r) (hv : v < n) (hu : u < n) : ∃ l, r[v]? = some l ∧ l.length = n ∧ l[u]? = some (mget r v u) := by
  have h1 : v < r.length := by rw [h.1]; exact hv
  refine ⟨r[v], List.getElem?_eq_getElem h1, h.2 _ (List.getElem_mem h1), ?_⟩
  have h2 : u < r[v].length := by rw [h.2 _ (List.getElem_mem h1)]; exact hu
  have e1 : r.getD v [] = r[v] := by rw [List.getD, List.getElem?_eq_getElem h1]; rfl
  rw [mget, e1, List.getD, List.getElem?_eq_getElem h2]; rfl
theorem mget_mset {n v u a b : Nat} {r : Tab} (h : Sq n r) (hv : v < n) (hu : u < n) : mget (mset r v u) a b = (decide (a = v ∧ b = u) || mget r a b) := by
  obtain ⟨l, hl, hln, hlu⟩ := h.at_ hv hu
  have hvl : v < r.length := by rw [h.1]; exact hv
  by_cases ha : a = v
  · subst ha
    have h1 : (mset r a u).getD a [] = l.set u true := by
      rw [mset, List.getD, List.getElem?_set_self hvl, Option.getD, List.getD, hl, Option.getD]
    have h2 : r.getD a [] = l := by rw [List.getD, hl]; rfl
    rw [mget, h1, mget, h2]
    by_cases hb : b = u
    · subst hb
      rw [List.getD, List.getElem?_set_self (by omega)]; simp
    · rw [List.getD, List.getElem?_set_ne (by omega), List.getD]; simp [hb]
  · have h1 : (mset r v u).getD a [] = r.getD a [] := by rw [mset, List.getD, List.getElem?_set_ne (by omega), List.getD]
    rw [mget, h1, mget]; simp [ha]
/-- one comes to another one, by one step or more -/
inductive Way (E : Nat → Nat → Prop) : Nat → Nat → Prop
  | one {a b : Nat} : E a b → Way E a b
  | more {a b c : Nat} : E a b → Way E b c → Way E a c
theorem Way.trans {E : Nat → Nat → Prop} {a b c : Nat} (h : Way E a b) (k : Way E b c) : Way E a c := by
  induction h with
  | one e => exact .more e k
  | more e _ ih => exact .more e (ih k)
theorem Way.mono {E F : Nat → Nat → Prop} (hEF : ∀ a b, E a b → F a b) {a b : Nat} (h : Way E a b) : Way F a b := by
  induction h with
  | one e => exact .one (hEF _ _ e)
  | more e _ ih => exact .more (hEF _ _ e) ih
theorem Way.flip {E F : Nat → Nat → Prop} (hEF : ∀ a b, E a b → F b a) {a b : Nat} (h : Way E a b) : Way F b a := by
  induction h with
  | one e => exact .one (hEF _ _ e)
  | more e _ ih => exact ih.trans (.one (hEF _ _ e))
def edge (ls : List (List Int)) (n : Nat) (v u : Nat) : Prop := v < n ∧ u < n ∧ (u : Int) ∈ ls.getD v []
theorem way_lt {ls : List (List Int)} {n v u : Nat} (h : Way (edge ls n) v u) : v < n ∧ u < n := by
  induction h with
  | one e => exact ⟨e.1, e.2.1⟩
  | more e _ ih => exact ⟨e.1, ih.2⟩
/-- soundness and growth of one step -/
def Good (n : Nat) (W : Nat → Nat → Prop) (r : Tab) : Prop := Sq n r ∧ ∀ a b, a < n → b < n → mget r a b = true → W a b
theorem good_step {n k v u : Nat} {W : Nat → Nat → Prop} (hW : ∀ a b c, W a b → W b c → W a c) {r : Tab} (h : Good n W r) (hk : k < n) (hv : v < n) (hu : u < n) : Good n W (wstep k v u r) := by
  refine ⟨h.1.wstep, fun a b ha hb hm => ?_⟩
  unfold wstep at hm
  split at hm
  · rename_i hc
    rw [Bool.and_eq_true] at hc
    rw [mget_mset h.1 hv hu] at hm
    rcases (Bool.or_eq_true _ _).mp hm with h1 | h1
    · obtain ⟨rfl, rfl⟩ := of_decide_eq_true h1
      exact hW _ _ _ (h.2 _ _ hv hk hc.1) (h.2 _ _ hk hu hc.2)
    · exact h.2 a b ha hb h1
  · exact h.2 a b ha hb hm
/-- r grows -/
def Le (n : Nat) (r s : Tab) : Prop := ∀ a b, a < n → b < n → mget r a b = true → mget s a b = true
theorem le_step {n k v u : Nat} {r : Tab} (h : Sq n r) (hv : v < n) (hu : u < n) : Le n r (wstep k v u r) := fun a b ha hb hm => by
  unfold wstep; split
  · rw [mget_mset h hv hu, hm]; simp
  · exact hm
theorem foldN_le {α : Type} {P : α → Prop} {R : α → α → Prop} (hr : ∀ a, R a a) (ht : ∀ a b c, R a b → R b c → R a c) {f : Nat → α → α} {m : Nat} (hf : ∀ k a, k < m → P a → P (f k a) ∧ R a (f k a)) : ∀ k a, k ≤ m → P a → P (foldN f k a) ∧ R a (foldN f k a)
  | 0, a, _, h => ⟨h, hr a⟩
  | k + 1, a, hk, h => by
    obtain ⟨h1, h2⟩ := foldN_le hr ht hf k a (by omega) h
    obtain ⟨h3, h4⟩ := hf k _ (by omega) h1
    exact ⟨h3, ht _ _ _ h2 h4⟩
theorem Le.rfl' {n : Nat} (r : Tab) : Le n r r := fun _ _ _ _ h => h
theorem Le.trans' {n : Nat} (a b c : Tab) (h : Le n a b) (k : Le n b c) : Le n a c := fun x y hx hy hm => k x y hx hy (h x y hx hy hm)
theorem row_ok {n k v : Nat} {W : Nat → Nat → Prop} (hW : ∀ a b c, W a b → W b c → W a c) (hk : k < n) (hv : v < n) {r : Tab} (h : Good n W r) : ∀ j, j ≤ n → Good n W (foldN (wstep k v) j r) ∧ Le n r (foldN (wstep k v) j r) := fun j hj =>
  foldN_le (P := Good n W) (R := Le n) Le.rfl' Le.trans' (m := n) (fun u a hu ha => ⟨good_step hW ha hk hv hu, le_step ha.1 hv hu⟩) j r hj h
theorem row_full {n k v : Nat} {W : Nat → Nat → Prop} (hW : ∀ a b c, W a b → W b c → W a c) (hk : k < n) (hv : v < n) {r : Tab} (h : Good n W r) : ∀ j, j ≤ n → ∀ u, u < j → mget r v k = true → mget r k u = true → mget (foldN (wstep k v) j r) v u = true
  | 0, _, u, hu, _, _ => by omega
  | j + 1, hj, u, hu, h1, h2 => by
    obtain ⟨g, l⟩ := row_ok hW hk hv h j (by omega)
    rw [foldN]
    rcases Nat.lt_or_ge u j with h3 | h3
    · exact le_step g.1 hv (by omega) v u hv (by omega) (row_full hW hk hv h j (by omega) u h3 h1 h2)
    · obtain rfl : u = j := by omega
      have m1 := l v k hv hk h1
      have m2 := l k u hk (by omega) h2
      have g1 := g.1
      generalize foldN (wstep k v) u r = s at m1 m2 g1 ⊢
      rw [wstep, if_pos (by rw [m1, m2]; rfl), mget_mset g1 hv (by omega)]; simp
theorem all_ok {n k : Nat} {W : Nat → Nat → Prop} (hW : ∀ a b c, W a b → W b c → W a c) (hk : k < n) {r : Tab} (h : Good n W r) : ∀ j, j ≤ n → Good n W (foldN (wrow n k) j r) ∧ Le n r (foldN (wrow n k) j r) := fun j hj =>
  foldN_le (P := Good n W) (R := Le n) Le.rfl' Le.trans' (m := n) (fun v a hv ha => row_ok hW hk hv ha n (Nat.le_refl _)) j r hj h
theorem all_full {n k : Nat} {W : Nat → Nat → Prop} (hW : ∀ a b c, W a b → W b c → W a c) (hk : k < n) {r : Tab} (h : Good n W r) : ∀ j, j ≤ n → ∀ v u, v < j → u < n → mget r v k = true → mget r k u = true → mget (foldN (wrow n k) j r) v u = true
  | 0, _, v, u, hv, _, _, _ => by omega
  | j + 1, hj, v, u, hv, hu, h1, h2 => by
    obtain ⟨g, l⟩ := all_ok hW hk h j (by omega)
    rw [foldN]
    rcases Nat.lt_or_ge v j with h3 | h3
    · exact (row_ok hW hk (by omega) g n (Nat.le_refl _)).2 v u (by omega) hu (all_full hW hk h j (by omega) v u h3 hu h1 h2)
    · obtain rfl : v = j := by omega
      exact row_full hW hk (by omega) g n (Nat.le_refl _) u hu (l v k (by omega) hk h1) (l k u hk hu h2)
theorem wall_ok {n : Nat} {W : Nat → Nat → Prop} (hW : ∀ a b c, W a b → W b c → W a c) {r : Tab} (h : Good n W r) : ∀ j, j ≤ n → Good n W (foldN (wall n) j r) ∧ Le n r (foldN (wall n) j r) := fun j hj =>
  foldN_le (P := Good n W) (R := Le n) Le.rfl' Le.trans' (m := n) (fun k a hk ha => all_ok hW hk ha n (Nat.le_refl _)) j r hj h
/-- a way over things below k alone -/
inductive Via (E : Nat → Nat → Prop) (k : Nat) : Nat → Nat → Prop
  | one {a b : Nat} : E a b → Via E k a b
  | more {a b c : Nat} : E a b → b < k → Via E k b c → Via E k a c
theorem Via.of_way {E : Nat → Nat → Prop} {n a b : Nat} (hE : ∀ a b, E a b → a < n) (h : Way E a b) : Via E n a b := by
  induction h with
  | one e => exact .one e
  | @more a b c e k ih => exact .more e (by cases k with | one e2 => exact hE _ _ e2 | more e2 _ => exact hE _ _ e2) ih
theorem Via.cut {E : Nat → Nat → Prop} {k a c : Nat} (h : Via E (k + 1) a c) : Via E k a c ∨ (Via E k a k ∧ Via E k k c) := by
  induction h with
  | one e => exact .inl (.one e)
  | @more a b c e hb _ ih =>
    rcases Nat.lt_or_ge b k with h1 | h1
    · rcases ih with h2 | ⟨h2, h3⟩
      · exact .inl (.more e h1 h2)
      · exact .inr ⟨.more e h1 h2, h3⟩
    · obtain rfl : b = k := by omega
      rcases ih with h2 | ⟨h2, h3⟩
      · exact .inr ⟨.one e, h2⟩
      · exact .inr ⟨.one e, h3⟩
theorem warsh_full {n : Nat} {E W : Nat → Nat → Prop} (hW : ∀ a b c, W a b → W b c → W a c) {r : Tab} (h : Good n W r) (hE : ∀ a b, E a b → a < n ∧ b < n ∧ mget r a b = true) : ∀ k, k ≤ n → ∀ a b, Via E k a b → a < n ∧ b < n ∧ mget (foldN (wall n) k r) a b = true
  | 0, _, a, b, hv => by
    cases hv with
    | one e => exact hE _ _ e
    | more e h0 _ => omega
  | k + 1, hk, a, b, hv => by
    obtain ⟨g, l⟩ := wall_ok hW h k (by omega)
    rw [foldN]
    rcases hv.cut with h1 | ⟨h1, h2⟩
    · obtain ⟨ha, hb, hm⟩ := warsh_full hW h hE k (by omega) a b h1
      exact ⟨ha, hb, (all_ok hW (by omega) g n (Nat.le_refl _)).2 a b ha hb hm⟩
    · obtain ⟨ha, _, hm1⟩ := warsh_full hW h hE k (by omega) a k h1
      obtain ⟨_, hb, hm2⟩ := warsh_full hW h hE k (by omega) k b h2
      exact ⟨ha, hb, all_full hW (by omega) g n (Nat.le_refl _) a b ha hb hm1 hm2⟩
theorem tab0_get {ls : List (List Int)} {n v u : Nat} (hv : v < n) (hu : u < n) : mget (tab0 ls n) v u = decide ((u : Int) ∈ ls.getD v []) := by
  have e1 : (tab0 ls n).getD v [] = (List.range n).map fun (u : Nat) => decide ((u : Int) ∈ ls.getD v []) := by rw [tab0, List.getD, List.getElem?_map, List.getElem?_range hv]; rfl
  rw [mget, e1, List.getD, List.getElem?_map, List.getElem?_range hu]; rfl
/-- THE TABLE SAYS WHETHER THERE IS A WAY. -/
theorem reach_iff {ls : List (List Int)} {v u : Nat} (hv : v < ls.length) (hu : u < ls.length) : mget (reachT ls) v u = true ↔ Way (edge ls ls.length) v u := by
  have h0 : Good ls.length (Way (edge ls ls.length)) (tab0 ls ls.length) := ⟨sq_tab0 _ _, fun a b ha hb hm => .one ⟨ha, hb, by rw [tab0_get ha hb] at hm; exact of_decide_eq_true hm⟩⟩
  have hW : ∀ a b c, Way (edge ls ls.length) a b → Way (edge ls ls.length) b c → Way (edge ls ls.length) a c := fun _ _ _ h k => h.trans k
  constructor
  · intro hm
    exact (wall_ok hW h0 ls.length (Nat.le_refl _)).1.2 v u hv hu hm
  · intro hw
    exact (warsh_full hW h0 (fun a b e => ⟨e.1, e.2.1, by rw [tab0_get e.1 e.2.1]; exact decide_eq_true e.2.2⟩) ls.length (Nat.le_refl _) v u (Via.of_way (fun _ _ e => e.1) hw)).2.2
end Go.Proofs.Ytmejjeeobhapfaa
