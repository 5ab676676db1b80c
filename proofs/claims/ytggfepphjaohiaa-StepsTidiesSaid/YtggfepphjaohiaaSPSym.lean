/-
  Walk: two rows in order, side by side, merged in their place. Conditions: none.
-/
import Derived.Test.YtggfepphjaohiaaSPBigA
import Derived.Test.YtggfepphjaohiaaSPBigB
namespace Go.Proofs.Ytggfepphjaohiaa
open Go.Shelf Go.RowKit Go.Lib Go.Sort

theorem symMergeP {P : Program} {α : Type} [Inhabited α] {k : Nat} (L : SLayP P k) (enc : α → List Value) (hk : ∀ x, (enc x).length = k) (h1 : ∀ x, ∀ v ∈ enc x, v.oneCell' = true)
    (cf : α → α → Int) (g : Nat) (cb : Array Value) (blk off cap : Nat) (d : Array α) (w : World) (eg : ∀ args w, (callFunc g args).run P w = .ok (.enter g args) w)
    (hcmp : CmpLays P g cb enc k cf blk off d.size w) (hH : HoldsK enc k w blk off d) (hblk : blk < w.heap.size) (hsz : d.size < 4611686018427387904)
    (o : Order cf) (N : Nat) : ∀ (p u v s : List α) (a m b m0 : Nat) (os0 : Array Obj), Srt cf u → Srt cf v → p.length = a → a + u.length = m → m + v.length = b → 0 < u.length → 0 < v.length → d.size = b + s.length → b - a ≤ N → ∀ U : List α, u ++ v = U →
    Calls P 50 #[.slice (some ⟨blk, off, none⟩) d.size cap, .int .i64 a, .int .i64 m, .int .i64 b, .func (.func g) #[] cb] (SWl enc k w blk off m0 (p ++ u ++ v ++ s) os0) (GivesSW enc k w blk off (Merged cf p s U)) := by
  induction N with
  | zero => intro p u v s a m b m0 os0 hsu hsv hpa hm hb hu0 hv0 hd hN; omega
  | succ N ih =>
    intro p u v s a m b m0 os0 hsu hsv hpa hm hb hu0 hv0 hd hN U hU
    by_cases h : u.length = 1
    · obtain ⟨x, rfl⟩ := List.length_eq_one_iff.1 h
      exact symOneP L enc hk h1 cf g cb blk off cap d w eg hcmp hH hblk hsz o p v s x a m b m0 os0 hsv hpa hm hb hd U hU
    · by_cases h' : v.length = 1
      · obtain ⟨x, rfl⟩ := List.length_eq_one_iff.1 h'
        exact symTwoP L enc hk h1 cf g cb blk off cap d w eg hcmp hH hblk hsz o p u s x a m b m0 os0 hsu hpa hm h (by omega) hb hd U hU
      · by_cases hmm : (a + b) / 2 < m
        · exact symBigAP L enc hk h1 cf g cb blk off cap d w eg hcmp hH hblk hsz o N ih p u v s a m b m0 os0 hsu hsv hpa hm hb hu0 hv0 hd hN h h' hmm U hU
        · exact symBigBP L enc hk h1 cf g cb blk off cap d w eg hcmp hH hblk hsz o N ih p u v s a m b m0 os0 hsu hsv hpa hm hb hu0 hv0 hd hN h h' hmm U hU
end Go.Proofs.Ytggfepphjaohiaa
