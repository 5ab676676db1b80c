/-
  A region that draws its order, whose operations only read and whose callees only make memory: one walk. Conditions: none.
-/
import Derived.Test.YtmejjeeobhapfaaMem
import Derived.Deep.QuietTactic
import Derived.BigQuiet
namespace Go.Proofs.Ytmejjeeobhapfaa
open Go.RowKit

/-- A world that has grown out of w. -/
structure ExtW (w : World) where
  val : World
  ext : Ext w val

instance (w : World) : Nonempty (ExtW w) := ⟨⟨w, Ext.rfl'⟩⟩

theorem wp_region_ext {P : Program} {id : Nat} {Q : Exit → Act → World → Prop} {a : Act} {w : World} {l : List Oper} (hm : P.follows .mixedOrders = true) (hB : Region.lexB .any l.toArray = true)
    (h : wpQuiet P l.toArray (fun w' => ∃ x : ExtW w, w' = x.val) (fun a' => ∀ w', (∃ x : ExtW w, w' = x.val) → Q .normal a' w') l a) : (Code.region id l.toArray true).wp P Q a w :=
  wp_region_quiet (C := fun w' => ∃ x : ExtW w, w' = x.val) hm hB ⟨⟨{ w with drawn := w.drawn + 1 }, ⟨rfl, rfl, rfl, Nat.le_refl _, fun _ _ => rfl⟩⟩, rfl⟩ (by simpa using h)

theorem extq {P : Program} {f : FuncId} {args : Array Value} {w : World} {v : Value} {x : ExtW w} (h : Calls P f args x.val fun e w' => e = .returned v ∧ Ext x.val w') :
    Calls P f args x.val fun e w'' => e = .returned v ∧ ∃ y : ExtW w, w'' = y.val :=
  h.mono fun _ _ ⟨he, hx⟩ => ⟨he, ⟨_, x.ext.trans' hx⟩, rfl⟩
theorem extq_same {P : Program} {f : FuncId} {args : Array Value} {w : World} {v : Value} {x : ExtW w} (h : Calls P f args x.val fun e w' => e = .returned v ∧ x.val = w') :
    Calls P f args x.val fun e w'' => e = .returned v ∧ ∃ y : ExtW w, w'' = y.val :=
  h.mono fun _ _ ⟨he, hx⟩ => ⟨he, x, hx.symm⟩
theorem ExtW.cell {w : World} {p : Addr} {v : Value} (hc : w.cell? p = some v) : ∀ x : ExtW w, x.val.cell? p = some v := fun x => x.ext.cell' hc
end Go.Proofs.Ytmejjeeobhapfaa
