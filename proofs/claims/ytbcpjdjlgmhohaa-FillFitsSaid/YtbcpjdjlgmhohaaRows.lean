/-
  No cell of these rows narrows 'for every input' (looked for: loops, veiled, ifaces, maps, wideKeys, modest, calm, conditions, laid).
  DERIVED. THE GIVEN ROWS OF THIS SEAT. 7 by the template 'for every input the law returns true; each argument reads behind the call as it read before'; 0 by the template 'total and deterministic' (their statements: YtbcpjdjlgmhohaaTotals.lean).
  GIVEN WITH THE SEED: the statements are not yours to turn. If you find one false, say at which input.
  Laid BY PROGRAM, IN A SANDBOX (cutbox-rows.mjs): the forced cells as the released guide's own fill.sh prints them over the translation d81159efc75d5257… (all of the seat's roots in one cut). By AI agents, Wed Nov 11 2026. No macro, syntax, notation, axiom, sorry.
-/
import Derived.Test.YtbcpjdjlgmhohaaChecked
import GoSem.Claim
import GoSem.ClaimJoined
import GoSem.ClaimMapViews
import Derived.JoinedTies
import Derived.KernelRfl
namespace Go.Proofs.Ytbcpjdjlgmhohaa
/- THE CELL 'sum', in the pinned program and in every row, IS THE sha256 OF THE DUMP (.gsa) THAT YtbcpjdjlgmhohaaProg.lean LOADS. Nothing in Lean hashes anything: it is a label: what it is worth is what the hold of that sum in a sandbox is worth. -/
noncomputable def Try.pinned : Pinned := { name := "ytbcpjdjlgmhohaa", sum := "d81159efc75d5257b4d13ba9cdd0fa2bc41dadae66651d426fc6e3da1344efa2", checked := Try.checked }
namespace Rows
def none {H : Type} : Left H := { results := [], args := [] }

/-- 'timekeeperlaw15.FillPlaces': WHATEVER THE INPUT: true; the input reads as it did. -/
def fillPlacesSpec : ChangeSpec := { name := "fillPlaces", fn := fun _ => fun
  | [d1, d2, d3, d4] => { results := [.lit (.bool true)], args := [d1, d2, d3, d4] }
  | _ => none }
def fillPlacesRow : OpenClaim := { program := "ytbcpjdjlgmhohaa", sum := "d81159efc75d5257b4d13ba9cdd0fa2bc41dadae66651d426fc6e3da1344efa2", func := "timekeeper/timekeeperlaw15.FillPlaces", spec := "fillPlaces", unfollowed := true, recurses := true, apart := false }
def FillPlacesSaid : Prop := fillPlacesRow.holds Try.pinned (OpenSpec.ofChange fillPlacesSpec)

/-- ITS FALSE NEIGHBOUR: 'it returns false'. Refute it at one input. -/
def fillPlacesWrong : ChangeSpec := { name := "fillPlaces", fn := fun _ => fun
  | [d1, d2, d3, d4] => { results := [.lit (.bool false)], args := [d1, d2, d3, d4] }
  | _ => none }
def FillPlacesWrongFalsely : Prop := fillPlacesRow.holds Try.pinned (OpenSpec.ofChange fillPlacesWrong)

/-- 'timekeeperlaw15.FillKept': WHATEVER THE INPUT: true; the input reads as it did. -/
def fillKeptSpec : ChangeSpec := { name := "fillKept", fn := fun _ => fun
  | [d1, d2, d3, d4, d5] => { results := [.lit (.bool true)], args := [d1, d2, d3, d4, d5] }
  | _ => none }
def fillKeptRow : OpenClaim := { program := "ytbcpjdjlgmhohaa", sum := "d81159efc75d5257b4d13ba9cdd0fa2bc41dadae66651d426fc6e3da1344efa2", func := "timekeeper/timekeeperlaw15.FillKept", spec := "fillKept", unfollowed := true, recurses := true, apart := false }
def FillKeptSaid : Prop := fillKeptRow.holds Try.pinned (OpenSpec.ofChange fillKeptSpec)

/-- ITS FALSE NEIGHBOUR: 'it returns false'. Refute it at one input. -/
def fillKeptWrong : ChangeSpec := { name := "fillKept", fn := fun _ => fun
  | [d1, d2, d3, d4, d5] => { results := [.lit (.bool false)], args := [d1, d2, d3, d4, d5] }
  | _ => none }
def FillKeptWrongFalsely : Prop := fillKeptRow.holds Try.pinned (OpenSpec.ofChange fillKeptWrong)

/-- 'timekeeperlaw15.FillOrders': WHATEVER THE INPUT: true; the input reads as it did. -/
def fillOrdersSpec : ChangeSpec := { name := "fillOrders", fn := fun _ => fun
  | [d] => { results := [.lit (.bool true)], args := [d] }
  | _ => none }
def fillOrdersRow : OpenClaim := { program := "ytbcpjdjlgmhohaa", sum := "d81159efc75d5257b4d13ba9cdd0fa2bc41dadae66651d426fc6e3da1344efa2", func := "timekeeper/timekeeperlaw15.FillOrders", spec := "fillOrders", unfollowed := true, recurses := true, apart := false }
def FillOrdersSaid : Prop := fillOrdersRow.holds Try.pinned (OpenSpec.ofChange fillOrdersSpec)

/-- ITS FALSE NEIGHBOUR: 'it returns false'. Refute it at one input. -/
def fillOrdersWrong : ChangeSpec := { name := "fillOrders", fn := fun _ => fun
  | [d] => { results := [.lit (.bool false)], args := [d] }
  | _ => none }
def FillOrdersWrongFalsely : Prop := fillOrdersRow.holds Try.pinned (OpenSpec.ofChange fillOrdersWrong)

/-- 'timekeeperlaw15.FillAll': WHATEVER THE INPUT: true; the input reads as it did. -/
def fillAllSpec : ChangeSpec := { name := "fillAll", fn := fun _ => fun
  | [d1, d2, d3] => { results := [.lit (.bool true)], args := [d1, d2, d3] }
  | _ => none }
def fillAllRow : OpenClaim := { program := "ytbcpjdjlgmhohaa", sum := "d81159efc75d5257b4d13ba9cdd0fa2bc41dadae66651d426fc6e3da1344efa2", func := "timekeeper/timekeeperlaw15.FillAll", spec := "fillAll", unfollowed := true, recurses := true, apart := false }
def FillAllSaid : Prop := fillAllRow.holds Try.pinned (OpenSpec.ofChange fillAllSpec)

/-- ITS FALSE NEIGHBOUR: 'it returns false'. Refute it at one input. -/
def fillAllWrong : ChangeSpec := { name := "fillAll", fn := fun _ => fun
  | [d1, d2, d3] => { results := [.lit (.bool false)], args := [d1, d2, d3] }
  | _ => none }
def FillAllWrongFalsely : Prop := fillAllRow.holds Try.pinned (OpenSpec.ofChange fillAllWrong)

/-- 'timekeeperlaw15.FillLeft': WHATEVER THE INPUT: true; the input reads as it did. -/
def fillLeftSpec : ChangeSpec := { name := "fillLeft", fn := fun _ => fun
  | [d1, d2] => { results := [.lit (.bool true)], args := [d1, d2] }
  | _ => none }
def fillLeftRow : OpenClaim := { program := "ytbcpjdjlgmhohaa", sum := "d81159efc75d5257b4d13ba9cdd0fa2bc41dadae66651d426fc6e3da1344efa2", func := "timekeeper/timekeeperlaw15.FillLeft", spec := "fillLeft", unfollowed := true, recurses := true, apart := false }
def FillLeftSaid : Prop := fillLeftRow.holds Try.pinned (OpenSpec.ofChange fillLeftSpec)

/-- ITS FALSE NEIGHBOUR: 'it returns false'. Refute it at one input. -/
def fillLeftWrong : ChangeSpec := { name := "fillLeft", fn := fun _ => fun
  | [d1, d2] => { results := [.lit (.bool false)], args := [d1, d2] }
  | _ => none }
def FillLeftWrongFalsely : Prop := fillLeftRow.holds Try.pinned (OpenSpec.ofChange fillLeftWrong)

/-- 'timekeeperlaw15.FillFits': WHATEVER THE INPUT: true; the input reads as it did. -/
def fillFitsSpec : ChangeSpec := { name := "fillFits", fn := fun _ => fun
  | [d1, d2, d3] => { results := [.lit (.bool true)], args := [d1, d2, d3] }
  | _ => none }
def fillFitsRow : OpenClaim := { program := "ytbcpjdjlgmhohaa", sum := "d81159efc75d5257b4d13ba9cdd0fa2bc41dadae66651d426fc6e3da1344efa2", func := "timekeeper/timekeeperlaw15.FillFits", spec := "fillFits", unfollowed := true, recurses := true, apart := false }
def FillFitsSaid : Prop := fillFitsRow.holds Try.pinned (OpenSpec.ofChange fillFitsSpec)

/-- ITS FALSE NEIGHBOUR: 'it returns false'. Refute it at one input. -/
def fillFitsWrong : ChangeSpec := { name := "fillFits", fn := fun _ => fun
  | [d1, d2, d3] => { results := [.lit (.bool false)], args := [d1, d2, d3] }
  | _ => none }
def FillFitsWrongFalsely : Prop := fillFitsRow.holds Try.pinned (OpenSpec.ofChange fillFitsWrong)

/-- 'timekeeperlaw15.FillNow': WHATEVER THE INPUT: true; the input reads as it did. -/
def fillNowSpec : ChangeSpec := { name := "fillNow", fn := fun _ => fun
  | [d1, d2, d3] => { results := [.lit (.bool true)], args := [d1, d2, d3] }
  | _ => none }
def fillNowRow : OpenClaim := { program := "ytbcpjdjlgmhohaa", sum := "d81159efc75d5257b4d13ba9cdd0fa2bc41dadae66651d426fc6e3da1344efa2", func := "timekeeper/timekeeperlaw15.FillNow", spec := "fillNow", unfollowed := true, recurses := true, apart := false }
def FillNowSaid : Prop := fillNowRow.holds Try.pinned (OpenSpec.ofChange fillNowSpec)

/-- ITS FALSE NEIGHBOUR: 'it returns false'. Refute it at one input. -/
def fillNowWrong : ChangeSpec := { name := "fillNow", fn := fun _ => fun
  | [d1, d2, d3] => { results := [.lit (.bool false)], args := [d1, d2, d3] }
  | _ => none }
def FillNowWrongFalsely : Prop := fillNowRow.holds Try.pinned (OpenSpec.ofChange fillNowWrong)

/- THE SECOND FORM. 'bulk': how many values and letters a reading holds, each counted each time it is reached (what is shared counts as often as it is met; a slice's spare places count too). A statement '..UptoSaid' is the law's where the arguments, and the package variables that the reading takes, are together of bulk at most 1048576: NARROWER than '..Said'. Prove '..Said' where nothing that the law and all that it calls make is longer than what came in: it says more and counts as full. Else prove '..UptoSaid'. A law counts once. -/
mutual
def uptoBulk {H : Type} : DataW H → Nat
  | .lit (.string bytes) => bytes.length + 1
  | .lit _ => 1
  | .nil => 1
  | .ptr d => uptoBulk d + 1
  | .slice elems spare => uptoBulkAll elems + uptoBulkAll spare + 1
  | .agg parts => uptoBulkAll parts + 1
  | .iface _ d => uptoBulk d + 1
  | .map entries => uptoBulkEntries entries + 1
  | .held _ => 1
def uptoBulkAll {H : Type} : List (DataW H) → Nat
  | [] => 0
  | d :: r => uptoBulk d + uptoBulkAll r
def uptoBulkEntries {H : Type} : List (Lit × DataW H) → Nat
  | [] => 0
  | x :: r => uptoBulkEntry x + uptoBulkEntries r
def uptoBulkEntry {H : Type} : Lit × DataW H → Nat
  | (.string bytes, d) => bytes.length + uptoBulk d + 1
  | (_, d) => uptoBulk d + 1
 end
def uptoSmall : (H : Type) → List (DataW H) → Bool := fun _ ds => decide (uptoBulkAll ds ≤ 1048576)
def OpenSpec.upto (s : _root_.Go.ChangeSpec) : _root_.Go.OpenSpec := { _root_.Go.OpenSpec.ofChange s with cond := some uptoSmall }

/-- 'timekeeperlaw15.FillPlaces', WHERE WHAT IT READS IS OF BULK AT MOST 1048576: true; the input reads as it did. -/
def fillPlacesUptoRow : OpenClaim := { program := "ytbcpjdjlgmhohaa", sum := "d81159efc75d5257b4d13ba9cdd0fa2bc41dadae66651d426fc6e3da1344efa2", func := "timekeeper/timekeeperlaw15.FillPlaces", spec := "fillPlaces", unfollowed := true, recurses := true, apart := false, narrowed := true }
def FillPlacesUptoSaid : Prop := fillPlacesUptoRow.holds Try.pinned (OpenSpec.upto fillPlacesSpec)

/-- 'timekeeperlaw15.FillKept', WHERE WHAT IT READS IS OF BULK AT MOST 1048576: true; the input reads as it did. -/
def fillKeptUptoRow : OpenClaim := { program := "ytbcpjdjlgmhohaa", sum := "d81159efc75d5257b4d13ba9cdd0fa2bc41dadae66651d426fc6e3da1344efa2", func := "timekeeper/timekeeperlaw15.FillKept", spec := "fillKept", unfollowed := true, recurses := true, apart := false, narrowed := true }
def FillKeptUptoSaid : Prop := fillKeptUptoRow.holds Try.pinned (OpenSpec.upto fillKeptSpec)

/-- 'timekeeperlaw15.FillOrders', WHERE WHAT IT READS IS OF BULK AT MOST 1048576: true; the input reads as it did. -/
def fillOrdersUptoRow : OpenClaim := { program := "ytbcpjdjlgmhohaa", sum := "d81159efc75d5257b4d13ba9cdd0fa2bc41dadae66651d426fc6e3da1344efa2", func := "timekeeper/timekeeperlaw15.FillOrders", spec := "fillOrders", unfollowed := true, recurses := true, apart := false, narrowed := true }
def FillOrdersUptoSaid : Prop := fillOrdersUptoRow.holds Try.pinned (OpenSpec.upto fillOrdersSpec)

/-- 'timekeeperlaw15.FillAll', WHERE WHAT IT READS IS OF BULK AT MOST 1048576: true; the input reads as it did. -/
def fillAllUptoRow : OpenClaim := { program := "ytbcpjdjlgmhohaa", sum := "d81159efc75d5257b4d13ba9cdd0fa2bc41dadae66651d426fc6e3da1344efa2", func := "timekeeper/timekeeperlaw15.FillAll", spec := "fillAll", unfollowed := true, recurses := true, apart := false, narrowed := true }
def FillAllUptoSaid : Prop := fillAllUptoRow.holds Try.pinned (OpenSpec.upto fillAllSpec)

/-- 'timekeeperlaw15.FillLeft', WHERE WHAT IT READS IS OF BULK AT MOST 1048576: true; the input reads as it did. -/
def fillLeftUptoRow : OpenClaim := { program := "ytbcpjdjlgmhohaa", sum := "d81159efc75d5257b4d13ba9cdd0fa2bc41dadae66651d426fc6e3da1344efa2", func := "timekeeper/timekeeperlaw15.FillLeft", spec := "fillLeft", unfollowed := true, recurses := true, apart := false, narrowed := true }
def FillLeftUptoSaid : Prop := fillLeftUptoRow.holds Try.pinned (OpenSpec.upto fillLeftSpec)

/-- 'timekeeperlaw15.FillFits', WHERE WHAT IT READS IS OF BULK AT MOST 1048576: true; the input reads as it did. -/
def fillFitsUptoRow : OpenClaim := { program := "ytbcpjdjlgmhohaa", sum := "d81159efc75d5257b4d13ba9cdd0fa2bc41dadae66651d426fc6e3da1344efa2", func := "timekeeper/timekeeperlaw15.FillFits", spec := "fillFits", unfollowed := true, recurses := true, apart := false, narrowed := true }
def FillFitsUptoSaid : Prop := fillFitsUptoRow.holds Try.pinned (OpenSpec.upto fillFitsSpec)

/-- 'timekeeperlaw15.FillNow', WHERE WHAT IT READS IS OF BULK AT MOST 1048576: true; the input reads as it did. -/
def fillNowUptoRow : OpenClaim := { program := "ytbcpjdjlgmhohaa", sum := "d81159efc75d5257b4d13ba9cdd0fa2bc41dadae66651d426fc6e3da1344efa2", func := "timekeeper/timekeeperlaw15.FillNow", spec := "fillNow", unfollowed := true, recurses := true, apart := false, narrowed := true }
def FillNowUptoSaid : Prop := fillNowUptoRow.holds Try.pinned (OpenSpec.upto fillNowSpec)

end Rows
end Go.Proofs.Ytbcpjdjlgmhohaa
