/-
  No cell of these rows narrows 'for every input' (looked for: loops, veiled, ifaces, maps, wideKeys, modest, calm, conditions, laid).
  DERIVED. THE GIVEN ROWS OF THIS SEAT. 6 by the template 'for every input the law returns true; each argument reads behind the call as it read before'; 0 by the template 'total and deterministic' (their statements: YtmejjeeobhapfaaTotals.lean).
  GIVEN WITH THE SEED: the statements are not yours to turn. If you find one false, say at which input.
  Laid BY PROGRAM, IN A SANDBOX (cutbox-rows.mjs): the forced cells as the released guide's own fill.sh prints them over the translation ed7f19e814cc4174… (all of the seat's roots in one cut). By AI agents, Wed Nov 11 2026. No macro, syntax, notation, axiom, sorry.
-/
import Derived.Test.YtmejjeeobhapfaaChecked
import GoSem.Claim
import GoSem.ClaimJoined
import GoSem.ClaimMapViews
import Derived.JoinedTies
import Derived.KernelRfl
namespace Go.Proofs.Ytmejjeeobhapfaa
/- THE CELL 'sum', in the pinned program and in every row, IS THE sha256 OF THE DUMP (.gsa) THAT YtmejjeeobhapfaaProg.lean LOADS. Nothing in Lean hashes anything: it is a label: what it is worth is what the hold of that sum in a sandbox is worth. -/
noncomputable def Try.pinned : Pinned := { name := "ytmejjeeobhapfaa", sum := "ed7f19e814cc4174b099a61f1a3f86b04d734f0e950c68cb434604c94e97fe21", checked := Try.checked }
namespace Rows
def none {H : Type} : Left H := { results := [], args := [] }

/-- 'timekeeperlaw05.DagFar': WHATEVER THE INPUT: true; the input reads as it did. -/
def dagFarSpec : ChangeSpec := { name := "dagFar", fn := fun _ => fun
  | [d1, d2] => { results := [.lit (.bool true)], args := [d1, d2] }
  | _ => none }
def dagFarRow : OpenClaim := { program := "ytmejjeeobhapfaa", sum := "ed7f19e814cc4174b099a61f1a3f86b04d734f0e950c68cb434604c94e97fe21", func := "timekeeper/timekeeperlaw05.DagFar", spec := "dagFar", recurses := true, apart := false }
def DagFarSaid : Prop := dagFarRow.holds Try.pinned (OpenSpec.ofChange dagFarSpec)

/-- ITS FALSE NEIGHBOUR: 'it returns false'. Refute it at one input. -/
def dagFarWrong : ChangeSpec := { name := "dagFar", fn := fun _ => fun
  | [d1, d2] => { results := [.lit (.bool false)], args := [d1, d2] }
  | _ => none }
def DagFarWrongFalsely : Prop := dagFarRow.holds Try.pinned (OpenSpec.ofChange dagFarWrong)

/-- 'timekeeperlaw05.DagNear': WHATEVER THE INPUT: true; the input reads as it did. -/
def dagNearSpec : ChangeSpec := { name := "dagNear", fn := fun _ => fun
  | [d1, d2] => { results := [.lit (.bool true)], args := [d1, d2] }
  | _ => none }
def dagNearRow : OpenClaim := { program := "ytmejjeeobhapfaa", sum := "ed7f19e814cc4174b099a61f1a3f86b04d734f0e950c68cb434604c94e97fe21", func := "timekeeper/timekeeperlaw05.DagNear", spec := "dagNear", recurses := true, apart := false }
def DagNearSaid : Prop := dagNearRow.holds Try.pinned (OpenSpec.ofChange dagNearSpec)

/-- ITS FALSE NEIGHBOUR: 'it returns false'. Refute it at one input. -/
def dagNearWrong : ChangeSpec := { name := "dagNear", fn := fun _ => fun
  | [d1, d2] => { results := [.lit (.bool false)], args := [d1, d2] }
  | _ => none }
def DagNearWrongFalsely : Prop := dagNearRow.holds Try.pinned (OpenSpec.ofChange dagNearWrong)

/-- 'timekeeperlaw05.DagStands': WHATEVER THE INPUT: true; the input reads as it did. -/
def dagStandsSpec : ChangeSpec := { name := "dagStands", fn := fun _ => fun
  | [d] => { results := [.lit (.bool true)], args := [d] }
  | _ => none }
def dagStandsRow : OpenClaim := { program := "ytmejjeeobhapfaa", sum := "ed7f19e814cc4174b099a61f1a3f86b04d734f0e950c68cb434604c94e97fe21", func := "timekeeper/timekeeperlaw05.DagStands", spec := "dagStands", recurses := true, apart := false }
def DagStandsSaid : Prop := dagStandsRow.holds Try.pinned (OpenSpec.ofChange dagStandsSpec)

/-- ITS FALSE NEIGHBOUR: 'it returns false'. Refute it at one input. -/
def dagStandsWrong : ChangeSpec := { name := "dagStands", fn := fun _ => fun
  | [d] => { results := [.lit (.bool false)], args := [d] }
  | _ => none }
def DagStandsWrongFalsely : Prop := dagStandsRow.holds Try.pinned (OpenSpec.ofChange dagStandsWrong)

/-- 'timekeeperlaw05.DagBare': WHATEVER THE INPUT: true; the input reads as it did. -/
def dagBareSpec : ChangeSpec := { name := "dagBare", fn := fun _ => fun
  | [d] => { results := [.lit (.bool true)], args := [d] }
  | _ => none }
def dagBareRow : OpenClaim := { program := "ytmejjeeobhapfaa", sum := "ed7f19e814cc4174b099a61f1a3f86b04d734f0e950c68cb434604c94e97fe21", func := "timekeeper/timekeeperlaw05.DagBare", spec := "dagBare", recurses := true, apart := false }
def DagBareSaid : Prop := dagBareRow.holds Try.pinned (OpenSpec.ofChange dagBareSpec)

/-- ITS FALSE NEIGHBOUR: 'it returns false'. Refute it at one input. -/
def dagBareWrong : ChangeSpec := { name := "dagBare", fn := fun _ => fun
  | [d] => { results := [.lit (.bool false)], args := [d] }
  | _ => none }
def DagBareWrongFalsely : Prop := dagBareRow.holds Try.pinned (OpenSpec.ofChange dagBareWrong)

/-- 'timekeeperlaw05.DagPaths': WHATEVER THE INPUT: true; the input reads as it did. -/
def dagPathsSpec : ChangeSpec := { name := "dagPaths", fn := fun _ => fun
  | [d1, d2, d3] => { results := [.lit (.bool true)], args := [d1, d2, d3] }
  | _ => none }
def dagPathsRow : OpenClaim := { program := "ytmejjeeobhapfaa", sum := "ed7f19e814cc4174b099a61f1a3f86b04d734f0e950c68cb434604c94e97fe21", func := "timekeeper/timekeeperlaw05.DagPaths", spec := "dagPaths", recurses := true, apart := false }
def DagPathsSaid : Prop := dagPathsRow.holds Try.pinned (OpenSpec.ofChange dagPathsSpec)

/-- ITS FALSE NEIGHBOUR: 'it returns false'. Refute it at one input. -/
def dagPathsWrong : ChangeSpec := { name := "dagPaths", fn := fun _ => fun
  | [d1, d2, d3] => { results := [.lit (.bool false)], args := [d1, d2, d3] }
  | _ => none }
def DagPathsWrongFalsely : Prop := dagPathsRow.holds Try.pinned (OpenSpec.ofChange dagPathsWrong)

/-- 'timekeeperlaw05.DagBoth': WHATEVER THE INPUT: true; the input reads as it did. -/
def dagBothSpec : ChangeSpec := { name := "dagBoth", fn := fun _ => fun
  | [d1, d2, d3] => { results := [.lit (.bool true)], args := [d1, d2, d3] }
  | _ => none }
def dagBothRow : OpenClaim := { program := "ytmejjeeobhapfaa", sum := "ed7f19e814cc4174b099a61f1a3f86b04d734f0e950c68cb434604c94e97fe21", func := "timekeeper/timekeeperlaw05.DagBoth", spec := "dagBoth", recurses := true, apart := false }
def DagBothSaid : Prop := dagBothRow.holds Try.pinned (OpenSpec.ofChange dagBothSpec)

/-- ITS FALSE NEIGHBOUR: 'it returns false'. Refute it at one input. -/
def dagBothWrong : ChangeSpec := { name := "dagBoth", fn := fun _ => fun
  | [d1, d2, d3] => { results := [.lit (.bool false)], args := [d1, d2, d3] }
  | _ => none }
def DagBothWrongFalsely : Prop := dagBothRow.holds Try.pinned (OpenSpec.ofChange dagBothWrong)

/- THE SECOND FORM. 'bulk': how many values and letters a reading holds, each counted each time it is reached (what is shared counts as often as it is met; a slice's spare places count too). A statement '..UptoSaid' is the law's where the arguments, and the package variables that the reading takes, are together of bulk at most 1048576: NARROWER than '..Said'. Prove '..Said' where nothing that the law and all that it calls make is longer than what came in: it says more and counts as full. Else prove '..UptoSaid'. A law counts once. -/
mutual
def uptoBulk {H : Type} : DataW H → Nat
  | .lit (.string bytes) => bytes.length + 1
  | .lit _ => 1
  | .nil => 1
  | .ptr d => uptoBulk d + 1
  | .slice elems spare => uptoBulkAll elems + uptoBulkAll spare + 1
  | .agg parts => uptoBulkAll parts + 1
  | .iface _ d => uptoBulk d + 1
  | .map entries => uptoBulkEntries entries + 1
  | .held _ => 1
def uptoBulkAll {H : Type} : List (DataW H) → Nat
  | [] => 0
  | d :: r => uptoBulk d + uptoBulkAll r
def uptoBulkEntries {H : Type} : List (Lit × DataW H) → Nat
  | [] => 0
  | x :: r => uptoBulkEntry x + uptoBulkEntries r
def uptoBulkEntry {H : Type} : Lit × DataW H → Nat
  | (.string bytes, d) => bytes.length + uptoBulk d + 1
  | (_, d) => uptoBulk d + 1
 end
def uptoSmall : (H : Type) → List (DataW H) → Bool := fun _ ds => decide (uptoBulkAll ds ≤ 1048576)
def OpenSpec.upto (s : _root_.Go.ChangeSpec) : _root_.Go.OpenSpec := { _root_.Go.OpenSpec.ofChange s with cond := some uptoSmall }

/-- 'timekeeperlaw05.DagFar', WHERE WHAT IT READS IS OF BULK AT MOST 1048576: true; the input reads as it did. -/
def dagFarUptoRow : OpenClaim := { program := "ytmejjeeobhapfaa", sum := "ed7f19e814cc4174b099a61f1a3f86b04d734f0e950c68cb434604c94e97fe21", func := "timekeeper/timekeeperlaw05.DagFar", spec := "dagFar", recurses := true, apart := false, narrowed := true }
def DagFarUptoSaid : Prop := dagFarUptoRow.holds Try.pinned (OpenSpec.upto dagFarSpec)

/-- 'timekeeperlaw05.DagNear', WHERE WHAT IT READS IS OF BULK AT MOST 1048576: true; the input reads as it did. -/
def dagNearUptoRow : OpenClaim := { program := "ytmejjeeobhapfaa", sum := "ed7f19e814cc4174b099a61f1a3f86b04d734f0e950c68cb434604c94e97fe21", func := "timekeeper/timekeeperlaw05.DagNear", spec := "dagNear", recurses := true, apart := false, narrowed := true }
def DagNearUptoSaid : Prop := dagNearUptoRow.holds Try.pinned (OpenSpec.upto dagNearSpec)

/-- 'timekeeperlaw05.DagStands', WHERE WHAT IT READS IS OF BULK AT MOST 1048576: true; the input reads as it did. -/
def dagStandsUptoRow : OpenClaim := { program := "ytmejjeeobhapfaa", sum := "ed7f19e814cc4174b099a61f1a3f86b04d734f0e950c68cb434604c94e97fe21", func := "timekeeper/timekeeperlaw05.DagStands", spec := "dagStands", recurses := true, apart := false, narrowed := true }
def DagStandsUptoSaid : Prop := dagStandsUptoRow.holds Try.pinned (OpenSpec.upto dagStandsSpec)

/-- 'timekeeperlaw05.DagBare', WHERE WHAT IT READS IS OF BULK AT MOST 1048576: true; the input reads as it did. -/
def dagBareUptoRow : OpenClaim := { program := "ytmejjeeobhapfaa", sum := "ed7f19e814cc4174b099a61f1a3f86b04d734f0e950c68cb434604c94e97fe21", func := "timekeeper/timekeeperlaw05.DagBare", spec := "dagBare", recurses := true, apart := false, narrowed := true }
def DagBareUptoSaid : Prop := dagBareUptoRow.holds Try.pinned (OpenSpec.upto dagBareSpec)

/-- 'timekeeperlaw05.DagPaths', WHERE WHAT IT READS IS OF BULK AT MOST 1048576: true; the input reads as it did. -/
def dagPathsUptoRow : OpenClaim := { program := "ytmejjeeobhapfaa", sum := "ed7f19e814cc4174b099a61f1a3f86b04d734f0e950c68cb434604c94e97fe21", func := "timekeeper/timekeeperlaw05.DagPaths", spec := "dagPaths", recurses := true, apart := false, narrowed := true }
def DagPathsUptoSaid : Prop := dagPathsUptoRow.holds Try.pinned (OpenSpec.upto dagPathsSpec)

/-- 'timekeeperlaw05.DagBoth', WHERE WHAT IT READS IS OF BULK AT MOST 1048576: true; the input reads as it did. -/
def dagBothUptoRow : OpenClaim := { program := "ytmejjeeobhapfaa", sum := "ed7f19e814cc4174b099a61f1a3f86b04d734f0e950c68cb434604c94e97fe21", func := "timekeeper/timekeeperlaw05.DagBoth", spec := "dagBoth", recurses := true, apart := false, narrowed := true }
def DagBothUptoSaid : Prop := dagBothUptoRow.holds Try.pinned (OpenSpec.upto dagBothSpec)

end Rows
end Go.Proofs.Ytmejjeeobhapfaa
