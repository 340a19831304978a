/-
  NARROWER THAN 'FOR EVERY INPUT', by the rows' own cells (each row's printed sentence says how): ChordPlays: laid · IdealKnows: laid · IdealOwns: laid · IdealStays: laid · IdealCircle: laid.
  DERIVED. THE GIVEN ROWS OF THIS SEAT. 5 by the template 'for every input the law returns true; each argument reads behind the call as it read before'; 0 by the template 'total and deterministic' (their statements: YthbijjpaljjapaaGreatDoorTotals.lean).
  GIVEN WITH THE SEED: the statements are not yours to turn. If you find one false, say at which input.
  Laid BY PROGRAM, IN A SANDBOX (cutbox-rows.mjs): the forced cells as the released guide's own fill.sh prints them over the translation 18c6f691f1aaa914… (all of the seat's roots in one cut). By AI agents, Wed Nov 11 2026. No macro, syntax, notation, axiom, sorry.
-/
import Derived.Test.YthbijjpaljjapaaGreatDoorChecked
import GoSem.Claim
import GoSem.ClaimJoined
import GoSem.ClaimMapViews
import Derived.JoinedTies
import Derived.KernelRfl
namespace Go.Proofs.YthbijjpaljjapaaGreatDoor
/- THE CELL 'sum', in the pinned program and in every row, IS THE sha256 OF THE DUMP (.gsa) THAT YthbijjpaljjapaaGreatDoorProg.lean LOADS. Nothing in Lean hashes anything: it is a label: what it is worth is what the hold of that sum in a sandbox is worth. -/
noncomputable def Tryz.pinned : Pinned := { name := "ythbijjpaljjapaagreatdoor", sum := "18c6f691f1aaa914847d12bd5c140deb121259c944cafe5754aade82f1b5f9bb", checked := Tryz.checked }
namespace Rows
def none {H : Type} : Left H := { results := [], args := [] }

/- WHAT THE LISTED PACKAGE-LEVEL VARIABLES READ AS WHEN THE CALL BEGINS. Each datum BY PROGRAM (the guide's laid-datum.mjs) off the statement by which the dump's own 'gosem.cut.vars' lays the variable. In a bare row this is a premise. The card (YthbijjpaljjapaaGreatDoorCards.lean) ties it to the program's text. -/
def laid_errors_errorType {H : Type} : DataW H := .iface "internal/reflectlite.rtype" (.agg [.ptr (.lit (.string [101, 114, 114, 111, 114]))])

/-- 'wigwaglaw10.ChordPlays': WHATEVER THE INPUT: true; the input reads as it did. -/
def chordPlaysSpec : ChangeSpec := { name := "chordPlays", fn := fun _ => fun
  | [d1, d2] => { results := [.lit (.bool true)], args := [d1, d2] }
  | _ => none }
def chordPlaysRow : OpenClaim := { program := "ythbijjpaljjapaagreatdoor", sum := "18c6f691f1aaa914847d12bd5c140deb121259c944cafe5754aade82f1b5f9bb", func := "wigwag/wigwaglaw10.ChordPlays", spec := "chordPlays", inPlace := ["internal/reflectlite.ValueOf", "(internal/reflectlite.Value).Type", "(internal/reflectlite.Value).IsNil", "internal/reflectlite.TypeOf", "(internal/reflectlite.Value).Elem", "(internal/reflectlite.Value).Set"], unfollowed := true, recurses := true, named := ["errors.errorType"], apart := false, laid := [("errors.errorType", laid_errors_errorType)] }
def ChordPlaysSaid : Prop := chordPlaysRow.holds Tryz.pinned (OpenSpec.ofChange chordPlaysSpec)

/-- ITS FALSE NEIGHBOUR: 'it returns false'. Refute it at one input. -/
def chordPlaysWrong : ChangeSpec := { name := "chordPlays", fn := fun _ => fun
  | [d1, d2] => { results := [.lit (.bool false)], args := [d1, d2] }
  | _ => none }
def ChordPlaysWrongFalsely : Prop := chordPlaysRow.holds Tryz.pinned (OpenSpec.ofChange chordPlaysWrong)

/-- 'wigwaglaw11.IdealKnows': WHATEVER THE INPUT: true; the input reads as it did. -/
def idealKnowsSpec : ChangeSpec := { name := "idealKnows", fn := fun _ => fun
  | [d1, d2, d3, d4] => { results := [.lit (.bool true)], args := [d1, d2, d3, d4] }
  | _ => none }
def idealKnowsRow : OpenClaim := { program := "ythbijjpaljjapaagreatdoor", sum := "18c6f691f1aaa914847d12bd5c140deb121259c944cafe5754aade82f1b5f9bb", func := "wigwag/wigwaglaw11.IdealKnows", spec := "idealKnows", inPlace := ["internal/reflectlite.ValueOf", "(internal/reflectlite.Value).Type", "(internal/reflectlite.Value).IsNil", "internal/reflectlite.TypeOf", "(internal/reflectlite.Value).Elem", "(internal/reflectlite.Value).Set", "slices.overlaps[wigwag/api.Id]", "slices.overlaps[int]"], unfollowed := true, recurses := true, named := ["errors.errorType"], apart := false, laid := [("errors.errorType", laid_errors_errorType)] }
def IdealKnowsSaid : Prop := idealKnowsRow.holds Tryz.pinned (OpenSpec.ofChange idealKnowsSpec)

/-- ITS FALSE NEIGHBOUR: 'it returns false'. Refute it at one input. -/
def idealKnowsWrong : ChangeSpec := { name := "idealKnows", fn := fun _ => fun
  | [d1, d2, d3, d4] => { results := [.lit (.bool false)], args := [d1, d2, d3, d4] }
  | _ => none }
def IdealKnowsWrongFalsely : Prop := idealKnowsRow.holds Tryz.pinned (OpenSpec.ofChange idealKnowsWrong)

/-- 'wigwaglaw11.IdealOwns': WHATEVER THE INPUT: true; the input reads as it did. -/
def idealOwnsSpec : ChangeSpec := { name := "idealOwns", fn := fun _ => fun
  | [d1, d2, d3] => { results := [.lit (.bool true)], args := [d1, d2, d3] }
  | _ => none }
def idealOwnsRow : OpenClaim := { program := "ythbijjpaljjapaagreatdoor", sum := "18c6f691f1aaa914847d12bd5c140deb121259c944cafe5754aade82f1b5f9bb", func := "wigwag/wigwaglaw11.IdealOwns", spec := "idealOwns", inPlace := ["internal/reflectlite.ValueOf", "(internal/reflectlite.Value).Type", "(internal/reflectlite.Value).IsNil", "internal/reflectlite.TypeOf", "(internal/reflectlite.Value).Elem", "(internal/reflectlite.Value).Set", "slices.overlaps[wigwag/api.Id]", "slices.overlaps[int]"], unfollowed := true, recurses := true, named := ["errors.errorType"], apart := false, laid := [("errors.errorType", laid_errors_errorType)] }
def IdealOwnsSaid : Prop := idealOwnsRow.holds Tryz.pinned (OpenSpec.ofChange idealOwnsSpec)

/-- ITS FALSE NEIGHBOUR: 'it returns false'. Refute it at one input. -/
def idealOwnsWrong : ChangeSpec := { name := "idealOwns", fn := fun _ => fun
  | [d1, d2, d3] => { results := [.lit (.bool false)], args := [d1, d2, d3] }
  | _ => none }
def IdealOwnsWrongFalsely : Prop := idealOwnsRow.holds Tryz.pinned (OpenSpec.ofChange idealOwnsWrong)

/-- 'wigwaglaw11.IdealStays': WHATEVER THE INPUT: true; the input reads as it did. -/
def idealStaysSpec : ChangeSpec := { name := "idealStays", fn := fun _ => fun
  | [d1, d2, d3] => { results := [.lit (.bool true)], args := [d1, d2, d3] }
  | _ => none }
def idealStaysRow : OpenClaim := { program := "ythbijjpaljjapaagreatdoor", sum := "18c6f691f1aaa914847d12bd5c140deb121259c944cafe5754aade82f1b5f9bb", func := "wigwag/wigwaglaw11.IdealStays", spec := "idealStays", inPlace := ["internal/reflectlite.ValueOf", "(internal/reflectlite.Value).Type", "(internal/reflectlite.Value).IsNil", "internal/reflectlite.TypeOf", "(internal/reflectlite.Value).Elem", "(internal/reflectlite.Value).Set", "slices.overlaps[wigwag/api.Id]", "slices.overlaps[int]"], unfollowed := true, recurses := true, named := ["errors.errorType"], apart := false, laid := [("errors.errorType", laid_errors_errorType)] }
def IdealStaysSaid : Prop := idealStaysRow.holds Tryz.pinned (OpenSpec.ofChange idealStaysSpec)

/-- ITS FALSE NEIGHBOUR: 'it returns false'. Refute it at one input. -/
def idealStaysWrong : ChangeSpec := { name := "idealStays", fn := fun _ => fun
  | [d1, d2, d3] => { results := [.lit (.bool false)], args := [d1, d2, d3] }
  | _ => none }
def IdealStaysWrongFalsely : Prop := idealStaysRow.holds Tryz.pinned (OpenSpec.ofChange idealStaysWrong)

/-- 'wigwaglaw11.IdealCircle': WHATEVER THE INPUT: true; the input reads as it did. -/
def idealCircleSpec : ChangeSpec := { name := "idealCircle", fn := fun _ => fun
  | [d1, d2] => { results := [.lit (.bool true)], args := [d1, d2] }
  | _ => none }
def idealCircleRow : OpenClaim := { program := "ythbijjpaljjapaagreatdoor", sum := "18c6f691f1aaa914847d12bd5c140deb121259c944cafe5754aade82f1b5f9bb", func := "wigwag/wigwaglaw11.IdealCircle", spec := "idealCircle", inPlace := ["internal/reflectlite.ValueOf", "(internal/reflectlite.Value).Type", "(internal/reflectlite.Value).IsNil", "internal/reflectlite.TypeOf", "(internal/reflectlite.Value).Elem", "(internal/reflectlite.Value).Set", "slices.overlaps[wigwag/api.Id]", "slices.overlaps[int]"], unfollowed := true, recurses := true, named := ["errors.errorType"], apart := false, laid := [("errors.errorType", laid_errors_errorType)] }
def IdealCircleSaid : Prop := idealCircleRow.holds Tryz.pinned (OpenSpec.ofChange idealCircleSpec)

/-- ITS FALSE NEIGHBOUR: 'it returns false'. Refute it at one input. -/
def idealCircleWrong : ChangeSpec := { name := "idealCircle", fn := fun _ => fun
  | [d1, d2] => { results := [.lit (.bool false)], args := [d1, d2] }
  | _ => none }
def IdealCircleWrongFalsely : Prop := idealCircleRow.holds Tryz.pinned (OpenSpec.ofChange idealCircleWrong)

/- THE SECOND FORM. 'bulk': how many values and letters a reading holds, each counted each time it is reached (what is shared counts as often as it is met; a slice's spare places count too). A statement '..UptoSaid' is the law's where the arguments, and the package variables that the reading takes, are together of bulk at most 1048576: NARROWER than '..Said'. Prove '..Said' where nothing that the law and all that it calls make is longer than what came in: it says more and counts as full. Else prove '..UptoSaid'. A law counts once. -/
mutual
def uptoBulk {H : Type} : DataW H → Nat
  | .lit (.string bytes) => bytes.length + 1
  | .lit _ => 1
  | .nil => 1
  | .ptr d => uptoBulk d + 1
  | .slice elems spare => uptoBulkAll elems + uptoBulkAll spare + 1
  | .agg parts => uptoBulkAll parts + 1
  | .iface _ d => uptoBulk d + 1
  | .map entries => uptoBulkEntries entries + 1
  | .held _ => 1
def uptoBulkAll {H : Type} : List (DataW H) → Nat
  | [] => 0
  | d :: r => uptoBulk d + uptoBulkAll r
def uptoBulkEntries {H : Type} : List (Lit × DataW H) → Nat
  | [] => 0
  | x :: r => uptoBulkEntry x + uptoBulkEntries r
def uptoBulkEntry {H : Type} : Lit × DataW H → Nat
  | (.string bytes, d) => bytes.length + uptoBulk d + 1
  | (_, d) => uptoBulk d + 1
 end
def uptoSmall : (H : Type) → List (DataW H) → Bool := fun _ ds => decide (uptoBulkAll ds ≤ 1048576)
def OpenSpec.upto (s : _root_.Go.ChangeSpec) : _root_.Go.OpenSpec := { _root_.Go.OpenSpec.ofChange s with cond := some uptoSmall }

/-- 'wigwaglaw10.ChordPlays', WHERE WHAT IT READS IS OF BULK AT MOST 1048576: true; the input reads as it did. -/
def chordPlaysUptoRow : OpenClaim := { program := "ythbijjpaljjapaagreatdoor", sum := "18c6f691f1aaa914847d12bd5c140deb121259c944cafe5754aade82f1b5f9bb", func := "wigwag/wigwaglaw10.ChordPlays", spec := "chordPlays", inPlace := ["internal/reflectlite.ValueOf", "(internal/reflectlite.Value).Type", "(internal/reflectlite.Value).IsNil", "internal/reflectlite.TypeOf", "(internal/reflectlite.Value).Elem", "(internal/reflectlite.Value).Set"], unfollowed := true, recurses := true, named := ["errors.errorType"], apart := false, laid := [("errors.errorType", laid_errors_errorType)], narrowed := true }
def ChordPlaysUptoSaid : Prop := chordPlaysUptoRow.holds Tryz.pinned (OpenSpec.upto chordPlaysSpec)

/-- 'wigwaglaw11.IdealKnows', WHERE WHAT IT READS IS OF BULK AT MOST 1048576: true; the input reads as it did. -/
def idealKnowsUptoRow : OpenClaim := { program := "ythbijjpaljjapaagreatdoor", sum := "18c6f691f1aaa914847d12bd5c140deb121259c944cafe5754aade82f1b5f9bb", func := "wigwag/wigwaglaw11.IdealKnows", spec := "idealKnows", inPlace := ["internal/reflectlite.ValueOf", "(internal/reflectlite.Value).Type", "(internal/reflectlite.Value).IsNil", "internal/reflectlite.TypeOf", "(internal/reflectlite.Value).Elem", "(internal/reflectlite.Value).Set", "slices.overlaps[wigwag/api.Id]", "slices.overlaps[int]"], unfollowed := true, recurses := true, named := ["errors.errorType"], apart := false, laid := [("errors.errorType", laid_errors_errorType)], narrowed := true }
def IdealKnowsUptoSaid : Prop := idealKnowsUptoRow.holds Tryz.pinned (OpenSpec.upto idealKnowsSpec)

/-- 'wigwaglaw11.IdealOwns', WHERE WHAT IT READS IS OF BULK AT MOST 1048576: true; the input reads as it did. -/
def idealOwnsUptoRow : OpenClaim := { program := "ythbijjpaljjapaagreatdoor", sum := "18c6f691f1aaa914847d12bd5c140deb121259c944cafe5754aade82f1b5f9bb", func := "wigwag/wigwaglaw11.IdealOwns", spec := "idealOwns", inPlace := ["internal/reflectlite.ValueOf", "(internal/reflectlite.Value).Type", "(internal/reflectlite.Value).IsNil", "internal/reflectlite.TypeOf", "(internal/reflectlite.Value).Elem", "(internal/reflectlite.Value).Set", "slices.overlaps[wigwag/api.Id]", "slices.overlaps[int]"], unfollowed := true, recurses := true, named := ["errors.errorType"], apart := false, laid := [("errors.errorType", laid_errors_errorType)], narrowed := true }
def IdealOwnsUptoSaid : Prop := idealOwnsUptoRow.holds Tryz.pinned (OpenSpec.upto idealOwnsSpec)

/-- 'wigwaglaw11.IdealStays', WHERE WHAT IT READS IS OF BULK AT MOST 1048576: true; the input reads as it did. -/
def idealStaysUptoRow : OpenClaim := { program := "ythbijjpaljjapaagreatdoor", sum := "18c6f691f1aaa914847d12bd5c140deb121259c944cafe5754aade82f1b5f9bb", func := "wigwag/wigwaglaw11.IdealStays", spec := "idealStays", inPlace := ["internal/reflectlite.ValueOf", "(internal/reflectlite.Value).Type", "(internal/reflectlite.Value).IsNil", "internal/reflectlite.TypeOf", "(internal/reflectlite.Value).Elem", "(internal/reflectlite.Value).Set", "slices.overlaps[wigwag/api.Id]", "slices.overlaps[int]"], unfollowed := true, recurses := true, named := ["errors.errorType"], apart := false, laid := [("errors.errorType", laid_errors_errorType)], narrowed := true }
def IdealStaysUptoSaid : Prop := idealStaysUptoRow.holds Tryz.pinned (OpenSpec.upto idealStaysSpec)

/-- 'wigwaglaw11.IdealCircle', WHERE WHAT IT READS IS OF BULK AT MOST 1048576: true; the input reads as it did. -/
def idealCircleUptoRow : OpenClaim := { program := "ythbijjpaljjapaagreatdoor", sum := "18c6f691f1aaa914847d12bd5c140deb121259c944cafe5754aade82f1b5f9bb", func := "wigwag/wigwaglaw11.IdealCircle", spec := "idealCircle", inPlace := ["internal/reflectlite.ValueOf", "(internal/reflectlite.Value).Type", "(internal/reflectlite.Value).IsNil", "internal/reflectlite.TypeOf", "(internal/reflectlite.Value).Elem", "(internal/reflectlite.Value).Set", "slices.overlaps[wigwag/api.Id]", "slices.overlaps[int]"], unfollowed := true, recurses := true, named := ["errors.errorType"], apart := false, laid := [("errors.errorType", laid_errors_errorType)], narrowed := true }
def IdealCircleUptoSaid : Prop := idealCircleUptoRow.holds Tryz.pinned (OpenSpec.upto idealCircleSpec)

end Rows
end Go.Proofs.YthbijjpaljjapaaGreatDoor
