/-
  NARROWER THAN 'FOR EVERY INPUT', by the rows' own cells (each row's printed sentence says how): RouteSteps: laid · RouteNears: laid · RoutePlays: laid · RouteOwn: laid · RouteCalm: laid · TreeCalm: laid.
  DERIVED. THE GIVEN ROWS OF THIS SEAT. 6 by the template 'for every input the law returns true; each argument reads behind the call as it read before'; 0 by the template 'total and deterministic' (their statements: YtbhaapkafgieiaaGreatDoorTotals.lean).
  GIVEN WITH THE SEED: the statements are not yours to turn. If you find one false, say at which input.
  Laid BY PROGRAM, IN A SANDBOX (cutbox-rows.mjs): the forced cells as the released guide's own fill.sh prints them over the translation a5e07848c004326f… (all of the seat's roots in one cut). By AI agents, Wed Nov 11 2026. No macro, syntax, notation, axiom, sorry.
-/
import Derived.Test.YtbhaapkafgieiaaGreatDoorChecked
import GoSem.Claim
import GoSem.ClaimJoined
import GoSem.ClaimMapViews
import Derived.JoinedTies
import Derived.KernelRfl
namespace Go.Proofs.YtbhaapkafgieiaaGreatDoor
/- THE CELL 'sum', in the pinned program and in every row, IS THE sha256 OF THE DUMP (.gsa) THAT YtbhaapkafgieiaaGreatDoorProg.lean LOADS. Nothing in Lean hashes anything: it is a label: what it is worth is what the hold of that sum in a sandbox is worth. -/
noncomputable def Tryz.pinned : Pinned := { name := "ytbhaapkafgieiaagreatdoor", sum := "a5e07848c004326fc34f30114d3cf8539dce0ef8ccd7aac5ed6f37cec5cdc3db", checked := Tryz.checked }
namespace Rows
def none {H : Type} : Left H := { results := [], args := [] }

/- WHAT THE LISTED PACKAGE-LEVEL VARIABLES READ AS WHEN THE CALL BEGINS. Each datum BY PROGRAM (the guide's laid-datum.mjs) off the statement by which the dump's own 'gosem.cut.vars' lays the variable. In a bare row this is a premise. The card (YtbhaapkafgieiaaGreatDoorCards.lean) ties it to the program's text. -/
def laid_errors_errorType {H : Type} : DataW H := .iface "internal/reflectlite.rtype" (.agg [.ptr (.lit (.string [101, 114, 114, 111, 114]))])

/-- 'wigwaglaw12.RouteSteps': WHATEVER THE INPUT: true; the input reads as it did. -/
def routeStepsSpec : ChangeSpec := { name := "routeSteps", fn := fun _ => fun
  | [d1, d2, d3, d4] => { results := [.lit (.bool true)], args := [d1, d2, d3, d4] }
  | _ => none }
def routeStepsRow : OpenClaim := { program := "ytbhaapkafgieiaagreatdoor", sum := "a5e07848c004326fc34f30114d3cf8539dce0ef8ccd7aac5ed6f37cec5cdc3db", func := "wigwag/wigwaglaw12.RouteSteps", spec := "routeSteps", inPlace := ["internal/reflectlite.ValueOf", "(internal/reflectlite.Value).Type", "(internal/reflectlite.Value).IsNil", "internal/reflectlite.TypeOf", "(internal/reflectlite.Value).Elem", "(internal/reflectlite.Value).Set"], unfollowed := true, recurses := true, named := ["errors.errorType"], apart := false, laid := [("errors.errorType", laid_errors_errorType)] }
def RouteStepsSaid : Prop := routeStepsRow.holds Tryz.pinned (OpenSpec.ofChange routeStepsSpec)

/-- ITS FALSE NEIGHBOUR: 'it returns false'. Refute it at one input. -/
def routeStepsWrong : ChangeSpec := { name := "routeSteps", fn := fun _ => fun
  | [d1, d2, d3, d4] => { results := [.lit (.bool false)], args := [d1, d2, d3, d4] }
  | _ => none }
def RouteStepsWrongFalsely : Prop := routeStepsRow.holds Tryz.pinned (OpenSpec.ofChange routeStepsWrong)

/-- 'wigwaglaw12.RouteNears': WHATEVER THE INPUT: true; the input reads as it did. -/
def routeNearsSpec : ChangeSpec := { name := "routeNears", fn := fun _ => fun
  | [d1, d2, d3, d4] => { results := [.lit (.bool true)], args := [d1, d2, d3, d4] }
  | _ => none }
def routeNearsRow : OpenClaim := { program := "ytbhaapkafgieiaagreatdoor", sum := "a5e07848c004326fc34f30114d3cf8539dce0ef8ccd7aac5ed6f37cec5cdc3db", func := "wigwag/wigwaglaw12.RouteNears", spec := "routeNears", inPlace := ["internal/reflectlite.ValueOf", "(internal/reflectlite.Value).Type", "(internal/reflectlite.Value).IsNil", "internal/reflectlite.TypeOf", "(internal/reflectlite.Value).Elem", "(internal/reflectlite.Value).Set"], unfollowed := true, recurses := true, named := ["errors.errorType"], apart := false, laid := [("errors.errorType", laid_errors_errorType)] }
def RouteNearsSaid : Prop := routeNearsRow.holds Tryz.pinned (OpenSpec.ofChange routeNearsSpec)

/-- ITS FALSE NEIGHBOUR: 'it returns false'. Refute it at one input. -/
def routeNearsWrong : ChangeSpec := { name := "routeNears", fn := fun _ => fun
  | [d1, d2, d3, d4] => { results := [.lit (.bool false)], args := [d1, d2, d3, d4] }
  | _ => none }
def RouteNearsWrongFalsely : Prop := routeNearsRow.holds Tryz.pinned (OpenSpec.ofChange routeNearsWrong)

/-- 'wigwaglaw12.RoutePlays': WHATEVER THE INPUT: true; the input reads as it did. -/
def routePlaysSpec : ChangeSpec := { name := "routePlays", fn := fun _ => fun
  | [d1, d2, d3, d4, d5] => { results := [.lit (.bool true)], args := [d1, d2, d3, d4, d5] }
  | _ => none }
def routePlaysRow : OpenClaim := { program := "ytbhaapkafgieiaagreatdoor", sum := "a5e07848c004326fc34f30114d3cf8539dce0ef8ccd7aac5ed6f37cec5cdc3db", func := "wigwag/wigwaglaw12.RoutePlays", spec := "routePlays", inPlace := ["internal/reflectlite.ValueOf", "(internal/reflectlite.Value).Type", "(internal/reflectlite.Value).IsNil", "internal/reflectlite.TypeOf", "(internal/reflectlite.Value).Elem", "(internal/reflectlite.Value).Set"], unfollowed := true, recurses := true, named := ["errors.errorType"], apart := false, laid := [("errors.errorType", laid_errors_errorType)] }
def RoutePlaysSaid : Prop := routePlaysRow.holds Tryz.pinned (OpenSpec.ofChange routePlaysSpec)

/-- ITS FALSE NEIGHBOUR: 'it returns false'. Refute it at one input. -/
def routePlaysWrong : ChangeSpec := { name := "routePlays", fn := fun _ => fun
  | [d1, d2, d3, d4, d5] => { results := [.lit (.bool false)], args := [d1, d2, d3, d4, d5] }
  | _ => none }
def RoutePlaysWrongFalsely : Prop := routePlaysRow.holds Tryz.pinned (OpenSpec.ofChange routePlaysWrong)

/-- 'wigwaglaw12.RouteOwn': WHATEVER THE INPUT: true; the input reads as it did. -/
def routeOwnSpec : ChangeSpec := { name := "routeOwn", fn := fun _ => fun
  | [d1, d2, d3] => { results := [.lit (.bool true)], args := [d1, d2, d3] }
  | _ => none }
def routeOwnRow : OpenClaim := { program := "ytbhaapkafgieiaagreatdoor", sum := "a5e07848c004326fc34f30114d3cf8539dce0ef8ccd7aac5ed6f37cec5cdc3db", func := "wigwag/wigwaglaw12.RouteOwn", spec := "routeOwn", inPlace := ["internal/reflectlite.ValueOf", "(internal/reflectlite.Value).Type", "(internal/reflectlite.Value).IsNil", "internal/reflectlite.TypeOf", "(internal/reflectlite.Value).Elem", "(internal/reflectlite.Value).Set", "slices.overlaps[wigwag/api.Id]", "slices.overlaps[int]"], unfollowed := true, recurses := true, named := ["errors.errorType"], apart := false, laid := [("errors.errorType", laid_errors_errorType)] }
def RouteOwnSaid : Prop := routeOwnRow.holds Tryz.pinned (OpenSpec.ofChange routeOwnSpec)

/-- ITS FALSE NEIGHBOUR: 'it returns false'. Refute it at one input. -/
def routeOwnWrong : ChangeSpec := { name := "routeOwn", fn := fun _ => fun
  | [d1, d2, d3] => { results := [.lit (.bool false)], args := [d1, d2, d3] }
  | _ => none }
def RouteOwnWrongFalsely : Prop := routeOwnRow.holds Tryz.pinned (OpenSpec.ofChange routeOwnWrong)

/-- 'wigwaglaw12.RouteCalm': WHATEVER THE INPUT: true; the input reads as it did. -/
def routeCalmSpec : ChangeSpec := { name := "routeCalm", fn := fun _ => fun
  | [d1, d2, d3, d4] => { results := [.lit (.bool true)], args := [d1, d2, d3, d4] }
  | _ => none }
def routeCalmRow : OpenClaim := { program := "ytbhaapkafgieiaagreatdoor", sum := "a5e07848c004326fc34f30114d3cf8539dce0ef8ccd7aac5ed6f37cec5cdc3db", func := "wigwag/wigwaglaw12.RouteCalm", spec := "routeCalm", inPlace := ["internal/reflectlite.ValueOf", "(internal/reflectlite.Value).Type", "(internal/reflectlite.Value).IsNil", "internal/reflectlite.TypeOf", "(internal/reflectlite.Value).Elem", "(internal/reflectlite.Value).Set", "slices.overlaps[wigwag/api.Id]", "slices.overlaps[int]"], unfollowed := true, recurses := true, named := ["errors.errorType"], apart := false, laid := [("errors.errorType", laid_errors_errorType)] }
def RouteCalmSaid : Prop := routeCalmRow.holds Tryz.pinned (OpenSpec.ofChange routeCalmSpec)

/-- ITS FALSE NEIGHBOUR: 'it returns false'. Refute it at one input. -/
def routeCalmWrong : ChangeSpec := { name := "routeCalm", fn := fun _ => fun
  | [d1, d2, d3, d4] => { results := [.lit (.bool false)], args := [d1, d2, d3, d4] }
  | _ => none }
def RouteCalmWrongFalsely : Prop := routeCalmRow.holds Tryz.pinned (OpenSpec.ofChange routeCalmWrong)

/-- 'wigwaglaw20.TreeCalm': WHATEVER THE INPUT: true; the input reads as it did. -/
def treeCalmSpec : ChangeSpec := { name := "treeCalm", fn := fun _ => fun
  | [d1, d2, d3, d4] => { results := [.lit (.bool true)], args := [d1, d2, d3, d4] }
  | _ => none }
def treeCalmRow : OpenClaim := { program := "ytbhaapkafgieiaagreatdoor", sum := "a5e07848c004326fc34f30114d3cf8539dce0ef8ccd7aac5ed6f37cec5cdc3db", func := "wigwag/wigwaglaw20.TreeCalm", spec := "treeCalm", inPlace := ["internal/reflectlite.ValueOf", "(internal/reflectlite.Value).Type", "(internal/reflectlite.Value).IsNil", "internal/reflectlite.TypeOf", "(internal/reflectlite.Value).Elem", "(internal/reflectlite.Value).Set", "slices.overlaps[wigwag/api.Id]", "slices.overlaps[int]"], unfollowed := true, recurses := true, named := ["errors.errorType"], apart := false, laid := [("errors.errorType", laid_errors_errorType)] }
def TreeCalmSaid : Prop := treeCalmRow.holds Tryz.pinned (OpenSpec.ofChange treeCalmSpec)

/-- ITS FALSE NEIGHBOUR: 'it returns false'. Refute it at one input. -/
def treeCalmWrong : ChangeSpec := { name := "treeCalm", fn := fun _ => fun
  | [d1, d2, d3, d4] => { results := [.lit (.bool false)], args := [d1, d2, d3, d4] }
  | _ => none }
def TreeCalmWrongFalsely : Prop := treeCalmRow.holds Tryz.pinned (OpenSpec.ofChange treeCalmWrong)

/- THE SECOND FORM. 'bulk': how many values and letters a reading holds, each counted each time it is reached (what is shared counts as often as it is met; a slice's spare places count too). A statement '..UptoSaid' is the law's where the arguments, and the package variables that the reading takes, are together of bulk at most 1048576: NARROWER than '..Said'. Prove '..Said' where nothing that the law and all that it calls make is longer than what came in: it says more and counts as full. Else prove '..UptoSaid'. A law counts once. -/
mutual
def uptoBulk {H : Type} : DataW H → Nat
  | .lit (.string bytes) => bytes.length + 1
  | .lit _ => 1
  | .nil => 1
  | .ptr d => uptoBulk d + 1
  | .slice elems spare => uptoBulkAll elems + uptoBulkAll spare + 1
  | .agg parts => uptoBulkAll parts + 1
  | .iface _ d => uptoBulk d + 1
  | .map entries => uptoBulkEntries entries + 1
  | .held _ => 1
def uptoBulkAll {H : Type} : List (DataW H) → Nat
  | [] => 0
  | d :: r => uptoBulk d + uptoBulkAll r
def uptoBulkEntries {H : Type} : List (Lit × DataW H) → Nat
  | [] => 0
  | x :: r => uptoBulkEntry x + uptoBulkEntries r
def uptoBulkEntry {H : Type} : Lit × DataW H → Nat
  | (.string bytes, d) => bytes.length + uptoBulk d + 1
  | (_, d) => uptoBulk d + 1
 end
def uptoSmall : (H : Type) → List (DataW H) → Bool := fun _ ds => decide (uptoBulkAll ds ≤ 1048576)
def OpenSpec.upto (s : _root_.Go.ChangeSpec) : _root_.Go.OpenSpec := { _root_.Go.OpenSpec.ofChange s with cond := some uptoSmall }

/-- 'wigwaglaw12.RouteSteps', WHERE WHAT IT READS IS OF BULK AT MOST 1048576: true; the input reads as it did. -/
def routeStepsUptoRow : OpenClaim := { program := "ytbhaapkafgieiaagreatdoor", sum := "a5e07848c004326fc34f30114d3cf8539dce0ef8ccd7aac5ed6f37cec5cdc3db", func := "wigwag/wigwaglaw12.RouteSteps", spec := "routeSteps", inPlace := ["internal/reflectlite.ValueOf", "(internal/reflectlite.Value).Type", "(internal/reflectlite.Value).IsNil", "internal/reflectlite.TypeOf", "(internal/reflectlite.Value).Elem", "(internal/reflectlite.Value).Set"], unfollowed := true, recurses := true, named := ["errors.errorType"], apart := false, laid := [("errors.errorType", laid_errors_errorType)], narrowed := true }
def RouteStepsUptoSaid : Prop := routeStepsUptoRow.holds Tryz.pinned (OpenSpec.upto routeStepsSpec)

/-- 'wigwaglaw12.RouteNears', WHERE WHAT IT READS IS OF BULK AT MOST 1048576: true; the input reads as it did. -/
def routeNearsUptoRow : OpenClaim := { program := "ytbhaapkafgieiaagreatdoor", sum := "a5e07848c004326fc34f30114d3cf8539dce0ef8ccd7aac5ed6f37cec5cdc3db", func := "wigwag/wigwaglaw12.RouteNears", spec := "routeNears", inPlace := ["internal/reflectlite.ValueOf", "(internal/reflectlite.Value).Type", "(internal/reflectlite.Value).IsNil", "internal/reflectlite.TypeOf", "(internal/reflectlite.Value).Elem", "(internal/reflectlite.Value).Set"], unfollowed := true, recurses := true, named := ["errors.errorType"], apart := false, laid := [("errors.errorType", laid_errors_errorType)], narrowed := true }
def RouteNearsUptoSaid : Prop := routeNearsUptoRow.holds Tryz.pinned (OpenSpec.upto routeNearsSpec)

/-- 'wigwaglaw12.RoutePlays', WHERE WHAT IT READS IS OF BULK AT MOST 1048576: true; the input reads as it did. -/
def routePlaysUptoRow : OpenClaim := { program := "ytbhaapkafgieiaagreatdoor", sum := "a5e07848c004326fc34f30114d3cf8539dce0ef8ccd7aac5ed6f37cec5cdc3db", func := "wigwag/wigwaglaw12.RoutePlays", spec := "routePlays", inPlace := ["internal/reflectlite.ValueOf", "(internal/reflectlite.Value).Type", "(internal/reflectlite.Value).IsNil", "internal/reflectlite.TypeOf", "(internal/reflectlite.Value).Elem", "(internal/reflectlite.Value).Set"], unfollowed := true, recurses := true, named := ["errors.errorType"], apart := false, laid := [("errors.errorType", laid_errors_errorType)], narrowed := true }
def RoutePlaysUptoSaid : Prop := routePlaysUptoRow.holds Tryz.pinned (OpenSpec.upto routePlaysSpec)

/-- 'wigwaglaw12.RouteOwn', WHERE WHAT IT READS IS OF BULK AT MOST 1048576: true; the input reads as it did. -/
def routeOwnUptoRow : OpenClaim := { program := "ytbhaapkafgieiaagreatdoor", sum := "a5e07848c004326fc34f30114d3cf8539dce0ef8ccd7aac5ed6f37cec5cdc3db", func := "wigwag/wigwaglaw12.RouteOwn", spec := "routeOwn", inPlace := ["internal/reflectlite.ValueOf", "(internal/reflectlite.Value).Type", "(internal/reflectlite.Value).IsNil", "internal/reflectlite.TypeOf", "(internal/reflectlite.Value).Elem", "(internal/reflectlite.Value).Set", "slices.overlaps[wigwag/api.Id]", "slices.overlaps[int]"], unfollowed := true, recurses := true, named := ["errors.errorType"], apart := false, laid := [("errors.errorType", laid_errors_errorType)], narrowed := true }
def RouteOwnUptoSaid : Prop := routeOwnUptoRow.holds Tryz.pinned (OpenSpec.upto routeOwnSpec)

/-- 'wigwaglaw12.RouteCalm', WHERE WHAT IT READS IS OF BULK AT MOST 1048576: true; the input reads as it did. -/
def routeCalmUptoRow : OpenClaim := { program := "ytbhaapkafgieiaagreatdoor", sum := "a5e07848c004326fc34f30114d3cf8539dce0ef8ccd7aac5ed6f37cec5cdc3db", func := "wigwag/wigwaglaw12.RouteCalm", spec := "routeCalm", inPlace := ["internal/reflectlite.ValueOf", "(internal/reflectlite.Value).Type", "(internal/reflectlite.Value).IsNil", "internal/reflectlite.TypeOf", "(internal/reflectlite.Value).Elem", "(internal/reflectlite.Value).Set", "slices.overlaps[wigwag/api.Id]", "slices.overlaps[int]"], unfollowed := true, recurses := true, named := ["errors.errorType"], apart := false, laid := [("errors.errorType", laid_errors_errorType)], narrowed := true }
def RouteCalmUptoSaid : Prop := routeCalmUptoRow.holds Tryz.pinned (OpenSpec.upto routeCalmSpec)

/-- 'wigwaglaw20.TreeCalm', WHERE WHAT IT READS IS OF BULK AT MOST 1048576: true; the input reads as it did. -/
def treeCalmUptoRow : OpenClaim := { program := "ytbhaapkafgieiaagreatdoor", sum := "a5e07848c004326fc34f30114d3cf8539dce0ef8ccd7aac5ed6f37cec5cdc3db", func := "wigwag/wigwaglaw20.TreeCalm", spec := "treeCalm", inPlace := ["internal/reflectlite.ValueOf", "(internal/reflectlite.Value).Type", "(internal/reflectlite.Value).IsNil", "internal/reflectlite.TypeOf", "(internal/reflectlite.Value).Elem", "(internal/reflectlite.Value).Set", "slices.overlaps[wigwag/api.Id]", "slices.overlaps[int]"], unfollowed := true, recurses := true, named := ["errors.errorType"], apart := false, laid := [("errors.errorType", laid_errors_errorType)], narrowed := true }
def TreeCalmUptoSaid : Prop := treeCalmUptoRow.holds Tryz.pinned (OpenSpec.upto treeCalmSpec)

end Rows
end Go.Proofs.YtbhaapkafgieiaaGreatDoor
