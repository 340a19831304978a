/-
  NARROWER THAN 'FOR EVERY INPUT', by the rows' own cells (each row's printed sentence says how): RdvPlans: laid · RdvFew: laid · RdvOwner: laid · RdvStores: laid · RdvKept: laid.
  DERIVED. THE GIVEN ROWS OF THIS SEAT. 5 by the template 'for every input the law returns true; each argument reads behind the call as it read before'; 0 by the template 'total and deterministic' (their statements: YtahiahjhpakeiaaGreatDoorTotals.lean).
  GIVEN WITH THE SEED: the statements are not yours to turn. If you find one false, say at which input.
  Laid BY PROGRAM, IN A SANDBOX (cutbox-rows.mjs): the forced cells as the released guide's own fill.sh prints them over the translation 39ac181679e7d556… (all of the seat's roots in one cut). By AI agents, Wed Nov 11 2026. No macro, syntax, notation, axiom, sorry.
-/
import Derived.Test.YtahiahjhpakeiaaGreatDoorChecked
import GoSem.Claim
import GoSem.ClaimJoined
import GoSem.ClaimMapViews
import Derived.JoinedTies
import Derived.KernelRfl
namespace Go.Proofs.YtahiahjhpakeiaaGreatDoor
/- THE CELL 'sum', in the pinned program and in every row, IS THE sha256 OF THE DUMP (.gsa) THAT YtahiahjhpakeiaaGreatDoorProg.lean LOADS. Nothing in Lean hashes anything: it is a label: what it is worth is what the hold of that sum in a sandbox is worth. -/
noncomputable def Tryz.pinned : Pinned := { name := "ytahiahjhpakeiaagreatdoor", sum := "39ac181679e7d5565580b263feb52567478fa9472d8a831b0903702623625d13", checked := Tryz.checked }
namespace Rows
def none {H : Type} : Left H := { results := [], args := [] }

/- WHAT THE LISTED PACKAGE-LEVEL VARIABLES READ AS WHEN THE CALL BEGINS. Each datum BY PROGRAM (the guide's laid-datum.mjs) off the statement by which the dump's own 'gosem.cut.vars' lays the variable. In a bare row this is a premise. The card (YtahiahjhpakeiaaGreatDoorCards.lean) ties it to the program's text. -/
def laid_errors_errorType {H : Type} : DataW H := .iface "internal/reflectlite.rtype" (.agg [.ptr (.lit (.string [101, 114, 114, 111, 114]))])

/-- 'wigwaglaw21.RdvPlans': WHATEVER THE INPUT: true; the input reads as it did. -/
def rdvPlansSpec : ChangeSpec := { name := "rdvPlans", fn := fun _ => fun
  | [d1, d2, d3, d4] => { results := [.lit (.bool true)], args := [d1, d2, d3, d4] }
  | _ => none }
def rdvPlansRow : OpenClaim := { program := "ytahiahjhpakeiaagreatdoor", sum := "39ac181679e7d5565580b263feb52567478fa9472d8a831b0903702623625d13", func := "wigwag/wigwaglaw21.RdvPlans", spec := "rdvPlans", inPlace := ["internal/reflectlite.ValueOf", "(internal/reflectlite.Value).Type", "(internal/reflectlite.Value).IsNil", "internal/reflectlite.TypeOf", "(internal/reflectlite.Value).Elem", "(internal/reflectlite.Value).Set", "slices.overlaps[wigwag/api.Id]", "slices.overlaps[int]", "slices.overlaps[wigwag/table.Entry]"], unfollowed := true, recurses := true, named := ["errors.errorType"], apart := false, laid := [("errors.errorType", laid_errors_errorType)] }
def RdvPlansSaid : Prop := rdvPlansRow.holds Tryz.pinned (OpenSpec.ofChange rdvPlansSpec)

/-- ITS FALSE NEIGHBOUR: 'it returns false'. Refute it at one input. -/
def rdvPlansWrong : ChangeSpec := { name := "rdvPlans", fn := fun _ => fun
  | [d1, d2, d3, d4] => { results := [.lit (.bool false)], args := [d1, d2, d3, d4] }
  | _ => none }
def RdvPlansWrongFalsely : Prop := rdvPlansRow.holds Tryz.pinned (OpenSpec.ofChange rdvPlansWrong)

/-- 'wigwaglaw21.RdvFew': WHATEVER THE INPUT: true; the input reads as it did. -/
def rdvFewSpec : ChangeSpec := { name := "rdvFew", fn := fun _ => fun
  | [d1, d2] => { results := [.lit (.bool true)], args := [d1, d2] }
  | _ => none }
def rdvFewRow : OpenClaim := { program := "ytahiahjhpakeiaagreatdoor", sum := "39ac181679e7d5565580b263feb52567478fa9472d8a831b0903702623625d13", func := "wigwag/wigwaglaw21.RdvFew", spec := "rdvFew", inPlace := ["internal/reflectlite.ValueOf", "(internal/reflectlite.Value).Type", "(internal/reflectlite.Value).IsNil", "internal/reflectlite.TypeOf", "(internal/reflectlite.Value).Elem", "(internal/reflectlite.Value).Set", "slices.overlaps[wigwag/api.Id]", "slices.overlaps[int]", "slices.overlaps[wigwag/table.Entry]"], unfollowed := true, recurses := true, named := ["errors.errorType"], apart := false, laid := [("errors.errorType", laid_errors_errorType)] }
def RdvFewSaid : Prop := rdvFewRow.holds Tryz.pinned (OpenSpec.ofChange rdvFewSpec)

/-- ITS FALSE NEIGHBOUR: 'it returns false'. Refute it at one input. -/
def rdvFewWrong : ChangeSpec := { name := "rdvFew", fn := fun _ => fun
  | [d1, d2] => { results := [.lit (.bool false)], args := [d1, d2] }
  | _ => none }
def RdvFewWrongFalsely : Prop := rdvFewRow.holds Tryz.pinned (OpenSpec.ofChange rdvFewWrong)

/-- 'wigwaglaw21.RdvOwner': WHATEVER THE INPUT: true; the input reads as it did. -/
def rdvOwnerSpec : ChangeSpec := { name := "rdvOwner", fn := fun _ => fun
  | [d1, d2] => { results := [.lit (.bool true)], args := [d1, d2] }
  | _ => none }
def rdvOwnerRow : OpenClaim := { program := "ytahiahjhpakeiaagreatdoor", sum := "39ac181679e7d5565580b263feb52567478fa9472d8a831b0903702623625d13", func := "wigwag/wigwaglaw21.RdvOwner", spec := "rdvOwner", inPlace := ["internal/reflectlite.ValueOf", "(internal/reflectlite.Value).Type", "(internal/reflectlite.Value).IsNil", "internal/reflectlite.TypeOf", "(internal/reflectlite.Value).Elem", "(internal/reflectlite.Value).Set", "slices.overlaps[wigwag/api.Id]", "slices.overlaps[int]", "slices.overlaps[wigwag/table.Entry]"], unfollowed := true, recurses := true, named := ["errors.errorType"], apart := false, laid := [("errors.errorType", laid_errors_errorType)] }
def RdvOwnerSaid : Prop := rdvOwnerRow.holds Tryz.pinned (OpenSpec.ofChange rdvOwnerSpec)

/-- ITS FALSE NEIGHBOUR: 'it returns false'. Refute it at one input. -/
def rdvOwnerWrong : ChangeSpec := { name := "rdvOwner", fn := fun _ => fun
  | [d1, d2] => { results := [.lit (.bool false)], args := [d1, d2] }
  | _ => none }
def RdvOwnerWrongFalsely : Prop := rdvOwnerRow.holds Tryz.pinned (OpenSpec.ofChange rdvOwnerWrong)

/-- 'wigwaglaw21.RdvStores': WHATEVER THE INPUT: true; the input reads as it did. -/
def rdvStoresSpec : ChangeSpec := { name := "rdvStores", fn := fun _ => fun
  | [d] => { results := [.lit (.bool true)], args := [d] }
  | _ => none }
def rdvStoresRow : OpenClaim := { program := "ytahiahjhpakeiaagreatdoor", sum := "39ac181679e7d5565580b263feb52567478fa9472d8a831b0903702623625d13", func := "wigwag/wigwaglaw21.RdvStores", spec := "rdvStores", inPlace := ["internal/reflectlite.ValueOf", "(internal/reflectlite.Value).Type", "(internal/reflectlite.Value).IsNil", "internal/reflectlite.TypeOf", "(internal/reflectlite.Value).Elem", "(internal/reflectlite.Value).Set", "slices.overlaps[wigwag/api.Id]", "slices.overlaps[int]", "slices.overlaps[wigwag/table.Entry]"], unfollowed := true, recurses := true, named := ["errors.errorType"], apart := false, laid := [("errors.errorType", laid_errors_errorType)] }
def RdvStoresSaid : Prop := rdvStoresRow.holds Tryz.pinned (OpenSpec.ofChange rdvStoresSpec)

/-- ITS FALSE NEIGHBOUR: 'it returns false'. Refute it at one input. -/
def rdvStoresWrong : ChangeSpec := { name := "rdvStores", fn := fun _ => fun
  | [d] => { results := [.lit (.bool false)], args := [d] }
  | _ => none }
def RdvStoresWrongFalsely : Prop := rdvStoresRow.holds Tryz.pinned (OpenSpec.ofChange rdvStoresWrong)

/-- 'wigwaglaw21.RdvKept': WHATEVER THE INPUT: true; the input reads as it did. -/
def rdvKeptSpec : ChangeSpec := { name := "rdvKept", fn := fun _ => fun
  | [d] => { results := [.lit (.bool true)], args := [d] }
  | _ => none }
def rdvKeptRow : OpenClaim := { program := "ytahiahjhpakeiaagreatdoor", sum := "39ac181679e7d5565580b263feb52567478fa9472d8a831b0903702623625d13", func := "wigwag/wigwaglaw21.RdvKept", spec := "rdvKept", inPlace := ["internal/reflectlite.ValueOf", "(internal/reflectlite.Value).Type", "(internal/reflectlite.Value).IsNil", "internal/reflectlite.TypeOf", "(internal/reflectlite.Value).Elem", "(internal/reflectlite.Value).Set", "slices.overlaps[wigwag/api.Id]", "slices.overlaps[int]", "slices.overlaps[wigwag/table.Entry]"], unfollowed := true, recurses := true, named := ["errors.errorType"], apart := false, laid := [("errors.errorType", laid_errors_errorType)] }
def RdvKeptSaid : Prop := rdvKeptRow.holds Tryz.pinned (OpenSpec.ofChange rdvKeptSpec)

/-- ITS FALSE NEIGHBOUR: 'it returns false'. Refute it at one input. -/
def rdvKeptWrong : ChangeSpec := { name := "rdvKept", fn := fun _ => fun
  | [d] => { results := [.lit (.bool false)], args := [d] }
  | _ => none }
def RdvKeptWrongFalsely : Prop := rdvKeptRow.holds Tryz.pinned (OpenSpec.ofChange rdvKeptWrong)

/- THE SECOND FORM. 'bulk': how many values and letters a reading holds, each counted each time it is reached (what is shared counts as often as it is met; a slice's spare places count too). A statement '..UptoSaid' is the law's where the arguments, and the package variables that the reading takes, are together of bulk at most 1048576: NARROWER than '..Said'. Prove '..Said' where nothing that the law and all that it calls make is longer than what came in: it says more and counts as full. Else prove '..UptoSaid'. A law counts once. -/
mutual
def uptoBulk {H : Type} : DataW H → Nat
  | .lit (.string bytes) => bytes.length + 1
  | .lit _ => 1
  | .nil => 1
  | .ptr d => uptoBulk d + 1
  | .slice elems spare => uptoBulkAll elems + uptoBulkAll spare + 1
  | .agg parts => uptoBulkAll parts + 1
  | .iface _ d => uptoBulk d + 1
  | .map entries => uptoBulkEntries entries + 1
  | .held _ => 1
def uptoBulkAll {H : Type} : List (DataW H) → Nat
  | [] => 0
  | d :: r => uptoBulk d + uptoBulkAll r
def uptoBulkEntries {H : Type} : List (Lit × DataW H) → Nat
  | [] => 0
  | x :: r => uptoBulkEntry x + uptoBulkEntries r
def uptoBulkEntry {H : Type} : Lit × DataW H → Nat
  | (.string bytes, d) => bytes.length + uptoBulk d + 1
  | (_, d) => uptoBulk d + 1
 end
def uptoSmall : (H : Type) → List (DataW H) → Bool := fun _ ds => decide (uptoBulkAll ds ≤ 1048576)
def OpenSpec.upto (s : _root_.Go.ChangeSpec) : _root_.Go.OpenSpec := { _root_.Go.OpenSpec.ofChange s with cond := some uptoSmall }

/-- 'wigwaglaw21.RdvPlans', WHERE WHAT IT READS IS OF BULK AT MOST 1048576: true; the input reads as it did. -/
def rdvPlansUptoRow : OpenClaim := { program := "ytahiahjhpakeiaagreatdoor", sum := "39ac181679e7d5565580b263feb52567478fa9472d8a831b0903702623625d13", func := "wigwag/wigwaglaw21.RdvPlans", spec := "rdvPlans", inPlace := ["internal/reflectlite.ValueOf", "(internal/reflectlite.Value).Type", "(internal/reflectlite.Value).IsNil", "internal/reflectlite.TypeOf", "(internal/reflectlite.Value).Elem", "(internal/reflectlite.Value).Set", "slices.overlaps[wigwag/api.Id]", "slices.overlaps[int]", "slices.overlaps[wigwag/table.Entry]"], unfollowed := true, recurses := true, named := ["errors.errorType"], apart := false, laid := [("errors.errorType", laid_errors_errorType)], narrowed := true }
def RdvPlansUptoSaid : Prop := rdvPlansUptoRow.holds Tryz.pinned (OpenSpec.upto rdvPlansSpec)

/-- 'wigwaglaw21.RdvFew', WHERE WHAT IT READS IS OF BULK AT MOST 1048576: true; the input reads as it did. -/
def rdvFewUptoRow : OpenClaim := { program := "ytahiahjhpakeiaagreatdoor", sum := "39ac181679e7d5565580b263feb52567478fa9472d8a831b0903702623625d13", func := "wigwag/wigwaglaw21.RdvFew", spec := "rdvFew", inPlace := ["internal/reflectlite.ValueOf", "(internal/reflectlite.Value).Type", "(internal/reflectlite.Value).IsNil", "internal/reflectlite.TypeOf", "(internal/reflectlite.Value).Elem", "(internal/reflectlite.Value).Set", "slices.overlaps[wigwag/api.Id]", "slices.overlaps[int]", "slices.overlaps[wigwag/table.Entry]"], unfollowed := true, recurses := true, named := ["errors.errorType"], apart := false, laid := [("errors.errorType", laid_errors_errorType)], narrowed := true }
def RdvFewUptoSaid : Prop := rdvFewUptoRow.holds Tryz.pinned (OpenSpec.upto rdvFewSpec)

/-- 'wigwaglaw21.RdvOwner', WHERE WHAT IT READS IS OF BULK AT MOST 1048576: true; the input reads as it did. -/
def rdvOwnerUptoRow : OpenClaim := { program := "ytahiahjhpakeiaagreatdoor", sum := "39ac181679e7d5565580b263feb52567478fa9472d8a831b0903702623625d13", func := "wigwag/wigwaglaw21.RdvOwner", spec := "rdvOwner", inPlace := ["internal/reflectlite.ValueOf", "(internal/reflectlite.Value).Type", "(internal/reflectlite.Value).IsNil", "internal/reflectlite.TypeOf", "(internal/reflectlite.Value).Elem", "(internal/reflectlite.Value).Set", "slices.overlaps[wigwag/api.Id]", "slices.overlaps[int]", "slices.overlaps[wigwag/table.Entry]"], unfollowed := true, recurses := true, named := ["errors.errorType"], apart := false, laid := [("errors.errorType", laid_errors_errorType)], narrowed := true }
def RdvOwnerUptoSaid : Prop := rdvOwnerUptoRow.holds Tryz.pinned (OpenSpec.upto rdvOwnerSpec)

/-- 'wigwaglaw21.RdvStores', WHERE WHAT IT READS IS OF BULK AT MOST 1048576: true; the input reads as it did. -/
def rdvStoresUptoRow : OpenClaim := { program := "ytahiahjhpakeiaagreatdoor", sum := "39ac181679e7d5565580b263feb52567478fa9472d8a831b0903702623625d13", func := "wigwag/wigwaglaw21.RdvStores", spec := "rdvStores", inPlace := ["internal/reflectlite.ValueOf", "(internal/reflectlite.Value).Type", "(internal/reflectlite.Value).IsNil", "internal/reflectlite.TypeOf", "(internal/reflectlite.Value).Elem", "(internal/reflectlite.Value).Set", "slices.overlaps[wigwag/api.Id]", "slices.overlaps[int]", "slices.overlaps[wigwag/table.Entry]"], unfollowed := true, recurses := true, named := ["errors.errorType"], apart := false, laid := [("errors.errorType", laid_errors_errorType)], narrowed := true }
def RdvStoresUptoSaid : Prop := rdvStoresUptoRow.holds Tryz.pinned (OpenSpec.upto rdvStoresSpec)

/-- 'wigwaglaw21.RdvKept', WHERE WHAT IT READS IS OF BULK AT MOST 1048576: true; the input reads as it did. -/
def rdvKeptUptoRow : OpenClaim := { program := "ytahiahjhpakeiaagreatdoor", sum := "39ac181679e7d5565580b263feb52567478fa9472d8a831b0903702623625d13", func := "wigwag/wigwaglaw21.RdvKept", spec := "rdvKept", inPlace := ["internal/reflectlite.ValueOf", "(internal/reflectlite.Value).Type", "(internal/reflectlite.Value).IsNil", "internal/reflectlite.TypeOf", "(internal/reflectlite.Value).Elem", "(internal/reflectlite.Value).Set", "slices.overlaps[wigwag/api.Id]", "slices.overlaps[int]", "slices.overlaps[wigwag/table.Entry]"], unfollowed := true, recurses := true, named := ["errors.errorType"], apart := false, laid := [("errors.errorType", laid_errors_errorType)], narrowed := true }
def RdvKeptUptoSaid : Prop := rdvKeptUptoRow.holds Tryz.pinned (OpenSpec.upto rdvKeptSpec)

end Rows
end Go.Proofs.YtahiahjhpakeiaaGreatDoor
