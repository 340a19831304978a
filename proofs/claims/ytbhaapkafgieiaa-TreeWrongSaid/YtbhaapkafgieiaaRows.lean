/-
  No cell of these rows narrows 'for every input' (looked for: loops, veiled, ifaces, maps, wideKeys, modest, calm, conditions, laid).
  DERIVED. THE GIVEN ROWS OF THIS SEAT. 4 by the template 'for every input the law returns true; each argument reads behind the call as it read before'; 0 by the template 'total and deterministic' (their statements: YtbhaapkafgieiaaTotals.lean).
  GIVEN WITH THE SEED: the statements are not yours to turn. If you find one false, say at which input.
  Laid BY PROGRAM, IN A SANDBOX (cutbox-rows.mjs): the forced cells as the released guide's own fill.sh prints them over the translation bbe91379a1be6cc1… (all of the seat's roots in one cut). By AI agents, Wed Nov 11 2026. No macro, syntax, notation, axiom, sorry.
-/
import Derived.Test.YtbhaapkafgieiaaChecked
import GoSem.Claim
import GoSem.ClaimJoined
import GoSem.ClaimMapViews
import Derived.JoinedTies
import Derived.KernelRfl
namespace Go.Proofs.Ytbhaapkafgieiaa
/- THE CELL 'sum', in the pinned program and in every row, IS THE sha256 OF THE DUMP (.gsa) THAT YtbhaapkafgieiaaProg.lean LOADS. Nothing in Lean hashes anything: it is a label: what it is worth is what the hold of that sum in a sandbox is worth. -/
noncomputable def Try.pinned : Pinned := { name := "ytbhaapkafgieiaa", sum := "bbe91379a1be6cc108391ec9282fba6cca2f96f9b159320de06f8e75745ed371", checked := Try.checked }
namespace Rows
def none {H : Type} : Left H := { results := [], args := [] }

/-- 'wigwaglaw20.TreeUp': WHATEVER THE INPUT: true; the input reads as it did. -/
def treeUpSpec : ChangeSpec := { name := "treeUp", fn := fun _ => fun
  | [d1, d2] => { results := [.lit (.bool true)], args := [d1, d2] }
  | _ => none }
def treeUpRow : OpenClaim := { program := "ytbhaapkafgieiaa", sum := "bbe91379a1be6cc108391ec9282fba6cca2f96f9b159320de06f8e75745ed371", func := "wigwag/wigwaglaw20.TreeUp", spec := "treeUp", unfollowed := true, recurses := true, apart := false }
def TreeUpSaid : Prop := treeUpRow.holds Try.pinned (OpenSpec.ofChange treeUpSpec)

/-- ITS FALSE NEIGHBOUR: 'it returns false'. Refute it at one input. -/
def treeUpWrong : ChangeSpec := { name := "treeUp", fn := fun _ => fun
  | [d1, d2] => { results := [.lit (.bool false)], args := [d1, d2] }
  | _ => none }
def TreeUpWrongFalsely : Prop := treeUpRow.holds Try.pinned (OpenSpec.ofChange treeUpWrong)

/-- 'wigwaglaw20.TreeMore': WHATEVER THE INPUT: true; the input reads as it did. -/
def treeMoreSpec : ChangeSpec := { name := "treeMore", fn := fun _ => fun
  | [d1, d2, d3] => { results := [.lit (.bool true)], args := [d1, d2, d3] }
  | _ => none }
def treeMoreRow : OpenClaim := { program := "ytbhaapkafgieiaa", sum := "bbe91379a1be6cc108391ec9282fba6cca2f96f9b159320de06f8e75745ed371", func := "wigwag/wigwaglaw20.TreeMore", spec := "treeMore", inPlace := ["internal/reflectlite.TypeOf"], unfollowed := true, recurses := true, apart := false }
def TreeMoreSaid : Prop := treeMoreRow.holds Try.pinned (OpenSpec.ofChange treeMoreSpec)

/-- ITS FALSE NEIGHBOUR: 'it returns false'. Refute it at one input. -/
def treeMoreWrong : ChangeSpec := { name := "treeMore", fn := fun _ => fun
  | [d1, d2, d3] => { results := [.lit (.bool false)], args := [d1, d2, d3] }
  | _ => none }
def TreeMoreWrongFalsely : Prop := treeMoreRow.holds Try.pinned (OpenSpec.ofChange treeMoreWrong)

/-- 'wigwaglaw20.TreeOrder': WHATEVER THE INPUT: true; the input reads as it did. -/
def treeOrderSpec : ChangeSpec := { name := "treeOrder", fn := fun _ => fun
  | [d1, d2] => { results := [.lit (.bool true)], args := [d1, d2] }
  | _ => none }
def treeOrderRow : OpenClaim := { program := "ytbhaapkafgieiaa", sum := "bbe91379a1be6cc108391ec9282fba6cca2f96f9b159320de06f8e75745ed371", func := "wigwag/wigwaglaw20.TreeOrder", spec := "treeOrder", inPlace := ["slices.overlaps[wigwag/api.Id]", "slices.overlaps[int]"], unfollowed := true, recurses := true, apart := false }
def TreeOrderSaid : Prop := treeOrderRow.holds Try.pinned (OpenSpec.ofChange treeOrderSpec)

/-- ITS FALSE NEIGHBOUR: 'it returns false'. Refute it at one input. -/
def treeOrderWrong : ChangeSpec := { name := "treeOrder", fn := fun _ => fun
  | [d1, d2] => { results := [.lit (.bool false)], args := [d1, d2] }
  | _ => none }
def TreeOrderWrongFalsely : Prop := treeOrderRow.holds Try.pinned (OpenSpec.ofChange treeOrderWrong)

/-- 'wigwaglaw20.TreeWrong': WHATEVER THE INPUT: true; the input reads as it did. -/
def treeWrongSpec : ChangeSpec := { name := "treeWrong", fn := fun _ => fun
  | [d1, d2] => { results := [.lit (.bool true)], args := [d1, d2] }
  | _ => none }
def treeWrongRow : OpenClaim := { program := "ytbhaapkafgieiaa", sum := "bbe91379a1be6cc108391ec9282fba6cca2f96f9b159320de06f8e75745ed371", func := "wigwag/wigwaglaw20.TreeWrong", spec := "treeWrong", inPlace := ["slices.overlaps[wigwag/api.Id]", "slices.overlaps[int]", "internal/reflectlite.TypeOf"], unfollowed := true, recurses := true, apart := false }
def TreeWrongSaid : Prop := treeWrongRow.holds Try.pinned (OpenSpec.ofChange treeWrongSpec)

/-- ITS FALSE NEIGHBOUR: 'it returns false'. Refute it at one input. -/
def treeWrongWrong : ChangeSpec := { name := "treeWrong", fn := fun _ => fun
  | [d1, d2] => { results := [.lit (.bool false)], args := [d1, d2] }
  | _ => none }
def TreeWrongWrongFalsely : Prop := treeWrongRow.holds Try.pinned (OpenSpec.ofChange treeWrongWrong)

/- THE SECOND FORM. 'bulk': how many values and letters a reading holds, each counted each time it is reached (what is shared counts as often as it is met; a slice's spare places count too). A statement '..UptoSaid' is the law's where the arguments, and the package variables that the reading takes, are together of bulk at most 1048576: NARROWER than '..Said'. Prove '..Said' where nothing that the law and all that it calls make is longer than what came in: it says more and counts as full. Else prove '..UptoSaid'. A law counts once. -/
mutual
def uptoBulk {H : Type} : DataW H → Nat
  | .lit (.string bytes) => bytes.length + 1
  | .lit _ => 1
  | .nil => 1
  | .ptr d => uptoBulk d + 1
  | .slice elems spare => uptoBulkAll elems + uptoBulkAll spare + 1
  | .agg parts => uptoBulkAll parts + 1
  | .iface _ d => uptoBulk d + 1
  | .map entries => uptoBulkEntries entries + 1
  | .held _ => 1
def uptoBulkAll {H : Type} : List (DataW H) → Nat
  | [] => 0
  | d :: r => uptoBulk d + uptoBulkAll r
def uptoBulkEntries {H : Type} : List (Lit × DataW H) → Nat
  | [] => 0
  | x :: r => uptoBulkEntry x + uptoBulkEntries r
def uptoBulkEntry {H : Type} : Lit × DataW H → Nat
  | (.string bytes, d) => bytes.length + uptoBulk d + 1
  | (_, d) => uptoBulk d + 1
 end
def uptoSmall : (H : Type) → List (DataW H) → Bool := fun _ ds => decide (uptoBulkAll ds ≤ 1048576)
def OpenSpec.upto (s : _root_.Go.ChangeSpec) : _root_.Go.OpenSpec := { _root_.Go.OpenSpec.ofChange s with cond := some uptoSmall }

/-- 'wigwaglaw20.TreeUp', WHERE WHAT IT READS IS OF BULK AT MOST 1048576: true; the input reads as it did. -/
def treeUpUptoRow : OpenClaim := { program := "ytbhaapkafgieiaa", sum := "bbe91379a1be6cc108391ec9282fba6cca2f96f9b159320de06f8e75745ed371", func := "wigwag/wigwaglaw20.TreeUp", spec := "treeUp", unfollowed := true, recurses := true, apart := false, narrowed := true }
def TreeUpUptoSaid : Prop := treeUpUptoRow.holds Try.pinned (OpenSpec.upto treeUpSpec)

/-- 'wigwaglaw20.TreeMore', WHERE WHAT IT READS IS OF BULK AT MOST 1048576: true; the input reads as it did. -/
def treeMoreUptoRow : OpenClaim := { program := "ytbhaapkafgieiaa", sum := "bbe91379a1be6cc108391ec9282fba6cca2f96f9b159320de06f8e75745ed371", func := "wigwag/wigwaglaw20.TreeMore", spec := "treeMore", inPlace := ["internal/reflectlite.TypeOf"], unfollowed := true, recurses := true, apart := false, narrowed := true }
def TreeMoreUptoSaid : Prop := treeMoreUptoRow.holds Try.pinned (OpenSpec.upto treeMoreSpec)

/-- 'wigwaglaw20.TreeOrder', WHERE WHAT IT READS IS OF BULK AT MOST 1048576: true; the input reads as it did. -/
def treeOrderUptoRow : OpenClaim := { program := "ytbhaapkafgieiaa", sum := "bbe91379a1be6cc108391ec9282fba6cca2f96f9b159320de06f8e75745ed371", func := "wigwag/wigwaglaw20.TreeOrder", spec := "treeOrder", inPlace := ["slices.overlaps[wigwag/api.Id]", "slices.overlaps[int]"], unfollowed := true, recurses := true, apart := false, narrowed := true }
def TreeOrderUptoSaid : Prop := treeOrderUptoRow.holds Try.pinned (OpenSpec.upto treeOrderSpec)

/-- 'wigwaglaw20.TreeWrong', WHERE WHAT IT READS IS OF BULK AT MOST 1048576: true; the input reads as it did. -/
def treeWrongUptoRow : OpenClaim := { program := "ytbhaapkafgieiaa", sum := "bbe91379a1be6cc108391ec9282fba6cca2f96f9b159320de06f8e75745ed371", func := "wigwag/wigwaglaw20.TreeWrong", spec := "treeWrong", inPlace := ["slices.overlaps[wigwag/api.Id]", "slices.overlaps[int]", "internal/reflectlite.TypeOf"], unfollowed := true, recurses := true, apart := false, narrowed := true }
def TreeWrongUptoSaid : Prop := treeWrongUptoRow.holds Try.pinned (OpenSpec.upto treeWrongSpec)

end Rows
end Go.Proofs.Ytbhaapkafgieiaa
