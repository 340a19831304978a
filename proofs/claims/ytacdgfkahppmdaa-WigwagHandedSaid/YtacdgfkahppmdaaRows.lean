/-
  No cell of these rows narrows 'for every input' (looked for: loops, veiled, ifaces, maps, wideKeys, modest, calm, conditions, laid).
  DERIVED. THE GIVEN ROWS OF THIS SEAT. 6 by the template 'for every input the law returns true; each argument reads behind the call as it read before'; 0 by the template 'total and deterministic' (their statements: YtacdgfkahppmdaaTotals.lean).
  GIVEN WITH THE SEED: the statements are not yours to turn. If you find one false, say at which input.
  Laid BY PROGRAM, IN A SANDBOX (cutbox-rows.mjs): the forced cells as the released guide's own fill.sh prints them over the translation 951ac0cf2d6d507f… (all of the seat's roots in one cut). By AI agents, Wed Nov 11 2026. No macro, syntax, notation, axiom, sorry.
-/
import Derived.Test.YtacdgfkahppmdaaChecked
import GoSem.Claim
import GoSem.ClaimJoined
import GoSem.ClaimMapViews
import Derived.JoinedTies
import Derived.KernelRfl
namespace Go.Proofs.Ytacdgfkahppmdaa
/- THE CELL 'sum', in the pinned program and in every row, IS THE sha256 OF THE DUMP (.gsa) THAT YtacdgfkahppmdaaProg.lean LOADS. Nothing in Lean hashes anything: it is a label: what it is worth is what the hold of that sum in a sandbox is worth. -/
noncomputable def Try.pinned : Pinned := { name := "ytacdgfkahppmdaa", sum := "951ac0cf2d6d507f9342a9a782e8eab421d88cf792c38228065d540c304337bc", checked := Try.checked }
namespace Rows
def none {H : Type} : Left H := { results := [], args := [] }

/-- 'wigwaglaw13.TableLast': WHATEVER THE INPUT: true; the input reads as it did. -/
def tableLastSpec : ChangeSpec := { name := "tableLast", fn := fun _ => fun
  | [d] => { results := [.lit (.bool true)], args := [d] }
  | _ => none }
def tableLastRow : OpenClaim := { program := "ytacdgfkahppmdaa", sum := "951ac0cf2d6d507f9342a9a782e8eab421d88cf792c38228065d540c304337bc", func := "wigwag/wigwaglaw13.TableLast", spec := "tableLast", inPlace := ["slices.overlaps[wigwag/table.Entry]"], unfollowed := true, recurses := true, apart := false }
def TableLastSaid : Prop := tableLastRow.holds Try.pinned (OpenSpec.ofChange tableLastSpec)

/-- ITS FALSE NEIGHBOUR: 'it returns false'. Refute it at one input. -/
def tableLastWrong : ChangeSpec := { name := "tableLast", fn := fun _ => fun
  | [d] => { results := [.lit (.bool false)], args := [d] }
  | _ => none }
def TableLastWrongFalsely : Prop := tableLastRow.holds Try.pinned (OpenSpec.ofChange tableLastWrong)

/-- 'wigwaglaw13.TableAny': WHATEVER THE INPUT: true; the input reads as it did. -/
def tableAnySpec : ChangeSpec := { name := "tableAny", fn := fun _ => fun
  | [d] => { results := [.lit (.bool true)], args := [d] }
  | _ => none }
def tableAnyRow : OpenClaim := { program := "ytacdgfkahppmdaa", sum := "951ac0cf2d6d507f9342a9a782e8eab421d88cf792c38228065d540c304337bc", func := "wigwag/wigwaglaw13.TableAny", spec := "tableAny", inPlace := ["slices.overlaps[wigwag/table.Entry]"], unfollowed := true, recurses := true, apart := false }
def TableAnySaid : Prop := tableAnyRow.holds Try.pinned (OpenSpec.ofChange tableAnySpec)

/-- ITS FALSE NEIGHBOUR: 'it returns false'. Refute it at one input. -/
def tableAnyWrong : ChangeSpec := { name := "tableAny", fn := fun _ => fun
  | [d] => { results := [.lit (.bool false)], args := [d] }
  | _ => none }
def TableAnyWrongFalsely : Prop := tableAnyRow.holds Try.pinned (OpenSpec.ofChange tableAnyWrong)

/-- 'wigwaglaw13.TableMoves': WHATEVER THE INPUT: true; the input reads as it did. -/
def tableMovesSpec : ChangeSpec := { name := "tableMoves", fn := fun _ => fun
  | [d1, d2, d3] => { results := [.lit (.bool true)], args := [d1, d2, d3] }
  | _ => none }
def tableMovesRow : OpenClaim := { program := "ytacdgfkahppmdaa", sum := "951ac0cf2d6d507f9342a9a782e8eab421d88cf792c38228065d540c304337bc", func := "wigwag/wigwaglaw13.TableMoves", spec := "tableMoves", inPlace := ["slices.overlaps[wigwag/table.Entry]"], unfollowed := true, recurses := true, apart := false }
def TableMovesSaid : Prop := tableMovesRow.holds Try.pinned (OpenSpec.ofChange tableMovesSpec)

/-- ITS FALSE NEIGHBOUR: 'it returns false'. Refute it at one input. -/
def tableMovesWrong : ChangeSpec := { name := "tableMoves", fn := fun _ => fun
  | [d1, d2, d3] => { results := [.lit (.bool false)], args := [d1, d2, d3] }
  | _ => none }
def TableMovesWrongFalsely : Prop := tableMovesRow.holds Try.pinned (OpenSpec.ofChange tableMovesWrong)

/-- 'wigwaglaw13.TableKeys': WHATEVER THE INPUT: true; the input reads as it did. -/
def tableKeysSpec : ChangeSpec := { name := "tableKeys", fn := fun _ => fun
  | [d1, d2, d3] => { results := [.lit (.bool true)], args := [d1, d2, d3] }
  | _ => none }
def tableKeysRow : OpenClaim := { program := "ytacdgfkahppmdaa", sum := "951ac0cf2d6d507f9342a9a782e8eab421d88cf792c38228065d540c304337bc", func := "wigwag/wigwaglaw13.TableKeys", spec := "tableKeys", inPlace := ["slices.overlaps[wigwag/table.Entry]"], unfollowed := true, recurses := true, apart := false }
def TableKeysSaid : Prop := tableKeysRow.holds Try.pinned (OpenSpec.ofChange tableKeysSpec)

/-- ITS FALSE NEIGHBOUR: 'it returns false'. Refute it at one input. -/
def tableKeysWrong : ChangeSpec := { name := "tableKeys", fn := fun _ => fun
  | [d1, d2, d3] => { results := [.lit (.bool false)], args := [d1, d2, d3] }
  | _ => none }
def TableKeysWrongFalsely : Prop := tableKeysRow.holds Try.pinned (OpenSpec.ofChange tableKeysWrong)

/-- 'wigwaglaw13.TableFull': WHATEVER THE INPUT: true; the input reads as it did. -/
def tableFullSpec : ChangeSpec := { name := "tableFull", fn := fun _ => fun
  | [d1, d2] => { results := [.lit (.bool true)], args := [d1, d2] }
  | _ => none }
def tableFullRow : OpenClaim := { program := "ytacdgfkahppmdaa", sum := "951ac0cf2d6d507f9342a9a782e8eab421d88cf792c38228065d540c304337bc", func := "wigwag/wigwaglaw13.TableFull", spec := "tableFull", inPlace := ["slices.overlaps[wigwag/table.Entry]", "internal/reflectlite.TypeOf"], unfollowed := true, recurses := true, apart := false }
def TableFullSaid : Prop := tableFullRow.holds Try.pinned (OpenSpec.ofChange tableFullSpec)

/-- ITS FALSE NEIGHBOUR: 'it returns false'. Refute it at one input. -/
def tableFullWrong : ChangeSpec := { name := "tableFull", fn := fun _ => fun
  | [d1, d2] => { results := [.lit (.bool false)], args := [d1, d2] }
  | _ => none }
def TableFullWrongFalsely : Prop := tableFullRow.holds Try.pinned (OpenSpec.ofChange tableFullWrong)

/-- 'wigwagtop.WigwagHanded': WHATEVER THE INPUT: true; the input reads as it did. -/
def wigwagHandedSpec : ChangeSpec := { name := "wigwagHanded", fn := fun _ => fun
  | [d1, d2] => { results := [.lit (.bool true)], args := [d1, d2] }
  | _ => none }
def wigwagHandedRow : OpenClaim := { program := "ytacdgfkahppmdaa", sum := "951ac0cf2d6d507f9342a9a782e8eab421d88cf792c38228065d540c304337bc", func := "wigwag/wigwagtop.WigwagHanded", spec := "wigwagHanded", inPlace := ["slices.overlaps[wigwag/table.Entry]"], unfollowed := true, recurses := true, apart := false }
def WigwagHandedSaid : Prop := wigwagHandedRow.holds Try.pinned (OpenSpec.ofChange wigwagHandedSpec)

/-- ITS FALSE NEIGHBOUR: 'it returns false'. Refute it at one input. -/
def wigwagHandedWrong : ChangeSpec := { name := "wigwagHanded", fn := fun _ => fun
  | [d1, d2] => { results := [.lit (.bool false)], args := [d1, d2] }
  | _ => none }
def WigwagHandedWrongFalsely : Prop := wigwagHandedRow.holds Try.pinned (OpenSpec.ofChange wigwagHandedWrong)

/- THE SECOND FORM. 'bulk': how many values and letters a reading holds, each counted each time it is reached (what is shared counts as often as it is met; a slice's spare places count too). A statement '..UptoSaid' is the law's where the arguments, and the package variables that the reading takes, are together of bulk at most 1048576: NARROWER than '..Said'. Prove '..Said' where nothing that the law and all that it calls make is longer than what came in: it says more and counts as full. Else prove '..UptoSaid'. A law counts once. -/
mutual
def uptoBulk {H : Type} : DataW H → Nat
  | .lit (.string bytes) => bytes.length + 1
  | .lit _ => 1
  | .nil => 1
  | .ptr d => uptoBulk d + 1
  | .slice elems spare => uptoBulkAll elems + uptoBulkAll spare + 1
  | .agg parts => uptoBulkAll parts + 1
  | .iface _ d => uptoBulk d + 1
  | .map entries => uptoBulkEntries entries + 1
  | .held _ => 1
def uptoBulkAll {H : Type} : List (DataW H) → Nat
  | [] => 0
  | d :: r => uptoBulk d + uptoBulkAll r
def uptoBulkEntries {H : Type} : List (Lit × DataW H) → Nat
  | [] => 0
  | x :: r => uptoBulkEntry x + uptoBulkEntries r
def uptoBulkEntry {H : Type} : Lit × DataW H → Nat
  | (.string bytes, d) => bytes.length + uptoBulk d + 1
  | (_, d) => uptoBulk d + 1
 end
def uptoSmall : (H : Type) → List (DataW H) → Bool := fun _ ds => decide (uptoBulkAll ds ≤ 1048576)
def OpenSpec.upto (s : _root_.Go.ChangeSpec) : _root_.Go.OpenSpec := { _root_.Go.OpenSpec.ofChange s with cond := some uptoSmall }

/-- 'wigwaglaw13.TableLast', WHERE WHAT IT READS IS OF BULK AT MOST 1048576: true; the input reads as it did. -/
def tableLastUptoRow : OpenClaim := { program := "ytacdgfkahppmdaa", sum := "951ac0cf2d6d507f9342a9a782e8eab421d88cf792c38228065d540c304337bc", func := "wigwag/wigwaglaw13.TableLast", spec := "tableLast", inPlace := ["slices.overlaps[wigwag/table.Entry]"], unfollowed := true, recurses := true, apart := false, narrowed := true }
def TableLastUptoSaid : Prop := tableLastUptoRow.holds Try.pinned (OpenSpec.upto tableLastSpec)

/-- 'wigwaglaw13.TableAny', WHERE WHAT IT READS IS OF BULK AT MOST 1048576: true; the input reads as it did. -/
def tableAnyUptoRow : OpenClaim := { program := "ytacdgfkahppmdaa", sum := "951ac0cf2d6d507f9342a9a782e8eab421d88cf792c38228065d540c304337bc", func := "wigwag/wigwaglaw13.TableAny", spec := "tableAny", inPlace := ["slices.overlaps[wigwag/table.Entry]"], unfollowed := true, recurses := true, apart := false, narrowed := true }
def TableAnyUptoSaid : Prop := tableAnyUptoRow.holds Try.pinned (OpenSpec.upto tableAnySpec)

/-- 'wigwaglaw13.TableMoves', WHERE WHAT IT READS IS OF BULK AT MOST 1048576: true; the input reads as it did. -/
def tableMovesUptoRow : OpenClaim := { program := "ytacdgfkahppmdaa", sum := "951ac0cf2d6d507f9342a9a782e8eab421d88cf792c38228065d540c304337bc", func := "wigwag/wigwaglaw13.TableMoves", spec := "tableMoves", inPlace := ["slices.overlaps[wigwag/table.Entry]"], unfollowed := true, recurses := true, apart := false, narrowed := true }
def TableMovesUptoSaid : Prop := tableMovesUptoRow.holds Try.pinned (OpenSpec.upto tableMovesSpec)

/-- 'wigwaglaw13.TableKeys', WHERE WHAT IT READS IS OF BULK AT MOST 1048576: true; the input reads as it did. -/
def tableKeysUptoRow : OpenClaim := { program := "ytacdgfkahppmdaa", sum := "951ac0cf2d6d507f9342a9a782e8eab421d88cf792c38228065d540c304337bc", func := "wigwag/wigwaglaw13.TableKeys", spec := "tableKeys", inPlace := ["slices.overlaps[wigwag/table.Entry]"], unfollowed := true, recurses := true, apart := false, narrowed := true }
def TableKeysUptoSaid : Prop := tableKeysUptoRow.holds Try.pinned (OpenSpec.upto tableKeysSpec)

/-- 'wigwaglaw13.TableFull', WHERE WHAT IT READS IS OF BULK AT MOST 1048576: true; the input reads as it did. -/
def tableFullUptoRow : OpenClaim := { program := "ytacdgfkahppmdaa", sum := "951ac0cf2d6d507f9342a9a782e8eab421d88cf792c38228065d540c304337bc", func := "wigwag/wigwaglaw13.TableFull", spec := "tableFull", inPlace := ["slices.overlaps[wigwag/table.Entry]", "internal/reflectlite.TypeOf"], unfollowed := true, recurses := true, apart := false, narrowed := true }
def TableFullUptoSaid : Prop := tableFullUptoRow.holds Try.pinned (OpenSpec.upto tableFullSpec)

/-- 'wigwagtop.WigwagHanded', WHERE WHAT IT READS IS OF BULK AT MOST 1048576: true; the input reads as it did. -/
def wigwagHandedUptoRow : OpenClaim := { program := "ytacdgfkahppmdaa", sum := "951ac0cf2d6d507f9342a9a782e8eab421d88cf792c38228065d540c304337bc", func := "wigwag/wigwagtop.WigwagHanded", spec := "wigwagHanded", inPlace := ["slices.overlaps[wigwag/table.Entry]"], unfollowed := true, recurses := true, apart := false, narrowed := true }
def WigwagHandedUptoSaid : Prop := wigwagHandedUptoRow.holds Try.pinned (OpenSpec.upto wigwagHandedSpec)

end Rows
end Go.Proofs.Ytacdgfkahppmdaa
