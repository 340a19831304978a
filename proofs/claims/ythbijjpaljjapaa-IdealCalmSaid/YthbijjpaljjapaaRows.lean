/-
  No cell of these rows narrows 'for every input' (looked for: loops, veiled, ifaces, maps, wideKeys, modest, calm, conditions, laid).
  DERIVED. THE GIVEN ROWS OF THIS SEAT. 6 by the template 'for every input the law returns true; each argument reads behind the call as it read before'; 0 by the template 'total and deterministic' (their statements: YthbijjpaljjapaaTotals.lean).
  GIVEN WITH THE SEED: the statements are not yours to turn. If you find one false, say at which input.
  Laid BY PROGRAM, IN A SANDBOX (cutbox-rows.mjs): the forced cells as the released guide's own fill.sh prints them over the translation 63da820df5278215… (all of the seat's roots in one cut). By AI agents, Wed Nov 11 2026. No macro, syntax, notation, axiom, sorry.
-/
import Derived.Test.YthbijjpaljjapaaChecked
import GoSem.Claim
import GoSem.ClaimJoined
import GoSem.ClaimMapViews
import Derived.JoinedTies
import Derived.KernelRfl
namespace Go.Proofs.Ythbijjpaljjapaa
/- THE CELL 'sum', in the pinned program and in every row, IS THE sha256 OF THE DUMP (.gsa) THAT YthbijjpaljjapaaProg.lean LOADS. Nothing in Lean hashes anything: it is a label: what it is worth is what the hold of that sum in a sandbox is worth. -/
noncomputable def Try.pinned : Pinned := { name := "ythbijjpaljjapaa", sum := "63da820df5278215d142525b021e4c8013a292f5587f3de81642f1e03f9308c9", checked := Try.checked }
namespace Rows
def none {H : Type} : Left H := { results := [], args := [] }

/-- 'wigwaglaw10.ChordQuiet': WHATEVER THE INPUT: true; the input reads as it did. -/
def chordQuietSpec : ChangeSpec := { name := "chordQuiet", fn := fun _ => fun
  | [d1, d2] => { results := [.lit (.bool true)], args := [d1, d2] }
  | _ => none }
def chordQuietRow : OpenClaim := { program := "ythbijjpaljjapaa", sum := "63da820df5278215d142525b021e4c8013a292f5587f3de81642f1e03f9308c9", func := "wigwag/wigwaglaw10.ChordQuiet", spec := "chordQuiet", unfollowed := true, recurses := true, apart := false }
def ChordQuietSaid : Prop := chordQuietRow.holds Try.pinned (OpenSpec.ofChange chordQuietSpec)

/-- ITS FALSE NEIGHBOUR: 'it returns false'. Refute it at one input. -/
def chordQuietWrong : ChangeSpec := { name := "chordQuiet", fn := fun _ => fun
  | [d1, d2] => { results := [.lit (.bool false)], args := [d1, d2] }
  | _ => none }
def ChordQuietWrongFalsely : Prop := chordQuietRow.holds Try.pinned (OpenSpec.ofChange chordQuietWrong)

/-- 'wigwaglaw10.ChordSame': WHATEVER THE INPUT: true; the input reads as it did. -/
def chordSameSpec : ChangeSpec := { name := "chordSame", fn := fun _ => fun
  | [d1, d2, d3] => { results := [.lit (.bool true)], args := [d1, d2, d3] }
  | _ => none }
def chordSameRow : OpenClaim := { program := "ythbijjpaljjapaa", sum := "63da820df5278215d142525b021e4c8013a292f5587f3de81642f1e03f9308c9", func := "wigwag/wigwaglaw10.ChordSame", spec := "chordSame", unfollowed := true, recurses := true, apart := false }
def ChordSameSaid : Prop := chordSameRow.holds Try.pinned (OpenSpec.ofChange chordSameSpec)

/-- ITS FALSE NEIGHBOUR: 'it returns false'. Refute it at one input. -/
def chordSameWrong : ChangeSpec := { name := "chordSame", fn := fun _ => fun
  | [d1, d2, d3] => { results := [.lit (.bool false)], args := [d1, d2, d3] }
  | _ => none }
def ChordSameWrongFalsely : Prop := chordSameRow.holds Try.pinned (OpenSpec.ofChange chordSameWrong)

/-- 'wigwaglaw10.ChordHangs': WHATEVER THE INPUT: true; the input reads as it did. -/
def chordHangsSpec : ChangeSpec := { name := "chordHangs", fn := fun _ => fun
  | [d1, d2, d3, d4, d5] => { results := [.lit (.bool true)], args := [d1, d2, d3, d4, d5] }
  | _ => none }
def chordHangsRow : OpenClaim := { program := "ythbijjpaljjapaa", sum := "63da820df5278215d142525b021e4c8013a292f5587f3de81642f1e03f9308c9", func := "wigwag/wigwaglaw10.ChordHangs", spec := "chordHangs", unfollowed := true, recurses := true, apart := false }
def ChordHangsSaid : Prop := chordHangsRow.holds Try.pinned (OpenSpec.ofChange chordHangsSpec)

/-- ITS FALSE NEIGHBOUR: 'it returns false'. Refute it at one input. -/
def chordHangsWrong : ChangeSpec := { name := "chordHangs", fn := fun _ => fun
  | [d1, d2, d3, d4, d5] => { results := [.lit (.bool false)], args := [d1, d2, d3, d4, d5] }
  | _ => none }
def ChordHangsWrongFalsely : Prop := chordHangsRow.holds Try.pinned (OpenSpec.ofChange chordHangsWrong)

/-- 'wigwaglaw10.ChordStays': WHATEVER THE INPUT: true; the input reads as it did. -/
def chordStaysSpec : ChangeSpec := { name := "chordStays", fn := fun _ => fun
  | [d1, d2, d3] => { results := [.lit (.bool true)], args := [d1, d2, d3] }
  | _ => none }
def chordStaysRow : OpenClaim := { program := "ythbijjpaljjapaa", sum := "63da820df5278215d142525b021e4c8013a292f5587f3de81642f1e03f9308c9", func := "wigwag/wigwaglaw10.ChordStays", spec := "chordStays", inPlace := ["internal/reflectlite.TypeOf"], unfollowed := true, recurses := true, apart := false }
def ChordStaysSaid : Prop := chordStaysRow.holds Try.pinned (OpenSpec.ofChange chordStaysSpec)

/-- ITS FALSE NEIGHBOUR: 'it returns false'. Refute it at one input. -/
def chordStaysWrong : ChangeSpec := { name := "chordStays", fn := fun _ => fun
  | [d1, d2, d3] => { results := [.lit (.bool false)], args := [d1, d2, d3] }
  | _ => none }
def ChordStaysWrongFalsely : Prop := chordStaysRow.holds Try.pinned (OpenSpec.ofChange chordStaysWrong)

/-- 'wigwaglaw10.ChordTaken': WHATEVER THE INPUT: true; the input reads as it did. -/
def chordTakenSpec : ChangeSpec := { name := "chordTaken", fn := fun _ => fun
  | [d1, d2, d3] => { results := [.lit (.bool true)], args := [d1, d2, d3] }
  | _ => none }
def chordTakenRow : OpenClaim := { program := "ythbijjpaljjapaa", sum := "63da820df5278215d142525b021e4c8013a292f5587f3de81642f1e03f9308c9", func := "wigwag/wigwaglaw10.ChordTaken", spec := "chordTaken", inPlace := ["internal/reflectlite.TypeOf"], unfollowed := true, recurses := true, apart := false }
def ChordTakenSaid : Prop := chordTakenRow.holds Try.pinned (OpenSpec.ofChange chordTakenSpec)

/-- ITS FALSE NEIGHBOUR: 'it returns false'. Refute it at one input. -/
def chordTakenWrong : ChangeSpec := { name := "chordTaken", fn := fun _ => fun
  | [d1, d2, d3] => { results := [.lit (.bool false)], args := [d1, d2, d3] }
  | _ => none }
def ChordTakenWrongFalsely : Prop := chordTakenRow.holds Try.pinned (OpenSpec.ofChange chordTakenWrong)

/-- 'wigwaglaw11.IdealCalm': WHATEVER THE INPUT: true; the input reads as it did. -/
def idealCalmSpec : ChangeSpec := { name := "idealCalm", fn := fun _ => fun
  | [d1, d2] => { results := [.lit (.bool true)], args := [d1, d2] }
  | _ => none }
def idealCalmRow : OpenClaim := { program := "ythbijjpaljjapaa", sum := "63da820df5278215d142525b021e4c8013a292f5587f3de81642f1e03f9308c9", func := "wigwag/wigwaglaw11.IdealCalm", spec := "idealCalm", inPlace := ["slices.overlaps[wigwag/api.Id]", "slices.overlaps[int]"], unfollowed := true, recurses := true, apart := false }
def IdealCalmSaid : Prop := idealCalmRow.holds Try.pinned (OpenSpec.ofChange idealCalmSpec)

/-- ITS FALSE NEIGHBOUR: 'it returns false'. Refute it at one input. -/
def idealCalmWrong : ChangeSpec := { name := "idealCalm", fn := fun _ => fun
  | [d1, d2] => { results := [.lit (.bool false)], args := [d1, d2] }
  | _ => none }
def IdealCalmWrongFalsely : Prop := idealCalmRow.holds Try.pinned (OpenSpec.ofChange idealCalmWrong)

/- THE SECOND FORM. 'bulk': how many values and letters a reading holds, each counted each time it is reached (what is shared counts as often as it is met; a slice's spare places count too). A statement '..UptoSaid' is the law's where the arguments, and the package variables that the reading takes, are together of bulk at most 1048576: NARROWER than '..Said'. Prove '..Said' where nothing that the law and all that it calls make is longer than what came in: it says more and counts as full. Else prove '..UptoSaid'. A law counts once. -/
mutual
def uptoBulk {H : Type} : DataW H → Nat
  | .lit (.string bytes) => bytes.length + 1
  | .lit _ => 1
  | .nil => 1
  | .ptr d => uptoBulk d + 1
  | .slice elems spare => uptoBulkAll elems + uptoBulkAll spare + 1
  | .agg parts => uptoBulkAll parts + 1
  | .iface _ d => uptoBulk d + 1
  | .map entries => uptoBulkEntries entries + 1
  | .held _ => 1
def uptoBulkAll {H : Type} : List (DataW H) → Nat
  | [] => 0
  | d :: r => uptoBulk d + uptoBulkAll r
def uptoBulkEntries {H : Type} : List (Lit × DataW H) → Nat
  | [] => 0
  | x :: r => uptoBulkEntry x + uptoBulkEntries r
def uptoBulkEntry {H : Type} : Lit × DataW H → Nat
  | (.string bytes, d) => bytes.length + uptoBulk d + 1
  | (_, d) => uptoBulk d + 1
 end
def uptoSmall : (H : Type) → List (DataW H) → Bool := fun _ ds => decide (uptoBulkAll ds ≤ 1048576)
def OpenSpec.upto (s : _root_.Go.ChangeSpec) : _root_.Go.OpenSpec := { _root_.Go.OpenSpec.ofChange s with cond := some uptoSmall }

/-- 'wigwaglaw10.ChordQuiet', WHERE WHAT IT READS IS OF BULK AT MOST 1048576: true; the input reads as it did. -/
def chordQuietUptoRow : OpenClaim := { program := "ythbijjpaljjapaa", sum := "63da820df5278215d142525b021e4c8013a292f5587f3de81642f1e03f9308c9", func := "wigwag/wigwaglaw10.ChordQuiet", spec := "chordQuiet", unfollowed := true, recurses := true, apart := false, narrowed := true }
def ChordQuietUptoSaid : Prop := chordQuietUptoRow.holds Try.pinned (OpenSpec.upto chordQuietSpec)

/-- 'wigwaglaw10.ChordSame', WHERE WHAT IT READS IS OF BULK AT MOST 1048576: true; the input reads as it did. -/
def chordSameUptoRow : OpenClaim := { program := "ythbijjpaljjapaa", sum := "63da820df5278215d142525b021e4c8013a292f5587f3de81642f1e03f9308c9", func := "wigwag/wigwaglaw10.ChordSame", spec := "chordSame", unfollowed := true, recurses := true, apart := false, narrowed := true }
def ChordSameUptoSaid : Prop := chordSameUptoRow.holds Try.pinned (OpenSpec.upto chordSameSpec)

/-- 'wigwaglaw10.ChordHangs', WHERE WHAT IT READS IS OF BULK AT MOST 1048576: true; the input reads as it did. -/
def chordHangsUptoRow : OpenClaim := { program := "ythbijjpaljjapaa", sum := "63da820df5278215d142525b021e4c8013a292f5587f3de81642f1e03f9308c9", func := "wigwag/wigwaglaw10.ChordHangs", spec := "chordHangs", unfollowed := true, recurses := true, apart := false, narrowed := true }
def ChordHangsUptoSaid : Prop := chordHangsUptoRow.holds Try.pinned (OpenSpec.upto chordHangsSpec)

/-- 'wigwaglaw10.ChordStays', WHERE WHAT IT READS IS OF BULK AT MOST 1048576: true; the input reads as it did. -/
def chordStaysUptoRow : OpenClaim := { program := "ythbijjpaljjapaa", sum := "63da820df5278215d142525b021e4c8013a292f5587f3de81642f1e03f9308c9", func := "wigwag/wigwaglaw10.ChordStays", spec := "chordStays", inPlace := ["internal/reflectlite.TypeOf"], unfollowed := true, recurses := true, apart := false, narrowed := true }
def ChordStaysUptoSaid : Prop := chordStaysUptoRow.holds Try.pinned (OpenSpec.upto chordStaysSpec)

/-- 'wigwaglaw10.ChordTaken', WHERE WHAT IT READS IS OF BULK AT MOST 1048576: true; the input reads as it did. -/
def chordTakenUptoRow : OpenClaim := { program := "ythbijjpaljjapaa", sum := "63da820df5278215d142525b021e4c8013a292f5587f3de81642f1e03f9308c9", func := "wigwag/wigwaglaw10.ChordTaken", spec := "chordTaken", inPlace := ["internal/reflectlite.TypeOf"], unfollowed := true, recurses := true, apart := false, narrowed := true }
def ChordTakenUptoSaid : Prop := chordTakenUptoRow.holds Try.pinned (OpenSpec.upto chordTakenSpec)

/-- 'wigwaglaw11.IdealCalm', WHERE WHAT IT READS IS OF BULK AT MOST 1048576: true; the input reads as it did. -/
def idealCalmUptoRow : OpenClaim := { program := "ythbijjpaljjapaa", sum := "63da820df5278215d142525b021e4c8013a292f5587f3de81642f1e03f9308c9", func := "wigwag/wigwaglaw11.IdealCalm", spec := "idealCalm", inPlace := ["slices.overlaps[wigwag/api.Id]", "slices.overlaps[int]"], unfollowed := true, recurses := true, apart := false, narrowed := true }
def IdealCalmUptoSaid : Prop := idealCalmUptoRow.holds Try.pinned (OpenSpec.upto idealCalmSpec)

end Rows
end Go.Proofs.Ythbijjpaljjapaa
