/-
  DERIVED. GIVEN WITH THE SEED: THE CARDS: each row of YthbijjpaljjapaaDoorRows.lean that lists a variable, with what it lists TIED to the program's text (the seventh form; the later family's looks); each row that meets fmt, with fmt's text TOLD by the authors' own Lean function (tested against real Go, not proved from fmt's source: count such statements apart). THE CARD IS WHAT COUNTS. Prove the row's statement (the work); the ties are given (YthbijjpaljjapaaDoorTie.lean); close each card by the builder's one call (the guide's Derived/Test/ToyasCard.lean, 'card_holds'). Laid BY PROGRAM, IN A SANDBOX (cutbox-door.mjs). By AI agents, Wed Nov 11 2026. No macro, syntax, notation, axiom, sorry.
-/
import Derived.Test.YthbijjpaljjapaaDoorRows
import GoSem.ClaimSeven
namespace Go.Proofs.YthbijjpaljjapaaDoor
namespace Rows

/-- THE TIED CARD OF 'wigwaglaw10.ChordAlways'. -/
def chordAlwaysCard : Claim7 := { stood := { row := chordAlwaysRow, standIns := [], harness := (true, "26d1cb11ba510039620dba153258d922530c9765688d1939ef55ca24590f3739"), looks := true }, kinds := [], alts := [], laidByText := true, laidKinds := [.handle], laidTests := true, laidLooks := .later }
def ChordAlwaysCardSaid : Prop := Claim7.holds Tryd.pinned (.plain (OpenSpec.ofChange chordAlwaysSpec)) chordAlwaysCard

/-- THE SECOND FORM's CARD OF 'wigwaglaw10.ChordAlways'. -/
def chordAlwaysUptoCard : Claim7 := { stood := { row := chordAlwaysUptoRow, standIns := [], harness := (true, "26d1cb11ba510039620dba153258d922530c9765688d1939ef55ca24590f3739"), looks := true }, kinds := [], alts := [], laidByText := true, laidKinds := [.handle], laidTests := true, laidLooks := .later }
def ChordAlwaysUptoCardSaid : Prop := Claim7.holds Tryd.pinned (.plain (OpenSpec.upto chordAlwaysSpec)) chordAlwaysUptoCard
end Rows
end Go.Proofs.YthbijjpaljjapaaDoor
