/-
  DERIVED. GIVEN WITH THE SEED: THE CARDS: each row of YthbijjpaljjapaaGreatDoorRows.lean that lists a variable, with what it lists TIED to the program's text (the seventh form; the later family's looks); each row that meets fmt, with fmt's text TOLD by the authors' own Lean function (tested against real Go, not proved from fmt's source: count such statements apart). THE CARD IS WHAT COUNTS. Prove the row's statement (the work); the ties are given (YthbijjpaljjapaaGreatDoorTie.lean); close each card by the builder's one call (the guide's Derived/Test/ToyasCard.lean, 'card_holds'). Laid BY PROGRAM, IN A SANDBOX (cutbox-door.mjs). By AI agents, Wed Nov 11 2026. No macro, syntax, notation, axiom, sorry.
-/
import Derived.Test.YthbijjpaljjapaaGreatDoorRows
import GoSem.ClaimSeven
namespace Go.Proofs.YthbijjpaljjapaaGreatDoor
namespace Rows

/-- THE TIED CARD OF 'wigwaglaw10.ChordPlays'. -/
def chordPlaysCard : Claim7 := { stood := { row := chordPlaysRow, standIns := [], harness := (true, "170ad6b271f38bc5b5dbb1b4a980e5bb8601c676c340595c17378d516a0c30dd"), looks := true }, kinds := [], alts := [], laidByText := true, laidKinds := [.handle], laidTests := true, laidLooks := .later }
def ChordPlaysCardSaid : Prop := Claim7.holds Tryz.pinned (.plain (OpenSpec.ofChange chordPlaysSpec)) chordPlaysCard

/-- THE TIED CARD OF 'wigwaglaw11.IdealKnows'. -/
def idealKnowsCard : Claim7 := { stood := { row := idealKnowsRow, standIns := [], harness := (true, "170ad6b271f38bc5b5dbb1b4a980e5bb8601c676c340595c17378d516a0c30dd"), looks := true }, kinds := [], alts := [], laidByText := true, laidKinds := [.handle], laidTests := true, laidLooks := .later }
def IdealKnowsCardSaid : Prop := Claim7.holds Tryz.pinned (.plain (OpenSpec.ofChange idealKnowsSpec)) idealKnowsCard

/-- THE TIED CARD OF 'wigwaglaw11.IdealOwns'. -/
def idealOwnsCard : Claim7 := { stood := { row := idealOwnsRow, standIns := [], harness := (true, "170ad6b271f38bc5b5dbb1b4a980e5bb8601c676c340595c17378d516a0c30dd"), looks := true }, kinds := [], alts := [], laidByText := true, laidKinds := [.handle], laidTests := true, laidLooks := .later }
def IdealOwnsCardSaid : Prop := Claim7.holds Tryz.pinned (.plain (OpenSpec.ofChange idealOwnsSpec)) idealOwnsCard

/-- THE TIED CARD OF 'wigwaglaw11.IdealStays'. -/
def idealStaysCard : Claim7 := { stood := { row := idealStaysRow, standIns := [], harness := (true, "170ad6b271f38bc5b5dbb1b4a980e5bb8601c676c340595c17378d516a0c30dd"), looks := true }, kinds := [], alts := [], laidByText := true, laidKinds := [.handle], laidTests := true, laidLooks := .later }
def IdealStaysCardSaid : Prop := Claim7.holds Tryz.pinned (.plain (OpenSpec.ofChange idealStaysSpec)) idealStaysCard

/-- THE TIED CARD OF 'wigwaglaw11.IdealCircle'. -/
def idealCircleCard : Claim7 := { stood := { row := idealCircleRow, standIns := [], harness := (true, "170ad6b271f38bc5b5dbb1b4a980e5bb8601c676c340595c17378d516a0c30dd"), looks := true }, kinds := [], alts := [], laidByText := true, laidKinds := [.handle], laidTests := true, laidLooks := .later }
def IdealCircleCardSaid : Prop := Claim7.holds Tryz.pinned (.plain (OpenSpec.ofChange idealCircleSpec)) idealCircleCard

/-- THE SECOND FORM's CARD OF 'wigwaglaw10.ChordPlays'. -/
def chordPlaysUptoCard : Claim7 := { stood := { row := chordPlaysUptoRow, standIns := [], harness := (true, "170ad6b271f38bc5b5dbb1b4a980e5bb8601c676c340595c17378d516a0c30dd"), looks := true }, kinds := [], alts := [], laidByText := true, laidKinds := [.handle], laidTests := true, laidLooks := .later }
def ChordPlaysUptoCardSaid : Prop := Claim7.holds Tryz.pinned (.plain (OpenSpec.upto chordPlaysSpec)) chordPlaysUptoCard

/-- THE SECOND FORM's CARD OF 'wigwaglaw11.IdealKnows'. -/
def idealKnowsUptoCard : Claim7 := { stood := { row := idealKnowsUptoRow, standIns := [], harness := (true, "170ad6b271f38bc5b5dbb1b4a980e5bb8601c676c340595c17378d516a0c30dd"), looks := true }, kinds := [], alts := [], laidByText := true, laidKinds := [.handle], laidTests := true, laidLooks := .later }
def IdealKnowsUptoCardSaid : Prop := Claim7.holds Tryz.pinned (.plain (OpenSpec.upto idealKnowsSpec)) idealKnowsUptoCard

/-- THE SECOND FORM's CARD OF 'wigwaglaw11.IdealOwns'. -/
def idealOwnsUptoCard : Claim7 := { stood := { row := idealOwnsUptoRow, standIns := [], harness := (true, "170ad6b271f38bc5b5dbb1b4a980e5bb8601c676c340595c17378d516a0c30dd"), looks := true }, kinds := [], alts := [], laidByText := true, laidKinds := [.handle], laidTests := true, laidLooks := .later }
def IdealOwnsUptoCardSaid : Prop := Claim7.holds Tryz.pinned (.plain (OpenSpec.upto idealOwnsSpec)) idealOwnsUptoCard

/-- THE SECOND FORM's CARD OF 'wigwaglaw11.IdealStays'. -/
def idealStaysUptoCard : Claim7 := { stood := { row := idealStaysUptoRow, standIns := [], harness := (true, "170ad6b271f38bc5b5dbb1b4a980e5bb8601c676c340595c17378d516a0c30dd"), looks := true }, kinds := [], alts := [], laidByText := true, laidKinds := [.handle], laidTests := true, laidLooks := .later }
def IdealStaysUptoCardSaid : Prop := Claim7.holds Tryz.pinned (.plain (OpenSpec.upto idealStaysSpec)) idealStaysUptoCard

/-- THE SECOND FORM's CARD OF 'wigwaglaw11.IdealCircle'. -/
def idealCircleUptoCard : Claim7 := { stood := { row := idealCircleUptoRow, standIns := [], harness := (true, "170ad6b271f38bc5b5dbb1b4a980e5bb8601c676c340595c17378d516a0c30dd"), looks := true }, kinds := [], alts := [], laidByText := true, laidKinds := [.handle], laidTests := true, laidLooks := .later }
def IdealCircleUptoCardSaid : Prop := Claim7.holds Tryz.pinned (.plain (OpenSpec.upto idealCircleSpec)) idealCircleUptoCard
end Rows
end Go.Proofs.YthbijjpaljjapaaGreatDoor
