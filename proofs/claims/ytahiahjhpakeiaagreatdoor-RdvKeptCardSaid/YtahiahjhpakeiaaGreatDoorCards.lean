/-
  DERIVED. GIVEN WITH THE SEED: THE CARDS: each row of YtahiahjhpakeiaaGreatDoorRows.lean that lists a variable, with what it lists TIED to the program's text (the seventh form; the later family's looks); each row that meets fmt, with fmt's text TOLD by the authors' own Lean function (tested against real Go, not proved from fmt's source: count such statements apart). THE CARD IS WHAT COUNTS. Prove the row's statement (the work); the ties are given (YtahiahjhpakeiaaGreatDoorTie.lean); close each card by the builder's one call (the guide's Derived/Test/ToyasCard.lean, 'card_holds'). Laid BY PROGRAM, IN A SANDBOX (cutbox-door.mjs). By AI agents, Wed Nov 11 2026. No macro, syntax, notation, axiom, sorry.
-/
import Derived.Test.YtahiahjhpakeiaaGreatDoorRows
import GoSem.ClaimSeven
namespace Go.Proofs.YtahiahjhpakeiaaGreatDoor
namespace Rows

/-- THE TIED CARD OF 'wigwaglaw21.RdvPlans'. -/
def rdvPlansCard : Claim7 := { stood := { row := rdvPlansRow, standIns := [], harness := (true, "e131da7b95bccc5e0c77d045820bce60fa7e3420273e2d5d727c3c36977b353e"), looks := true }, kinds := [], alts := [], laidByText := true, laidKinds := [.handle], laidTests := true, laidLooks := .later }
def RdvPlansCardSaid : Prop := Claim7.holds Tryz.pinned (.plain (OpenSpec.ofChange rdvPlansSpec)) rdvPlansCard

/-- THE TIED CARD OF 'wigwaglaw21.RdvFew'. -/
def rdvFewCard : Claim7 := { stood := { row := rdvFewRow, standIns := [], harness := (true, "e131da7b95bccc5e0c77d045820bce60fa7e3420273e2d5d727c3c36977b353e"), looks := true }, kinds := [], alts := [], laidByText := true, laidKinds := [.handle], laidTests := true, laidLooks := .later }
def RdvFewCardSaid : Prop := Claim7.holds Tryz.pinned (.plain (OpenSpec.ofChange rdvFewSpec)) rdvFewCard

/-- THE TIED CARD OF 'wigwaglaw21.RdvOwner'. -/
def rdvOwnerCard : Claim7 := { stood := { row := rdvOwnerRow, standIns := [], harness := (true, "e131da7b95bccc5e0c77d045820bce60fa7e3420273e2d5d727c3c36977b353e"), looks := true }, kinds := [], alts := [], laidByText := true, laidKinds := [.handle], laidTests := true, laidLooks := .later }
def RdvOwnerCardSaid : Prop := Claim7.holds Tryz.pinned (.plain (OpenSpec.ofChange rdvOwnerSpec)) rdvOwnerCard

/-- THE TIED CARD OF 'wigwaglaw21.RdvStores'. -/
def rdvStoresCard : Claim7 := { stood := { row := rdvStoresRow, standIns := [], harness := (true, "e131da7b95bccc5e0c77d045820bce60fa7e3420273e2d5d727c3c36977b353e"), looks := true }, kinds := [], alts := [], laidByText := true, laidKinds := [.handle], laidTests := true, laidLooks := .later }
def RdvStoresCardSaid : Prop := Claim7.holds Tryz.pinned (.plain (OpenSpec.ofChange rdvStoresSpec)) rdvStoresCard

/-- THE TIED CARD OF 'wigwaglaw21.RdvKept'. -/
def rdvKeptCard : Claim7 := { stood := { row := rdvKeptRow, standIns := [], harness := (true, "e131da7b95bccc5e0c77d045820bce60fa7e3420273e2d5d727c3c36977b353e"), looks := true }, kinds := [], alts := [], laidByText := true, laidKinds := [.handle], laidTests := true, laidLooks := .later }
def RdvKeptCardSaid : Prop := Claim7.holds Tryz.pinned (.plain (OpenSpec.ofChange rdvKeptSpec)) rdvKeptCard

/-- THE SECOND FORM's CARD OF 'wigwaglaw21.RdvPlans'. -/
def rdvPlansUptoCard : Claim7 := { stood := { row := rdvPlansUptoRow, standIns := [], harness := (true, "e131da7b95bccc5e0c77d045820bce60fa7e3420273e2d5d727c3c36977b353e"), looks := true }, kinds := [], alts := [], laidByText := true, laidKinds := [.handle], laidTests := true, laidLooks := .later }
def RdvPlansUptoCardSaid : Prop := Claim7.holds Tryz.pinned (.plain (OpenSpec.upto rdvPlansSpec)) rdvPlansUptoCard

/-- THE SECOND FORM's CARD OF 'wigwaglaw21.RdvFew'. -/
def rdvFewUptoCard : Claim7 := { stood := { row := rdvFewUptoRow, standIns := [], harness := (true, "e131da7b95bccc5e0c77d045820bce60fa7e3420273e2d5d727c3c36977b353e"), looks := true }, kinds := [], alts := [], laidByText := true, laidKinds := [.handle], laidTests := true, laidLooks := .later }
def RdvFewUptoCardSaid : Prop := Claim7.holds Tryz.pinned (.plain (OpenSpec.upto rdvFewSpec)) rdvFewUptoCard

/-- THE SECOND FORM's CARD OF 'wigwaglaw21.RdvOwner'. -/
def rdvOwnerUptoCard : Claim7 := { stood := { row := rdvOwnerUptoRow, standIns := [], harness := (true, "e131da7b95bccc5e0c77d045820bce60fa7e3420273e2d5d727c3c36977b353e"), looks := true }, kinds := [], alts := [], laidByText := true, laidKinds := [.handle], laidTests := true, laidLooks := .later }
def RdvOwnerUptoCardSaid : Prop := Claim7.holds Tryz.pinned (.plain (OpenSpec.upto rdvOwnerSpec)) rdvOwnerUptoCard

/-- THE SECOND FORM's CARD OF 'wigwaglaw21.RdvStores'. -/
def rdvStoresUptoCard : Claim7 := { stood := { row := rdvStoresUptoRow, standIns := [], harness := (true, "e131da7b95bccc5e0c77d045820bce60fa7e3420273e2d5d727c3c36977b353e"), looks := true }, kinds := [], alts := [], laidByText := true, laidKinds := [.handle], laidTests := true, laidLooks := .later }
def RdvStoresUptoCardSaid : Prop := Claim7.holds Tryz.pinned (.plain (OpenSpec.upto rdvStoresSpec)) rdvStoresUptoCard

/-- THE SECOND FORM's CARD OF 'wigwaglaw21.RdvKept'. -/
def rdvKeptUptoCard : Claim7 := { stood := { row := rdvKeptUptoRow, standIns := [], harness := (true, "e131da7b95bccc5e0c77d045820bce60fa7e3420273e2d5d727c3c36977b353e"), looks := true }, kinds := [], alts := [], laidByText := true, laidKinds := [.handle], laidTests := true, laidLooks := .later }
def RdvKeptUptoCardSaid : Prop := Claim7.holds Tryz.pinned (.plain (OpenSpec.upto rdvKeptSpec)) rdvKeptUptoCard
end Rows
end Go.Proofs.YtahiahjhpakeiaaGreatDoor
