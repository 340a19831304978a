/-
  DERIVED. GIVEN WITH THE SEED: THE CARDS: each row of YtidlmlecgjoddaaGreatDoorRows.lean that lists a variable, with what it lists TIED to the program's text (the seventh form; the later family's looks); each row that meets fmt, with fmt's text TOLD by the authors' own Lean function (tested against real Go, not proved from fmt's source: count such statements apart). THE CARD IS WHAT COUNTS. Prove the row's statement (the work); the ties are given (YtidlmlecgjoddaaGreatDoorTie.lean); close each card by the builder's one call (the guide's Derived/Test/ToyasCard.lean, 'card_holds'). Laid BY PROGRAM, IN A SANDBOX (cutbox-door.mjs). By AI agents, Wed Nov 11 2026. No macro, syntax, notation, axiom, sorry.
-/
import Derived.Test.YtidlmlecgjoddaaGreatDoorRows
import GoSem.ClaimSeven
namespace Go.Proofs.YtidlmlecgjoddaaGreatDoor
namespace Rows

/-- THE TIED CARD OF 'wigwaglaw21.RdvPlans'. -/
def rdvPlansCard : Claim7 := { stood := { row := rdvPlansRow, standIns := [], harness := (true, "607aaaf8e7ad0e9200a888a6983d79766d96e9e1bad3dfcaad2febbefc58f4f0"), looks := true }, kinds := [], alts := [], laidByText := true, laidKinds := [.handle], laidTests := true, laidLooks := .later }
def RdvPlansCardSaid : Prop := Claim7.holds Tryz.pinned (.plain (OpenSpec.ofChange rdvPlansSpec)) rdvPlansCard

/-- THE TIED CARD OF 'wigwaglaw21.RdvFew'. -/
def rdvFewCard : Claim7 := { stood := { row := rdvFewRow, standIns := [], harness := (true, "607aaaf8e7ad0e9200a888a6983d79766d96e9e1bad3dfcaad2febbefc58f4f0"), looks := true }, kinds := [], alts := [], laidByText := true, laidKinds := [.handle], laidTests := true, laidLooks := .later }
def RdvFewCardSaid : Prop := Claim7.holds Tryz.pinned (.plain (OpenSpec.ofChange rdvFewSpec)) rdvFewCard

/-- THE TIED CARD OF 'wigwaglaw21.RdvOwner'. -/
def rdvOwnerCard : Claim7 := { stood := { row := rdvOwnerRow, standIns := [], harness := (true, "607aaaf8e7ad0e9200a888a6983d79766d96e9e1bad3dfcaad2febbefc58f4f0"), looks := true }, kinds := [], alts := [], laidByText := true, laidKinds := [.handle], laidTests := true, laidLooks := .later }
def RdvOwnerCardSaid : Prop := Claim7.holds Tryz.pinned (.plain (OpenSpec.ofChange rdvOwnerSpec)) rdvOwnerCard

/-- THE TIED CARD OF 'wigwaglaw21.RdvStores'. -/
def rdvStoresCard : Claim7 := { stood := { row := rdvStoresRow, standIns := [], harness := (true, "607aaaf8e7ad0e9200a888a6983d79766d96e9e1bad3dfcaad2febbefc58f4f0"), looks := true }, kinds := [], alts := [], laidByText := true, laidKinds := [.handle], laidTests := true, laidLooks := .later }
def RdvStoresCardSaid : Prop := Claim7.holds Tryz.pinned (.plain (OpenSpec.ofChange rdvStoresSpec)) rdvStoresCard

/-- THE TIED CARD OF 'wigwaglaw21.RdvKept'. -/
def rdvKeptCard : Claim7 := { stood := { row := rdvKeptRow, standIns := [], harness := (true, "607aaaf8e7ad0e9200a888a6983d79766d96e9e1bad3dfcaad2febbefc58f4f0"), looks := true }, kinds := [], alts := [], laidByText := true, laidKinds := [.handle], laidTests := true, laidLooks := .later }
def RdvKeptCardSaid : Prop := Claim7.holds Tryz.pinned (.plain (OpenSpec.ofChange rdvKeptSpec)) rdvKeptCard

/-- THE TIED CARD OF 'wigwagtop.WigwagWays'. -/
def wigwagWaysCard : Claim7 := { stood := { row := wigwagWaysRow, standIns := [], harness := (true, "607aaaf8e7ad0e9200a888a6983d79766d96e9e1bad3dfcaad2febbefc58f4f0"), looks := true }, kinds := [], alts := [], laidByText := true, laidKinds := [.handle], laidTests := true, laidLooks := .later }
def WigwagWaysCardSaid : Prop := Claim7.holds Tryz.pinned (.plain (OpenSpec.ofChange wigwagWaysSpec)) wigwagWaysCard

/-- THE SECOND FORM's CARD OF 'wigwaglaw21.RdvPlans'. -/
def rdvPlansUptoCard : Claim7 := { stood := { row := rdvPlansUptoRow, standIns := [], harness := (true, "607aaaf8e7ad0e9200a888a6983d79766d96e9e1bad3dfcaad2febbefc58f4f0"), looks := true }, kinds := [], alts := [], laidByText := true, laidKinds := [.handle], laidTests := true, laidLooks := .later }
def RdvPlansUptoCardSaid : Prop := Claim7.holds Tryz.pinned (.plain (OpenSpec.upto rdvPlansSpec)) rdvPlansUptoCard

/-- THE SECOND FORM's CARD OF 'wigwaglaw21.RdvFew'. -/
def rdvFewUptoCard : Claim7 := { stood := { row := rdvFewUptoRow, standIns := [], harness := (true, "607aaaf8e7ad0e9200a888a6983d79766d96e9e1bad3dfcaad2febbefc58f4f0"), looks := true }, kinds := [], alts := [], laidByText := true, laidKinds := [.handle], laidTests := true, laidLooks := .later }
def RdvFewUptoCardSaid : Prop := Claim7.holds Tryz.pinned (.plain (OpenSpec.upto rdvFewSpec)) rdvFewUptoCard

/-- THE SECOND FORM's CARD OF 'wigwaglaw21.RdvOwner'. -/
def rdvOwnerUptoCard : Claim7 := { stood := { row := rdvOwnerUptoRow, standIns := [], harness := (true, "607aaaf8e7ad0e9200a888a6983d79766d96e9e1bad3dfcaad2febbefc58f4f0"), looks := true }, kinds := [], alts := [], laidByText := true, laidKinds := [.handle], laidTests := true, laidLooks := .later }
def RdvOwnerUptoCardSaid : Prop := Claim7.holds Tryz.pinned (.plain (OpenSpec.upto rdvOwnerSpec)) rdvOwnerUptoCard

/-- THE SECOND FORM's CARD OF 'wigwaglaw21.RdvStores'. -/
def rdvStoresUptoCard : Claim7 := { stood := { row := rdvStoresUptoRow, standIns := [], harness := (true, "607aaaf8e7ad0e9200a888a6983d79766d96e9e1bad3dfcaad2febbefc58f4f0"), looks := true }, kinds := [], alts := [], laidByText := true, laidKinds := [.handle], laidTests := true, laidLooks := .later }
def RdvStoresUptoCardSaid : Prop := Claim7.holds Tryz.pinned (.plain (OpenSpec.upto rdvStoresSpec)) rdvStoresUptoCard

/-- THE SECOND FORM's CARD OF 'wigwaglaw21.RdvKept'. -/
def rdvKeptUptoCard : Claim7 := { stood := { row := rdvKeptUptoRow, standIns := [], harness := (true, "607aaaf8e7ad0e9200a888a6983d79766d96e9e1bad3dfcaad2febbefc58f4f0"), looks := true }, kinds := [], alts := [], laidByText := true, laidKinds := [.handle], laidTests := true, laidLooks := .later }
def RdvKeptUptoCardSaid : Prop := Claim7.holds Tryz.pinned (.plain (OpenSpec.upto rdvKeptSpec)) rdvKeptUptoCard

/-- THE SECOND FORM's CARD OF 'wigwagtop.WigwagWays'. -/
def wigwagWaysUptoCard : Claim7 := { stood := { row := wigwagWaysUptoRow, standIns := [], harness := (true, "607aaaf8e7ad0e9200a888a6983d79766d96e9e1bad3dfcaad2febbefc58f4f0"), looks := true }, kinds := [], alts := [], laidByText := true, laidKinds := [.handle], laidTests := true, laidLooks := .later }
def WigwagWaysUptoCardSaid : Prop := Claim7.holds Tryz.pinned (.plain (OpenSpec.upto wigwagWaysSpec)) wigwagWaysUptoCard
end Rows
end Go.Proofs.YtidlmlecgjoddaaGreatDoor
