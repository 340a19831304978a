/-
  api.Of: the code of an error: errors.As of a fault, at a code. TURNED out of the kit's worked example of errors.As (Toyas).
-/
import Derived.Test.YtahiahjhpakeiaaGreatDoorKept12
import Derived.LaidEql
import Derived.Stop.Asserts
import Derived.RowKitTokens
section
namespace Go.Proofs.YtahiahjhpakeiaaGreatDoor
open Go.RowKit Go.Extern.Stop Go.Stop Go.Extern
set_option linter.unusedVariables false
set_option linter.unusedSimpArgs false
attribute [local go_sem] later_cell later_frozen later_lt

/-! ### Closed facts on the model's entries for internal/reflectlite -/
/-- The one listed variable. -/
def HandleAt (w : World) : Prop := w.cell? ⟨0, 0, none⟩ = some (.iface 236 (.agg #[.pointer (some ⟨1, 60, none⟩)]))
end Go.Proofs.YtahiahjhpakeiaaGreatDoor
end
