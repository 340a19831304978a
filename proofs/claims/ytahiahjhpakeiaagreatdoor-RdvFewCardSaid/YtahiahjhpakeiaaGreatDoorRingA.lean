/-
  What the functions of layer 1 that compute with numbers alone answer: Dist, Within, In, Start, and the reference's; for all places.
-/
import Derived.Test.YtahiahjhpakeiaaGreatDoorRows
import Derived.Test.YtahiahjhpakeiaaGreatDoorBase
import Derived.WalkKit
import Derived.WalkLawsBesides
import Derived.Deep.QuietTactic
import Derived.BigQuiet
import Derived.Deep.Draws
import Derived.Laws.Bits64
import Derived.IntWalk
import Derived.Lib.Hide
import Derived.Deep.Light
namespace Go.Proofs.YtahiahjhpakeiaaGreatDoor
open Go.RowKit
set_option linter.unusedVariables false
set_option linter.unusedSimpArgs false

def start (x n : Int) : Int := if 0 ≤ n ∧ n ≤ 63 then (x + 2 ^ n.toNat) % 18446744073709551616 else x

theorem dist_any (a b : Int) (w : World) :
    Calls Tryz.prog 118 #[.int .u64 a, .int .u64 b] w fun e w' => e = .returned (.int .u64 (dist a b)) ∧ w = w' := by
  go_enter Tryz.func118, Tryz.ntmps118
  go_wp2
  go_ret
  exact ⟨by rw [IntKind.wrap_u64]; rfl, rfl⟩

theorem within_any (x a b : Int) (w : World) :
    Calls Tryz.prog 72 #[.int .u64 x, .int .u64 a, .int .u64 b] w fun e w' => e = .returned (.bool (withinB x a b)) ∧ w = w' := by
  go_enter Tryz.func72, Tryz.ntmps72
  go_wp2_with (go_at_call 118; refine (dist_any _ _ _).mono ?_; rintro e w' ⟨rfl, rfl⟩)
  all_goals (go_ret; go_light; exact ⟨by simp_all [withinB], rfl⟩)
end Go.Proofs.YtahiahjhpakeiaaGreatDoor
