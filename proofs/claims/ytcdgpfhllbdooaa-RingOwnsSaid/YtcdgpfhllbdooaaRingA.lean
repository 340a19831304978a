/-
  What the functions of layer 1 that compute with numbers alone answer: Dist, Within, In, Start, and the reference's; for all places.
-/
import Derived.Test.YtcdgpfhllbdooaaRows
import Derived.Test.YtcdgpfhllbdooaaBase
import Derived.WalkKit
import Derived.WalkLawsBesides
import Derived.Deep.QuietTactic
import Derived.BigQuiet
import Derived.Deep.Draws
import Derived.Laws.Bits64
import Derived.IntWalk
import Derived.Lib.Hide
import Derived.Deep.Light
namespace Go.Proofs.Ytcdgpfhllbdooaa
open Go.RowKit
set_option linter.unusedVariables false
set_option linter.unusedSimpArgs false

/-- How far it is from one place on to another one. -/
def dist (a b : Int) : Int := (b - a) % 18446744073709551616
def inB (x a b : Int) : Bool := a == b || (dist a x != 0 && decide (dist a x ≤ dist a b))
def withinB (x a b : Int) : Bool := if a == b then x != a else x != a && decide (dist a x < dist a b)
def isPlace (a : Int) : Prop := 0 ≤ a ∧ a < 18446744073709551616
def start (x n : Int) : Int := if 0 ≤ n ∧ n ≤ 63 then (x + 2 ^ n.toNat) % 18446744073709551616 else x

theorem dist_any (a b : Int) (w : World) :
    Calls Try.prog 18 #[.int .u64 a, .int .u64 b] w fun e w' => e = .returned (.int .u64 (dist a b)) ∧ w = w' := by
  go_enter Try.func18, Try.ntmps18
  go_wp2
  go_ret
  exact ⟨by rw [IntKind.wrap_u64]; rfl, rfl⟩

theorem in_any (x a b : Int) (w : World) :
    Calls Try.prog 25 #[.int .u64 x, .int .u64 a, .int .u64 b] w fun e w' => e = .returned (.bool (inB x a b)) ∧ w = w' := by
  go_enter Try.func25, Try.ntmps25
  go_wp2_with (go_at_call 18; refine (dist_any _ _ _).mono ?_; rintro e w' ⟨rfl, rfl⟩)
  all_goals (go_ret; go_light; exact ⟨by simp_all [inB], rfl⟩)

theorem within_any (x a b : Int) (w : World) :
    Calls Try.prog 24 #[.int .u64 x, .int .u64 a, .int .u64 b] w fun e w' => e = .returned (.bool (withinB x a b)) ∧ w = w' := by
  go_enter Try.func24, Try.ntmps24
  go_wp2_with (go_at_call 18; refine (dist_any _ _ _).mono ?_; rintro e w' ⟨rfl, rfl⟩)
  all_goals (go_ret; go_light; exact ⟨by simp_all [withinB], rfl⟩)
end Go.Proofs.Ytcdgpfhllbdooaa
