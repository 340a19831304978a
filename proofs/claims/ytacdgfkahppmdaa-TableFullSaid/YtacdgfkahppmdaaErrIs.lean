
/-
  errors.Is of a fault and a code: is the fault's code that one?
-/
import Derived.Test.YtacdgfkahppmdaaRows
import Derived.Test.YtacdgfkahppmdaaRingA
import Derived.Test.YtacdgfkahppmdaaLater
import Derived.LaidEql
import Derived.Stop.Asserts
import Derived.RowKitTokens
namespace Go.Proofs.Ytacdgfkahppmdaa
open Go.RowKit Go.Extern.Stop Go.Stop Go.Extern
set_option linter.unusedVariables false
set_option linter.unusedSimpArgs false
attribute [local go_sem] later_cell later_frozen later_lt

/-! '==' between two errors that are constants of one integer type (the kit's note 10). -/
section
variable {P : Program} (w : World)
theorem run_equalIn_iface_int (d : Nat) {ti tn : TypeId} {ms : Array (String × TypeId)} {i : TypeInfo} {k : IntKind} (a b : Int)
    (hi : P.underlying ti = some (.interface ms)) (hn : P.underlying tn = some (.int k)) (hinfo : P.info? tn = some i) (hcomp : i.comparable = true) :
    (Op.equalIn (d + 2) ti (.iface tn (.int k a)) (.iface tn (.int k b))).run P w = .ok (a == b) w := by
  simp [Op.equalIn, run_underlying hi, run_underlying hn, typeInfo, hinfo, hcomp]
theorem run_eql_iface_int {ti tn : TypeId} {ms : Array (String × TypeId)} {i : TypeInfo} {k : IntKind} (a b : Int)
    (hi : P.underlying ti = some (.interface ms)) (hn : P.underlying tn = some (.int k)) (hinfo : P.info? tn = some i) (hcomp : i.comparable = true) :
    (binOp .eql ti (.iface tn (.int k a)) (.iface tn (.int k b))).run P w = .ok (.bool (a == b)) w := by
  simp only [binOp]
  simp [Op.equal, Op.maxDepth, run_equalIn_iface_int w 9998 a b hi hn hinfo hcomp]
end
theorem isTypeOf (v : Value) (w : World) : (Extern.ReflectliteType.typeOf #[.iface 45 v]).run Try.prog w = .ok (.iface 84 (.agg #[.pointer (some ⟨0, 45, none⟩)])) w := by kernel_rfl
noncomputable def extC := Extern.ReflectliteType.method fun t => do Go.Extern.Rtype.noPackHeld "Comparable" t; pure (.bool (← typeInfo t).comparable)
theorem isComparable (w : World) : (extC #[.agg #[.pointer (some ⟨0, 45, none⟩)]]).run Try.prog w = .ok (.bool true) w := by kernel_rfl
theorem isMethodComparable (k : Nat) (v : Value) (w : World) : (Go.method (k + 1) 84 v "Comparable").run Try.prog w = .ok (92, v) w := by kernel_rfl
theorem isComp : (Try.prog.info? 45).map (·.comparable) = some true := by kernel_rfl
theorem noIsF (v : Value) (xT : TypeId) (w : World) : (Instr.typeAssert (.iface 71 v) xT 86 true).run Try.prog w = .ok (.tuple #[.nilIface, .bool false]) w := run_typeAssert_lacksB Try.underlying86 (by kernel_rfl) (by kernel_rfl) v xT w
theorem noIsC (v : Value) (xT : TypeId) (w : World) : (Instr.typeAssert (.iface 45 v) xT 86 true).run Try.prog w = .ok (.tuple #[.nilIface, .bool false]) w := run_typeAssert_lacksB Try.underlying86 (by kernel_rfl) (by kernel_rfl) v xT w
theorem noUnC (v : Value) (xT : TypeId) (w : World) : (Instr.typeAssert (.iface 45 v) xT 89 true).run Try.prog w = .ok (.tuple #[.nilIface, .bool false]) w := run_typeAssert_lacksB Try.underlying89 (by kernel_rfl) (by kernel_rfl) v xT w
theorem noUnsC (v : Value) (xT : TypeId) (w : World) : (Instr.typeAssert (.iface 45 v) xT 91 true).run Try.prog w = .ok (.tuple #[.nilIface, .bool false]) w := run_typeAssert_lacksB Try.underlying91 (by kernel_rfl) (by kernel_rfl) v xT w
theorem hasUnF (v : Value) (xT : TypeId) (w : World) : (Instr.typeAssert (.iface 71 v) xT 89 true).run Try.prog w = .ok (.tuple #[.iface 71 v, .bool true]) w := run_typeAssert_hasB Try.underlying89 (by kernel_rfl) v xT w
theorem methodUnwrap (k : Nat) (v : Value) (w : World) : (Go.method (k + 1) 71 v "Unwrap").run Try.prog w = .ok (88, v) w := by kernel_rfl
set_option maxRecDepth 100000 in
set_option maxHeartbeats 4000000 in
theorem is_code (b : Nat) (c t : Int) (w : World) (hc : w.cell? ⟨b, 2, none⟩ = some (.iface 45 (.int .i64 c))) :
    Calls Try.prog 18 #[.iface 71 (.pointer (some ⟨b, 0, none⟩)), .iface 45 (.int .i64 t)] w fun e w' => e = .returned (.bool (c == t)) ∧ w = w' := by
  obtain ⟨i, hi, hcmp⟩ := Option.map_eq_some_iff.1 isComp
  have h8 := @run_callFunc_extern Try.prog 32 _ Extern.ReflectliteType.typeOf Try.func32 (by kernel_rfl) (by kernel_rfl) (by kernel_rfl) (by kernel_rfl)
  have h32 := @run_callFunc_extern Try.prog 92 _ extC Try.func92 (by kernel_rfl) (by kernel_rfl) (by kernel_rfl) (by kernel_rfl)
  have tT := isTypeOf
  have cT := isComparable
  have mR := isMethodComparable
  have n1 := noIsF
  have n2 := noIsC
  have n3 := noUnC
  have n4 := noUnsC
  have n5 := hasUnF
  have mU := methodUnwrap
  have heq := run_eql_iface_int (P := Try.prog) w c t Try.underlying26 Try.underlying45 hi hcmp
  have hty := run_eql_iface_types (P := Try.prog) 71 45 (.pointer (some ⟨b, 0, none⟩)) (.int .i64 t) Try.underlying26 (by decide) w
  cases hq : c == t
  all_goals
    rw [hq] at heq
    clear hq
    go_enter Try.func18, Try.ntmps18
    go_wp2
    refine wp_loop_rounds 2 ?_
    rw [rounds_succ]
    go_wp2
    rw [rounds_succ]
    go_wp2
    go_ret
    exact ⟨rfl, rfl⟩
end Go.Proofs.Ytacdgfkahppmdaa
