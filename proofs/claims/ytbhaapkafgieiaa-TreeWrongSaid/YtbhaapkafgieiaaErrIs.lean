
/-
  errors.Is of a fault and a code: is the fault's code that one?
-/
import Derived.Test.YtbhaapkafgieiaaChordS
import Derived.LaidEql
import Derived.Stop.Asserts
import Derived.RowKitTokens
namespace Go.Proofs.Ytbhaapkafgieiaa
open Go.RowKit Go.Extern.Stop Go.Stop Go.Extern
set_option linter.unusedVariables false
set_option linter.unusedSimpArgs false
attribute [local go_sem] later_cell later_frozen later_lt

/-! '==' between two errors that are constants of one integer type (the kit's note 10). -/
section
variable {P : Program} (w : World)
theorem run_equalIn_iface_int (d : Nat) {ti tn : TypeId} {ms : Array (String × TypeId)} {i : TypeInfo} {k : IntKind} (a b : Int)
    (hi : P.underlying ti = some (.interface ms)) (hn : P.underlying tn = some (.int k)) (hinfo : P.info? tn = some i) (hcomp : i.comparable = true) :
    (Op.equalIn (d + 2) ti (.iface tn (.int k a)) (.iface tn (.int k b))).run P w = .ok (a == b) w := by
  simp [Op.equalIn, run_underlying hi, run_underlying hn, typeInfo, hinfo, hcomp]
theorem run_eql_iface_int {ti tn : TypeId} {ms : Array (String × TypeId)} {i : TypeInfo} {k : IntKind} (a b : Int)
    (hi : P.underlying ti = some (.interface ms)) (hn : P.underlying tn = some (.int k)) (hinfo : P.info? tn = some i) (hcomp : i.comparable = true) :
    (binOp .eql ti (.iface tn (.int k a)) (.iface tn (.int k b))).run P w = .ok (.bool (a == b)) w := by
  simp only [binOp]
  simp [Op.equal, Op.maxDepth, run_equalIn_iface_int w 9998 a b hi hn hinfo hcomp]
end
theorem isTypeOf (v : Value) (w : World) : (Extern.ReflectliteType.typeOf #[.iface 44 v]).run Try.prog w = .ok (.iface 99 (.agg #[.pointer (some ⟨0, 44, none⟩)])) w := by kernel_rfl
noncomputable def extC := Extern.ReflectliteType.method fun t => do Go.Extern.Rtype.noPackHeld "Comparable" t; pure (.bool (← typeInfo t).comparable)
theorem isComparable (w : World) : (extC #[.agg #[.pointer (some ⟨0, 44, none⟩)]]).run Try.prog w = .ok (.bool true) w := by kernel_rfl
theorem isMethodComparable (k : Nat) (v : Value) (w : World) : (Go.method (k + 1) 99 v "Comparable").run Try.prog w = .ok (125, v) w := by kernel_rfl
theorem isComp : (Try.prog.info? 44).map (·.comparable) = some true := by kernel_rfl
theorem noIsF (v : Value) (xT : TypeId) (w : World) : (Instr.typeAssert (.iface 91 v) xT 101 true).run Try.prog w = .ok (.tuple #[.nilIface, .bool false]) w := run_typeAssert_lacksB Try.underlying101 (by kernel_rfl) (by kernel_rfl) v xT w
theorem noIsC (v : Value) (xT : TypeId) (w : World) : (Instr.typeAssert (.iface 44 v) xT 101 true).run Try.prog w = .ok (.tuple #[.nilIface, .bool false]) w := run_typeAssert_lacksB Try.underlying101 (by kernel_rfl) (by kernel_rfl) v xT w
theorem noUnC (v : Value) (xT : TypeId) (w : World) : (Instr.typeAssert (.iface 44 v) xT 104 true).run Try.prog w = .ok (.tuple #[.nilIface, .bool false]) w := run_typeAssert_lacksB Try.underlying104 (by kernel_rfl) (by kernel_rfl) v xT w
theorem noUnsC (v : Value) (xT : TypeId) (w : World) : (Instr.typeAssert (.iface 44 v) xT 106 true).run Try.prog w = .ok (.tuple #[.nilIface, .bool false]) w := run_typeAssert_lacksB Try.underlying106 (by kernel_rfl) (by kernel_rfl) v xT w
theorem hasUnF (v : Value) (xT : TypeId) (w : World) : (Instr.typeAssert (.iface 91 v) xT 104 true).run Try.prog w = .ok (.tuple #[.iface 91 v, .bool true]) w := run_typeAssert_hasB Try.underlying104 (by kernel_rfl) v xT w
theorem methodUnwrap (k : Nat) (v : Value) (w : World) : (Go.method (k + 1) 91 v "Unwrap").run Try.prog w = .ok (121, v) w := by kernel_rfl
set_option maxRecDepth 100000 in
set_option maxHeartbeats 4000000 in
theorem is_code (b : Nat) (c t : Int) (w : World) (hc : w.cell? ⟨b, 2, none⟩ = some (.iface 44 (.int .i64 c))) :
    Calls Try.prog 15 #[.iface 91 (.pointer (some ⟨b, 0, none⟩)), .iface 44 (.int .i64 t)] w fun e w' => e = .returned (.bool (c == t)) ∧ w = w' := by
  obtain ⟨i, hi, hcmp⟩ := Option.map_eq_some_iff.1 isComp
  have h8 := @run_callFunc_extern Try.prog 29 _ Extern.ReflectliteType.typeOf Try.func29 (by kernel_rfl) (by kernel_rfl) (by kernel_rfl) (by kernel_rfl)
  have h32 := @run_callFunc_extern Try.prog 125 _ extC Try.func125 (by kernel_rfl) (by kernel_rfl) (by kernel_rfl) (by kernel_rfl)
  have tT := isTypeOf
  have cT := isComparable
  have mR := isMethodComparable
  have n1 := noIsF
  have n2 := noIsC
  have n3 := noUnC
  have n4 := noUnsC
  have n5 := hasUnF
  have mU := methodUnwrap
  have heq := run_eql_iface_int (P := Try.prog) w c t Try.underlying27 Try.underlying44 hi hcmp
  have hty := run_eql_iface_types (P := Try.prog) 91 44 (.pointer (some ⟨b, 0, none⟩)) (.int .i64 t) Try.underlying27 (by decide) w
  cases hq : c == t
  all_goals
    rw [hq] at heq
    clear hq
    go_enter Try.func15, Try.ntmps15
    go_wp2
    refine wp_loop_rounds 2 ?_
    rw [rounds_succ]
    go_wp2
    rw [rounds_succ]
    go_wp2
    go_ret
    exact ⟨rfl, rfl⟩
end Go.Proofs.Ytbhaapkafgieiaa
