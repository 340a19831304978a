
/-
  api.Of: the code of an error: errors.As of a fault, at a code.
  TURNED out of the kit's worked example of errors.As (Toyas).
-/
import Derived.Test.YtahiahjhpakeiaaGreatDoorChordS
import Derived.LaidEql
import Derived.Stop.Asserts
import Derived.RowKitTokens
namespace Go.Proofs.YtahiahjhpakeiaaGreatDoor
open Go.RowKit Go.Extern.Stop Go.Stop Go.Extern
set_option linter.unusedVariables false
set_option linter.unusedSimpArgs false
attribute [local go_sem] later_cell later_frozen later_lt

/-! ### Closed facts on the model's entries for internal/reflectlite -/
theorem as_valueOfT (t : Addr) (w : World) : (ReflectliteValue.unpack (.iface 173 (.pointer (some t)))).run Tryz.prog w
    = .ok (.agg #[.pointer (some ⟨1, 173, none⟩), .pointer (some ⟨w.heap.size, 0, none⟩), .int .u64 150]) (w.alloc (.cells #[.pointer (some t)] 173)) := by kernel_rfl
theorem as_typeT (a : Addr) (w : World) : (ReflectliteValue.methodAny (ReflectliteValue.valueError "reflectlite.Value.Type" 0) (fun t _ _ _ => ReflectliteType.toType t) #[.agg #[.pointer (some ⟨1, 173, none⟩), .pointer (some a), .int .u64 150]]).run Tryz.prog w
    = .ok (.iface 236 (.agg #[.pointer (some ⟨1, 173, none⟩)])) w := by kernel_rfl
theorem as_methodKind (k : Nat) (h : Value) (w : World) : (Go.method (k + 1) 236 (.agg #[h]) "Kind").run Tryz.prog w = .ok (209, h) w := by kernel_rfl
noncomputable def extKind := ReflectliteType.abiMethod fun t => do pure (.int .u8 (← Rtype.kind t))
theorem as_kindT (w : World) : (extKind #[.pointer (some ⟨1, 173, none⟩)]).run Tryz.prog w = .ok (.int .u8 22) w := by kernel_rfl
theorem as_kindC (w : World) : (extKind #[.pointer (some ⟨1, 109, none⟩)]).run Tryz.prog w = .ok (.int .u8 2) w := by kernel_rfl
theorem rlm (z : Sem Value) (f : TypeId → Addr → Nat → Nat → Sem Value) (v : Value) :
    ReflectliteValue.method z f #[v] = (do match ← ReflectliteValue.parts v with | none => z | some (t, a, fl) => f t a fl (fl % 32)) := rfl
theorem as_partsT (a : Addr) (w : World) : (ReflectliteValue.parts (.agg #[.pointer (some ⟨1, 173, none⟩), .pointer (some a), .int .u64 150])).run Tryz.prog w = .ok (some (173, a, 150)) w := by kernel_rfl
theorem as_isNil (a p : Addr) (W : World) (ha : W.cell? a = some (.pointer (some p))) :
    (ReflectliteValue.method (ReflectliteValue.valueError "reflectlite.Value.IsNil" 0) ReflectliteValue.isNil #[.agg #[.pointer (some ⟨1, 173, none⟩), .pointer (some a), .int .u64 150]]).run Tryz.prog W = .ok (.bool false) W := by
  rw [rlm]
  simp only [Sem.run_bind, as_partsT, Result.andThen]
  simp [ReflectliteValue.isNil, loadVar, isAgg, underlying, Tryz.underlying173, ha, Result.andThen]
theorem as_methodElem (k : Nat) (h : Value) (w : World) : (Go.method (k + 1) 236 (.agg #[h]) "Elem").run Tryz.prog w = .ok (222, .agg #[h]) w := by kernel_rfl
theorem as_methodImpl (k : Nat) (h : Value) (w : World) : (Go.method (k + 1) 236 (.agg #[h]) "Implements").run Tryz.prog w = .ok (223, .agg #[h]) w := by kernel_rfl
theorem as_methodAssign (k : Nat) (h : Value) (w : World) : (Go.method (k + 1) 236 (.agg #[h]) "AssignableTo").run Tryz.prog w = .ok (220, .agg #[h]) w := by kernel_rfl
theorem as_elemT (w : World) : (ReflectliteType.method ReflectliteType.elem #[.agg #[.pointer (some ⟨1, 173, none⟩)]]).run Tryz.prog w = .ok (.iface 236 (.agg #[.pointer (some ⟨1, 109, none⟩)])) w := by kernel_rfl
theorem as_implC (w : World) : (ReflectliteType.relation "Implements" ReflectliteType.implements_ #[.agg #[.pointer (some ⟨1, 109, none⟩)], .iface 236 (.agg #[.pointer (some ⟨1, 60, none⟩)])]).run Tryz.prog w = .ok (.bool true) w := by kernel_rfl
theorem as_typeOfF (v : Value) (w : World) : (ReflectliteType.typeOf #[.iface 146 v]).run Tryz.prog w = .ok (.iface 236 (.agg #[.pointer (some ⟨1, 146, none⟩)])) w := by kernel_rfl
theorem as_typeOfC (v : Value) (w : World) : (ReflectliteType.typeOf #[.iface 109 v]).run Tryz.prog w = .ok (.iface 236 (.agg #[.pointer (some ⟨1, 109, none⟩)])) w := by kernel_rfl
theorem as_assignF (w : World) : (ReflectliteType.relation "AssignableTo" ReflectliteType.assignableTo #[.agg #[.pointer (some ⟨1, 146, none⟩)], .iface 236 (.agg #[.pointer (some ⟨1, 109, none⟩)])]).run Tryz.prog w = .ok (.bool false) w := by kernel_rfl
theorem as_assignC (w : World) : (ReflectliteType.relation "AssignableTo" ReflectliteType.assignableTo #[.agg #[.pointer (some ⟨1, 109, none⟩)], .iface 236 (.agg #[.pointer (some ⟨1, 109, none⟩)])]).run Tryz.prog w = .ok (.bool true) w := by kernel_rfl
theorem as_valueOfC (c : Int) (w : World) : (ReflectliteValue.unpack (.iface 109 (.int .i64 c))).run Tryz.prog w
    = .ok (.agg #[.pointer (some ⟨1, 109, none⟩), .pointer (some ⟨w.heap.size, 0, none⟩), .int .u64 130]) (w.alloc (.cells #[.int .i64 c] 109)) := by kernel_rfl
theorem as_elemOfT (w : World) : (Rtype.elem? 173).run Tryz.prog w = .ok (some 109) w := by kernel_rfl
theorem as_mkC (p : Addr) (w : World) : (ReflectliteValue.mk 109 p ReflectliteValue.flagAddr).run Tryz.prog w = .ok (.agg #[.pointer (some ⟨1, 109, none⟩), .pointer (some p), .int .u64 386]) w := by kernel_rfl
theorem as_elemV (a p : Addr) (W : World) (ha : W.cell? a = some (.pointer (some p))) :
    (ReflectliteValue.method (ReflectliteValue.valueError "reflectlite.Value.Elem" 0) ReflectliteValue.elem #[.agg #[.pointer (some ⟨1, 173, none⟩), .pointer (some a), .int .u64 150]]).run Tryz.prog W
      = .ok (.agg #[.pointer (some ⟨1, 109, none⟩), .pointer (some p), .int .u64 386]) W := by
  rw [rlm]
  simp only [Sem.run_bind, as_partsT, Result.andThen]
  simp [ReflectliteValue.elem, loadVar, isAgg, underlying, Tryz.underlying173, ha, Result.andThen, as_elemOfT, as_mkC]
theorem rls (v x : Value) : ReflectliteValue.set #[v, x] = (do
    let (some (dst, a, fl), some (src, b, _)) := (← ReflectliteValue.parts v, ← ReflectliteValue.parts x)
      | unsupported (.noEntry "extern/(internal/reflectlite.Value).Set.zeroValue")
    if fl / ReflectliteValue.flagAddr % 2 == 0 then unsupported (.noEntry "extern/(internal/reflectlite.Value).Set.unaddressable")
    let val ← loadVar src b
    if ← Rtype.directlyAssignable dst src then storeVar dst a val
    else if ← Rtype.implements dst src then
      if (← Rtype.kind src) == 20 then
        match val with
        | .nilIface => unsupported (.noEntry "extern/reflectlite: a nil value of one interface type handed on as a value of another")
        | _ => storeVar dst a val
      else storeVar dst a (.iface src val)
    else panicString ("reflectlite.Set: value of type " ++ (← Rtype.spelt src) ++ " is not assignable to type " ++ (← Rtype.spelt dst))
    pure (.tuple #[])) := rfl
theorem as_partsCa (a : Addr) (w : World) : (ReflectliteValue.parts (.agg #[.pointer (some ⟨1, 109, none⟩), .pointer (some a), .int .u64 386])).run Tryz.prog w = .ok (some (109, a, 386)) w := by kernel_rfl
theorem as_partsC (a : Addr) (w : World) : (ReflectliteValue.parts (.agg #[.pointer (some ⟨1, 109, none⟩), .pointer (some a), .int .u64 130])).run Tryz.prog w = .ok (some (109, a, 130)) w := by kernel_rfl
theorem as_direct (w : World) : (Rtype.directlyAssignable 109 109).run Tryz.prog w = .ok true w := by kernel_rfl
theorem as_set (ta b : Addr) (c : Int) (old : Value) (W : World) (hb : W.cell? b = some (.int .i64 c)) (ht : W.cell? ta = some old) (hf : W.frozen? ta = false) :
    (ReflectliteValue.set #[.agg #[.pointer (some ⟨1, 109, none⟩), .pointer (some ta), .int .u64 386], .agg #[.pointer (some ⟨1, 109, none⟩), .pointer (some b), .int .u64 130]]).run Tryz.prog W
      = .ok (.tuple #[]) (W.setCell ta (.int .i64 c)) := by
  rw [rls]
  simp only [Sem.run_bind, as_partsCa, as_partsC, Result.andThen]
  simp [ReflectliteValue.flagAddr, loadVar, isAgg, underlying, Tryz.underlying109, hb, Result.andThen, as_direct, storeVar, Value.cells, storeCells, Addr.add]
  rw [run_store Tryz.prog W ta _ _ (by rfl)]
  simp [ht, hf]
theorem as_noF (v : Value) (xT : TypeId) (w : World) : (Instr.typeAssert (.iface 146 v) xT 241 true).run Tryz.prog w = .ok (.tuple #[.nilIface, .bool false]) w := run_typeAssert_lacksB Tryz.underlying241 (by kernel_rfl) (by kernel_rfl) v xT w
theorem as_hasUn (v : Value) (xT : TypeId) (w : World) : (Instr.typeAssert (.iface 146 v) xT 244 true).run Tryz.prog w = .ok (.tuple #[.iface 146 v, .bool true]) w := run_typeAssert_hasB Tryz.underlying244 (by kernel_rfl) v xT w
theorem as_methodUnwrap (k : Nat) (v : Value) (w : World) : (Go.method (k + 1) 146 v "Unwrap").run Tryz.prog w = .ok (214, v) w := by kernel_rfl
/-- The one listed variable. -/
def HandleAt (w : World) : Prop := w.cell? ⟨0, 0, none⟩ = some (.iface 236 (.agg #[.pointer (some ⟨1, 60, none⟩)]))
theorem HandleAt.lt {w : World} (hg : HandleAt w) : 0 < w.heap.size := by
  unfold HandleAt at hg
  rcases Nat.eq_zero_or_pos w.heap.size with h0 | h
  · simp [World.cell?, h0] at hg
  · exact h
theorem HandleAt.below {w w' : World} (hg : HandleAt w) (hb : RowKit.Below w.heap.size w w') : HandleAt w' := (hb.cell (p := ⟨0, 0, none⟩) hg.lt).trans hg
set_option maxRecDepth 100000 in
set_option maxHeartbeats 8000000 in
theorem as_code (b : Nat) (c : Int) (t : Nat) (old : Value) (w : World) (hg : HandleAt w) (hc : w.cell? ⟨b, 2, none⟩ = some (.iface 109 (.int .i64 c))) (ht0 : w.cell? ⟨t, 0, none⟩ = some old) (hf0 : w.frozen? ⟨t, 0, none⟩ = false) :
    Calls Tryz.prog 104 #[.iface 146 (.pointer (some ⟨b, 0, none⟩)), .iface 173 (.pointer (some ⟨t, 0, none⟩))] w fun ev w' => ev = .returned (.bool true) ∧ ∃ W, RowKit.Below w.heap.size w W ∧ w' = W.setCell ⟨t, 0, none⟩ (.int .i64 c) := by
  have h6 := @run_callFunc_extern Tryz.prog 133 _ (fun args => ReflectliteValue.unpack (args.getD 0 (.tuple #[]))) Tryz.func133 (by kernel_rfl) (by kernel_rfl) (by kernel_rfl) (by kernel_rfl)
  have h7 := @run_callFunc_extern Tryz.prog 134 _ (ReflectliteValue.methodAny (ReflectliteValue.valueError "reflectlite.Value.Type" 0) (fun t _ _ _ => ReflectliteType.toType t)) Tryz.func134 (by kernel_rfl) (by kernel_rfl) (by kernel_rfl) (by kernel_rfl)
  have h8 := @run_callFunc_extern Tryz.prog 135 _ (ReflectliteValue.method (ReflectliteValue.valueError "reflectlite.Value.IsNil" 0) ReflectliteValue.isNil) Tryz.func135 (by kernel_rfl) (by kernel_rfl) (by kernel_rfl) (by kernel_rfl)
  have h27 := @run_callFunc_extern Tryz.prog 209 _ extKind Tryz.func209 (by kernel_rfl) (by kernel_rfl) (by kernel_rfl) (by kernel_rfl)
  have h37 := @run_callFunc_extern Tryz.prog 222 _ (ReflectliteType.method ReflectliteType.elem) Tryz.func222 (by kernel_rfl) (by kernel_rfl) (by kernel_rfl) (by kernel_rfl)
  have h38 := @run_callFunc_extern Tryz.prog 223 _ (ReflectliteType.relation "Implements" ReflectliteType.implements_) Tryz.func223 (by kernel_rfl) (by kernel_rfl) (by kernel_rfl) (by kernel_rfl)
  have h10 := @run_callFunc_extern Tryz.prog 166 _ ReflectliteType.typeOf Tryz.func166 (by kernel_rfl) (by kernel_rfl) (by kernel_rfl) (by kernel_rfl)
  have h35 := @run_callFunc_extern Tryz.prog 220 _ (ReflectliteType.relation "AssignableTo" ReflectliteType.assignableTo) Tryz.func220 (by kernel_rfl) (by kernel_rfl) (by kernel_rfl) (by kernel_rfl)
  have h11 := @run_callFunc_extern Tryz.prog 167 _ (ReflectliteValue.method (ReflectliteValue.valueError "reflectlite.Value.Elem" 0) ReflectliteValue.elem) Tryz.func167 (by kernel_rfl) (by kernel_rfl) (by kernel_rfl) (by kernel_rfl)
  have h12 := @run_callFunc_extern Tryz.prog 168 _ ReflectliteValue.set Tryz.func168 (by kernel_rfl) (by kernel_rfl) (by kernel_rfl) (by kernel_rfl)
  have q1 := as_typeOfF
  have q2 := as_typeOfC
  have q3 := as_methodAssign
  have q4 := as_assignF
  have q5 := as_assignC
  have q6 := as_valueOfC
  have q7 := as_valueOfT
  have q8 := as_typeT
  have q9 := as_methodKind
  have q10 := as_methodElem
  have q11 := as_methodImpl
  have q12 := as_kindT
  have q13 := as_kindC
  have q14 := as_elemT
  have q15 := as_implC
  have q16 := as_noF
  have q17 := as_hasUn
  have q18 := as_methodUnwrap
  have hlt := hg.lt
  unfold HandleAt at hg
  have htl : t < w.heap.size := by
    rcases Nat.lt_or_ge t w.heap.size with h | h
    · exact h
    · simp [World.cell?, Array.getElem?_eq_none h] at ht0
  have hbl : b < w.heap.size := by
    rcases Nat.lt_or_ge b w.heap.size with h | h
    · exact h
    · simp [World.cell?, Array.getElem?_eq_none h] at hc
  have n8 := as_isNil ⟨w.heap.size, 0, none⟩ ⟨t, 0, none⟩ ((w.alloc (.cells #[.pointer (some ⟨t, 0, none⟩)] 173)).alloc (.cells #[.pointer (some ⟨1, 173, none⟩), .pointer (some ⟨w.heap.size, 0, none⟩), .int .u64 150] 202)) (by simp)
  have hg2 : ((w.alloc (.cells #[.pointer (some ⟨t, 0, none⟩)] 173)).alloc (.cells #[.pointer (some ⟨1, 173, none⟩), .pointer (some ⟨w.heap.size, 0, none⟩), .int .u64 150] 202)).cell? ⟨0, 0, none⟩ = some (.iface 236 (.agg #[.pointer (some ⟨1, 60, none⟩)])) := by
    rw [World.cell?_alloc_lt _ _ ⟨0, 0, none⟩ (by simp), World.cell?_alloc_lt _ _ ⟨0, 0, none⟩ hlt]; exact hg
  have el := as_elemV ⟨w.heap.size, 0, none⟩ ⟨t, 0, none⟩ (((w.alloc (.cells #[.pointer (some ⟨t, 0, none⟩)] 173)).alloc (.cells #[.pointer (some ⟨1, 173, none⟩), .pointer (some ⟨w.heap.size, 0, none⟩), .int .u64 150] 202)).alloc (.cells #[.pointer (some ⟨1, 173, none⟩), .pointer (some ⟨w.heap.size, 0, none⟩), .int .u64 150] 202)) (by rw [World.cell?_alloc_lt _ _ ⟨w.heap.size, 0, none⟩ (by simp; omega)]; simp)
  have hc3 : (((w.alloc (.cells #[.pointer (some ⟨t, 0, none⟩)] 173)).alloc (.cells #[.pointer (some ⟨1, 173, none⟩), .pointer (some ⟨w.heap.size, 0, none⟩), .int .u64 150] 202)).alloc (.cells #[.pointer (some ⟨1, 173, none⟩), .pointer (some ⟨w.heap.size, 0, none⟩), .int .u64 150] 202)).cell? ⟨b, 2, none⟩ = some (.iface 109 (.int .i64 c)) := by
    rw [World.cell?_alloc_lt _ _ ⟨b, 2, none⟩ (by simp; omega), World.cell?_alloc_lt _ _ ⟨b, 2, none⟩ (by simp; omega), World.cell?_alloc_lt _ _ ⟨b, 2, none⟩ hbl]; exact hc
  have st := as_set ⟨t, 0, none⟩ ⟨w.heap.size + 1 + 1 + 1, 0, none⟩ c old ((((w.alloc (.cells #[.pointer (some ⟨t, 0, none⟩)] 173)).alloc (.cells #[.pointer (some ⟨1, 173, none⟩), .pointer (some ⟨w.heap.size, 0, none⟩), .int .u64 150] 202)).alloc (.cells #[.pointer (some ⟨1, 173, none⟩), .pointer (some ⟨w.heap.size, 0, none⟩), .int .u64 150] 202)).alloc (.cells #[.int .i64 c] 109))
    (by rw [World.cell?_alloc_at _ _ _ _ (by simp)]; rfl)
    (by rw [World.cell?_alloc_lt _ _ ⟨t, 0, none⟩ (by simp; omega), World.cell?_alloc_lt _ _ ⟨t, 0, none⟩ (by simp; omega), World.cell?_alloc_lt _ _ ⟨t, 0, none⟩ (by simp; omega), World.cell?_alloc_lt _ _ ⟨t, 0, none⟩ htl]; exact ht0)
    (by rw [World.frozen?_alloc_old _ _ ⟨t, 0, none⟩ (by simp; omega), World.frozen?_alloc_old _ _ ⟨t, 0, none⟩ (by simp; omega), World.frozen?_alloc_old _ _ ⟨t, 0, none⟩ (by simp; omega), World.frozen?_alloc_old _ _ ⟨t, 0, none⟩ (Nat.ne_of_lt htl)]; exact hf0)
  go_enter Tryz.func104, Tryz.ntmps104
  go_wp2
  refine wp_loop_rounds 2 ?_
  rw [rounds_succ]
  go_wp2
  rw [rounds_succ]
  go_wp2
  go_ret
  refine ⟨rfl, _, ?_, rfl⟩
  (repeat (first | exact Below.refl _ _ | (with_reducible assumption) | (with_reducible refine bel_later ?_ _) | (with_reducible refine bel_alloc ?_ _) | (with_reducible refine bel_drew ?_) | (with_reducible refine bel_drewN ?_ _) | (with_reducible refine bel_set ?_ (by first | (simp; done) | (simp; omega) | (dsimp only; omega)) _)))
set_option maxRecDepth 100000 in
/-- The code of an error of a ring's. -/
theorem of_nil (w : World) : Calls Tryz.prog 47 #[.nilIface] w fun e w' => e = .returned (.int .i64 0) ∧ RowKit.Below w.heap.size w w' := by
  go_enter Tryz.func47, Tryz.ntmps47
  go_wp2
  go_ret
  exact ⟨rfl, RowKit.Below.refl _ _⟩
set_option maxRecDepth 100000 in
theorem of_fault (b : Nat) (c : Int) (w : World) (hg : HandleAt w) (hc : w.cell? ⟨b, 2, none⟩ = some (.iface 109 (.int .i64 c))) (hb : b < w.heap.size) :
    Calls Tryz.prog 47 #[.iface 146 (.pointer (some ⟨b, 0, none⟩))] w fun e w' => e = .returned (.int .i64 c) ∧ RowKit.Below w.heap.size w w' := by
  obtain ⟨wa, hwa⟩ : ∃ z, z = w.alloc (.cells #[.int .i64 0] 109) := ⟨_, rfl⟩
  have B1 : RowKit.Below w.heap.size w wa := by rw [hwa]; exact bel_alloc (RowKit.Below.refl _ _) _
  have ht : wa.cell? ⟨w.heap.size, 0, none⟩ = some (.int .i64 0) := by rw [hwa]; simp [go_sem]
  have hf : wa.frozen? ⟨w.heap.size, 0, none⟩ = false := by rw [hwa]; simp [go_sem]
  have hz : w.heap.size < wa.heap.size := by rw [hwa]; simp
  have CA := Lib.hid (as_code b c w.heap.size (.int .i64 0) wa (hg.below B1) ((B1.cell (p := ⟨b, 2, none⟩) hb).trans hc) ht hf)
  have HW := Lib.hid hwa
  clear hwa hg hc
  go_enter Tryz.func47, Tryz.ntmps47
  go_wp2_with fail
  rw [← HW.out]
  refine CA.out.mono ?_
  rintro e w' ⟨rfl, W, hB, rfl⟩
  have hk : (W.setCell ⟨w.heap.size, 0, none⟩ (.int .i64 c)).cell? ⟨w.heap.size, 0, none⟩ = some (.int .i64 c) := set_at ((hB.cell (p := ⟨w.heap.size, 0, none⟩) hz).trans ht)
  have hB2 : RowKit.Below w.heap.size w (W.setCell ⟨w.heap.size, 0, none⟩ (.int .i64 c)) := bel_set (bel_below B1 hB) (by dsimp only; omega) _
  obtain ⟨w9, hw9⟩ : ∃ z, z = W.setCell ⟨w.heap.size, 0, none⟩ (.int .i64 c) := ⟨_, rfl⟩
  rw [← hw9] at hk hB2 ⊢
  have hz9 := Nat.lt_of_lt_of_le (Nat.lt_succ_self w.heap.size) (show w.heap.size + 1 ≤ w9.heap.size by have := hB.size; rw [hw9, size_set]; omega)
  clear hw9
  go_wp2_with fail
  go_ret
  exact ⟨rfl, hB2⟩
theorem of_code {B : Nat} {w : World} {v : Value} {c : Int} (h : CodeIs B w v c) (hg : HandleAt w) : Calls Tryz.prog 47 #[v] w fun e w' => e = .returned (.int .i64 c) ∧ RowKit.Below w.heap.size w w' := by
  rcases h with ⟨rfl, rfl⟩ | ⟨_, b, rfl, _, hb, hc⟩
  · exact of_nil w
  · exact of_fault b c w hg hc hb
end Go.Proofs.YtahiahjhpakeiaaGreatDoor
