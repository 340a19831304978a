/-
  api.Of: the code of an error: errors.As of a fault, at a code. TURNED out of the kit's worked example of errors.As (Toyas). The ring and the document's ring in memory, side by side: neither lies in the other's blocks.
-/
import Derived.Test.YtahiahjhpakeiaaGreatDoorPlans13
import Derived.Test.YtahiahjhpakeiaaGreatDoorPlans14
import Derived.Test.YtahiahjhpakeiaaGreatDoorPlans28
import Derived.LaidEql
import Derived.Stop.Asserts
import Derived.RowKitTokens
namespace Go.Proofs.YtahiahjhpakeiaaGreatDoor
open Go.RowKit Go.Extern.Stop Go.Stop Go.Extern
set_option linter.unusedVariables false
set_option linter.unusedSimpArgs false
section
attribute [local go_sem] later_cell later_frozen later_lt
theorem as_valueOfT (t:Addr) (w:World):(ReflectliteValue.unpack (.iface 173 (.pointer (some t)))).run Tryz.prog w
 = .ok (.agg #[.pointer (some ⟨1,173,none⟩),.pointer (some ⟨w.heap.size,0,none⟩),.int .u64 150]) (w.alloc (.cells #[.pointer (some t)] 173)):=by kernel_rfl
theorem as_typeT (a:Addr) (w:World):(ReflectliteValue.methodAny (ReflectliteValue.valueError "reflectlite.Value.Type" 0) (fun t _ _ _=>ReflectliteType.toType t) #[.agg #[.pointer (some ⟨1,173,none⟩),.pointer (some a),.int .u64 150]]).run Tryz.prog w
 = .ok (.iface 236 (.agg #[.pointer (some ⟨1,173,none⟩)])) w:=by kernel_rfl
theorem as_methodKind (k:Nat) (h:Value) (w:World):(Go.method (k+1) 236 (.agg #[h]) "Kind").run Tryz.prog w = .ok (209,h) w:=by kernel_rfl
noncomputable def extKind:=ReflectliteType.abiMethod fun t=>do pure (.int .u8 (← Rtype.kind t))
theorem as_kindT (w:World):(extKind #[.pointer (some ⟨1,173,none⟩)]).run Tryz.prog w = .ok (.int .u8 22) w:=by kernel_rfl
theorem as_kindC (w:World):(extKind #[.pointer (some ⟨1,109,none⟩)]).run Tryz.prog w = .ok (.int .u8 2) w:=by kernel_rfl
theorem rlm (z:Sem Value) (f:TypeId->Addr->Nat->Nat->Sem Value) (v:Value) :
 ReflectliteValue.method z f #[v]=(do match ← ReflectliteValue.parts v with | none=>z | some (t,a,fl)=>f t a fl (fl % 32)):=rfl
theorem as_partsT (a:Addr) (w:World):(ReflectliteValue.parts (.agg #[.pointer (some ⟨1,173,none⟩),.pointer (some a),.int .u64 150])).run Tryz.prog w = .ok (some (173,a,150)) w:=by kernel_rfl
theorem as_isNil (a p:Addr) (W:World) (ha:W.cell? a=some (.pointer (some p))) :
 (ReflectliteValue.method (ReflectliteValue.valueError "reflectlite.Value.IsNil" 0) ReflectliteValue.isNil #[.agg #[.pointer (some ⟨1,173,none⟩),.pointer (some a),.int .u64 150]]).run Tryz.prog W = .ok (.bool false) W:=by
 rw [rlm]
 simp only [Sem.run_bind,as_partsT,Result.andThen]
 simp [ReflectliteValue.isNil,loadVar,isAgg,underlying,Tryz.underlying173,ha,Result.andThen]
theorem as_methodElem (k:Nat) (h:Value) (w:World):(Go.method (k+1) 236 (.agg #[h]) "Elem").run Tryz.prog w = .ok (222,.agg #[h]) w:=by kernel_rfl
theorem as_methodImpl (k:Nat) (h:Value) (w:World):(Go.method (k+1) 236 (.agg #[h]) "Implements").run Tryz.prog w = .ok (223,.agg #[h]) w:=by kernel_rfl
theorem as_methodAssign (k:Nat) (h:Value) (w:World):(Go.method (k+1) 236 (.agg #[h]) "AssignableTo").run Tryz.prog w = .ok (220,.agg #[h]) w:=by kernel_rfl
theorem as_elemT (w:World):(ReflectliteType.method ReflectliteType.elem #[.agg #[.pointer (some ⟨1,173,none⟩)]]).run Tryz.prog w = .ok (.iface 236 (.agg #[.pointer (some ⟨1,109,none⟩)])) w:=by kernel_rfl
theorem as_implC (w:World):(ReflectliteType.relation "Implements" ReflectliteType.implements_ #[.agg #[.pointer (some ⟨1,109,none⟩)],.iface 236 (.agg #[.pointer (some ⟨1,60,none⟩)])]).run Tryz.prog w = .ok (.bool true) w:=by kernel_rfl
theorem as_typeOfF (v:Value) (w:World):(ReflectliteType.typeOf #[.iface 146 v]).run Tryz.prog w = .ok (.iface 236 (.agg #[.pointer (some ⟨1,146,none⟩)])) w:=by kernel_rfl
theorem as_typeOfC (v:Value) (w:World):(ReflectliteType.typeOf #[.iface 109 v]).run Tryz.prog w = .ok (.iface 236 (.agg #[.pointer (some ⟨1,109,none⟩)])) w:=by kernel_rfl
theorem as_assignF (w:World):(ReflectliteType.relation "AssignableTo" ReflectliteType.assignableTo #[.agg #[.pointer (some ⟨1,146,none⟩)],.iface 236 (.agg #[.pointer (some ⟨1,109,none⟩)])]).run Tryz.prog w = .ok (.bool false) w:=by kernel_rfl
theorem as_assignC (w:World):(ReflectliteType.relation "AssignableTo" ReflectliteType.assignableTo #[.agg #[.pointer (some ⟨1,109,none⟩)],.iface 236 (.agg #[.pointer (some ⟨1,109,none⟩)])]).run Tryz.prog w = .ok (.bool true) w:=by kernel_rfl
theorem as_valueOfC (c:Int) (w:World):(ReflectliteValue.unpack (.iface 109 (.int .i64 c))).run Tryz.prog w
 = .ok (.agg #[.pointer (some ⟨1,109,none⟩),.pointer (some ⟨w.heap.size,0,none⟩),.int .u64 130]) (w.alloc (.cells #[.int .i64 c] 109)):=by kernel_rfl
theorem as_elemOfT (w:World):(Rtype.elem? 173).run Tryz.prog w = .ok (some 109) w:=by kernel_rfl
theorem as_mkC (p:Addr) (w:World):(ReflectliteValue.mk 109 p ReflectliteValue.flagAddr).run Tryz.prog w = .ok (.agg #[.pointer (some ⟨1,109,none⟩),.pointer (some p),.int .u64 386]) w:=by kernel_rfl
theorem as_elemV (a p:Addr) (W:World) (ha:W.cell? a=some (.pointer (some p))) :
 (ReflectliteValue.method (ReflectliteValue.valueError "reflectlite.Value.Elem" 0) ReflectliteValue.elem #[.agg #[.pointer (some ⟨1,173,none⟩),.pointer (some a),.int .u64 150]]).run Tryz.prog W
  = .ok (.agg #[.pointer (some ⟨1,109,none⟩),.pointer (some p),.int .u64 386]) W:=by
 rw [rlm]
 simp only [Sem.run_bind,as_partsT,Result.andThen]
 simp [ReflectliteValue.elem,loadVar,isAgg,underlying,Tryz.underlying173,ha,Result.andThen,as_elemOfT,as_mkC]
theorem rls (v x:Value):ReflectliteValue.set #[v,x]=(do
 let (some (dst,a,fl),some (src,b,_)):=(← ReflectliteValue.parts v,← ReflectliteValue.parts x)
  | unsupported (.noEntry "extern/(internal/reflectlite.Value).Set.zeroValue")
 if fl / ReflectliteValue.flagAddr % 2 == 0 then unsupported (.noEntry "extern/(internal/reflectlite.Value).Set.unaddressable")
 let val ← loadVar src b
 if ← Rtype.directlyAssignable dst src then storeVar dst a val
 else if ← Rtype.implements dst src then
  if (← Rtype.kind src) == 20 then
   match val with
   | .nilIface=>unsupported (.noEntry "extern/reflectlite: a nil value of one interface type handed on as a value of another")
   | _=>storeVar dst a val
  else storeVar dst a (.iface src val)
 else panicString ("reflectlite.Set: value of type " ++ (← Rtype.spelt src) ++ " is not assignable to type " ++ (← Rtype.spelt dst))
 pure (.tuple #[])):=rfl
theorem as_partsCa (a:Addr) (w:World):(ReflectliteValue.parts (.agg #[.pointer (some ⟨1,109,none⟩),.pointer (some a),.int .u64 386])).run Tryz.prog w = .ok (some (109,a,386)) w:=by kernel_rfl
theorem as_partsC (a:Addr) (w:World):(ReflectliteValue.parts (.agg #[.pointer (some ⟨1,109,none⟩),.pointer (some a),.int .u64 130])).run Tryz.prog w = .ok (some (109,a,130)) w:=by kernel_rfl
theorem as_direct (w:World):(Rtype.directlyAssignable 109 109).run Tryz.prog w = .ok true w:=by kernel_rfl
theorem as_set (ta b:Addr) (c:Int) (old:Value) (W:World) (hb:W.cell? b=some (.int .i64 c)) (ht:W.cell? ta=some old) (hf:W.frozen? ta=false) :
 (ReflectliteValue.set #[.agg #[.pointer (some ⟨1,109,none⟩),.pointer (some ta),.int .u64 386],.agg #[.pointer (some ⟨1,109,none⟩),.pointer (some b),.int .u64 130]]).run Tryz.prog W
  = .ok (.tuple #[]) (W.setCell ta (.int .i64 c)):=by
 rw [rls]
 simp only [Sem.run_bind,as_partsCa,as_partsC,Result.andThen]
 simp [ReflectliteValue.flagAddr,loadVar,isAgg,underlying,Tryz.underlying109,hb,Result.andThen,as_direct,storeVar,Value.cells,storeCells,Addr.add]
 rw [run_store Tryz.prog W ta _ _ (by rfl)]
 simp [ht,hf]
theorem as_noF (v:Value) (xT:TypeId) (w:World):(Instr.typeAssert (.iface 146 v) xT 241 true).run Tryz.prog w = .ok (.tuple #[.nilIface,.bool false]) w:=run_typeAssert_lacksB Tryz.underlying241 (by kernel_rfl) (by kernel_rfl) v xT w
theorem as_hasUn (v:Value) (xT:TypeId) (w:World):(Instr.typeAssert (.iface 146 v) xT 244 true).run Tryz.prog w = .ok (.tuple #[.iface 146 v,.bool true]) w:=run_typeAssert_hasB Tryz.underlying244 (by kernel_rfl) v xT w
theorem as_methodUnwrap (k:Nat) (v:Value) (w:World):(Go.method (k+1) 146 v "Unwrap").run Tryz.prog w = .ok (214,v) w:=by kernel_rfl
def HandleAt (w:World):Prop:=w.cell? ⟨0,0,none⟩=some (.iface 236 (.agg #[.pointer (some ⟨1,60,none⟩)]))
theorem HandleAt.lt {w:World} (hg:HandleAt w):0<w.heap.size:=by
 unfold HandleAt at hg
 rcases Nat.eq_zero_or_pos w.heap.size with h0 | h
 · simp [World.cell?,h0] at hg
 · exact h
theorem HandleAt.below {w w':World} (hg:HandleAt w) (hb:RowKit.Below w.heap.size w w'):HandleAt w':=(hb.cell (p:=⟨0,0,none⟩) hg.lt).trans hg
set_option maxRecDepth 100000 in
set_option maxHeartbeats 8000000 in
theorem as_code (b:Nat) (c:Int) (t:Nat) (old:Value) (w:World) (hg:HandleAt w) (hc:w.cell? ⟨b,2,none⟩=some (.iface 109 (.int .i64 c))) (ht0:w.cell? ⟨t,0,none⟩=some old) (hf0:w.frozen? ⟨t,0,none⟩=false) :
 Calls Tryz.prog 104 #[.iface 146 (.pointer (some ⟨b,0,none⟩)),.iface 173 (.pointer (some ⟨t,0,none⟩))] w fun ev w'=>ev = .returned (.bool true) ∧ ∃ W,RowKit.Below w.heap.size w W∧w'=W.setCell ⟨t,0,none⟩ (.int .i64 c):=by
 have h6:=@run_callFunc_extern Tryz.prog 133 _ (fun args=>ReflectliteValue.unpack (args.getD 0 (.tuple #[]))) Tryz.func133 (by kernel_rfl) (by kernel_rfl) (by kernel_rfl) (by kernel_rfl)
 have h7:=@run_callFunc_extern Tryz.prog 134 _ (ReflectliteValue.methodAny (ReflectliteValue.valueError "reflectlite.Value.Type" 0) (fun t _ _ _=>ReflectliteType.toType t)) Tryz.func134 (by kernel_rfl) (by kernel_rfl) (by kernel_rfl) (by kernel_rfl)
 have h8:=@run_callFunc_extern Tryz.prog 135 _ (ReflectliteValue.method (ReflectliteValue.valueError "reflectlite.Value.IsNil" 0) ReflectliteValue.isNil) Tryz.func135 (by kernel_rfl) (by kernel_rfl) (by kernel_rfl) (by kernel_rfl)
 have h27:=@run_callFunc_extern Tryz.prog 209 _ extKind Tryz.func209 (by kernel_rfl) (by kernel_rfl) (by kernel_rfl) (by kernel_rfl)
 have h37:=@run_callFunc_extern Tryz.prog 222 _ (ReflectliteType.method ReflectliteType.elem) Tryz.func222 (by kernel_rfl) (by kernel_rfl) (by kernel_rfl) (by kernel_rfl)
 have h38:=@run_callFunc_extern Tryz.prog 223 _ (ReflectliteType.relation "Implements" ReflectliteType.implements_) Tryz.func223 (by kernel_rfl) (by kernel_rfl) (by kernel_rfl) (by kernel_rfl)
 have h10:=@run_callFunc_extern Tryz.prog 166 _ ReflectliteType.typeOf Tryz.func166 (by kernel_rfl) (by kernel_rfl) (by kernel_rfl) (by kernel_rfl)
 have h35:=@run_callFunc_extern Tryz.prog 220 _ (ReflectliteType.relation "AssignableTo" ReflectliteType.assignableTo) Tryz.func220 (by kernel_rfl) (by kernel_rfl) (by kernel_rfl) (by kernel_rfl)
 have h11:=@run_callFunc_extern Tryz.prog 167 _ (ReflectliteValue.method (ReflectliteValue.valueError "reflectlite.Value.Elem" 0) ReflectliteValue.elem) Tryz.func167 (by kernel_rfl) (by kernel_rfl) (by kernel_rfl) (by kernel_rfl)
 have h12:=@run_callFunc_extern Tryz.prog 168 _ ReflectliteValue.set Tryz.func168 (by kernel_rfl) (by kernel_rfl) (by kernel_rfl) (by kernel_rfl)
 have q1:=as_typeOfF
 have q2:=as_typeOfC
 have q3:=as_methodAssign
 have q4:=as_assignF
 have q5:=as_assignC
 have q6:=as_valueOfC
 have q7:=as_valueOfT
 have q8:=as_typeT
 have q9:=as_methodKind
 have q10:=as_methodElem
 have q11:=as_methodImpl
 have q12:=as_kindT
 have q13:=as_kindC
 have q14:=as_elemT
 have q15:=as_implC
 have q16:=as_noF
 have q17:=as_hasUn
 have q18:=as_methodUnwrap
 have hlt:=hg.lt
 unfold HandleAt at hg
 have htl:t<w.heap.size:=by
  rcases Nat.lt_or_ge t w.heap.size with h | h
  · exact h
  · simp [World.cell?,Array.getElem?_eq_none h] at ht0
 have hbl:b<w.heap.size:=by
  rcases Nat.lt_or_ge b w.heap.size with h | h
  · exact h
  · simp [World.cell?,Array.getElem?_eq_none h] at hc
 have n8:=as_isNil ⟨w.heap.size,0,none⟩ ⟨t,0,none⟩ ((w.alloc (.cells #[.pointer (some ⟨t,0,none⟩)] 173)).alloc (.cells #[.pointer (some ⟨1,173,none⟩),.pointer (some ⟨w.heap.size,0,none⟩),.int .u64 150] 202)) (by simp)
 have hg2:((w.alloc (.cells #[.pointer (some ⟨t,0,none⟩)] 173)).alloc (.cells #[.pointer (some ⟨1,173,none⟩),.pointer (some ⟨w.heap.size,0,none⟩),.int .u64 150] 202)).cell? ⟨0,0,none⟩=some (.iface 236 (.agg #[.pointer (some ⟨1,60,none⟩)])):=by
  rw [World.cell?_alloc_lt _ _ ⟨0,0,none⟩ (by simp),World.cell?_alloc_lt _ _ ⟨0,0,none⟩ hlt];exact hg
 have el:=as_elemV ⟨w.heap.size,0,none⟩ ⟨t,0,none⟩ (((w.alloc (.cells #[.pointer (some ⟨t,0,none⟩)] 173)).alloc (.cells #[.pointer (some ⟨1,173,none⟩),.pointer (some ⟨w.heap.size,0,none⟩),.int .u64 150] 202)).alloc (.cells #[.pointer (some ⟨1,173,none⟩),.pointer (some ⟨w.heap.size,0,none⟩),.int .u64 150] 202)) (by rw [World.cell?_alloc_lt _ _ ⟨w.heap.size,0,none⟩ (by simp;omega)];simp)
 have hc3:(((w.alloc (.cells #[.pointer (some ⟨t,0,none⟩)] 173)).alloc (.cells #[.pointer (some ⟨1,173,none⟩),.pointer (some ⟨w.heap.size,0,none⟩),.int .u64 150] 202)).alloc (.cells #[.pointer (some ⟨1,173,none⟩),.pointer (some ⟨w.heap.size,0,none⟩),.int .u64 150] 202)).cell? ⟨b,2,none⟩=some (.iface 109 (.int .i64 c)):=by
  rw [World.cell?_alloc_lt _ _ ⟨b,2,none⟩ (by simp;omega),World.cell?_alloc_lt _ _ ⟨b,2,none⟩ (by simp;omega),World.cell?_alloc_lt _ _ ⟨b,2,none⟩ hbl];exact hc
 have st:=as_set ⟨t,0,none⟩ ⟨w.heap.size+1+1+1,0,none⟩ c old ((((w.alloc (.cells #[.pointer (some ⟨t,0,none⟩)] 173)).alloc (.cells #[.pointer (some ⟨1,173,none⟩),.pointer (some ⟨w.heap.size,0,none⟩),.int .u64 150] 202)).alloc (.cells #[.pointer (some ⟨1,173,none⟩),.pointer (some ⟨w.heap.size,0,none⟩),.int .u64 150] 202)).alloc (.cells #[.int .i64 c] 109))
  (by rw [World.cell?_alloc_at _ _ _ _ (by simp)];rfl)
  (by rw [World.cell?_alloc_lt _ _ ⟨t,0,none⟩ (by simp;omega),World.cell?_alloc_lt _ _ ⟨t,0,none⟩ (by simp;omega),World.cell?_alloc_lt _ _ ⟨t,0,none⟩ (by simp;omega),World.cell?_alloc_lt _ _ ⟨t,0,none⟩ htl];exact ht0)
  (by rw [World.frozen?_alloc_old _ _ ⟨t,0,none⟩ (by simp;omega),World.frozen?_alloc_old _ _ ⟨t,0,none⟩ (by simp;omega),World.frozen?_alloc_old _ _ ⟨t,0,none⟩ (by simp;omega),World.frozen?_alloc_old _ _ ⟨t,0,none⟩ (Nat.ne_of_lt htl)];exact hf0)
 go_enter Tryz.func104,Tryz.ntmps104
 go_wp2
 refine wp_loop_rounds 2 ?_
 rw [rounds_succ]
 go_wp2
 rw [rounds_succ]
 go_wp2
 go_ret
 refine ⟨rfl,_,?_,rfl⟩
 (repeat (first | exact Below.refl _ _ | (with_reducible assumption) | (with_reducible refine bel_later ?_ _) | (with_reducible refine bel_alloc ?_ _) | (with_reducible refine bel_drew ?_) | (with_reducible refine bel_drewN ?_ _) | (with_reducible refine bel_set ?_ (by first | (simp;done) | (simp;omega) | (dsimp only;omega)) _)))
set_option maxRecDepth 100000 in
theorem of_nil (w:World):Calls Tryz.prog 47 #[.nilIface] w fun e w'=>e = .returned (.int .i64 0)∧RowKit.Below w.heap.size w w':=by
 go_enter Tryz.func47,Tryz.ntmps47
 go_wp2
 go_ret
 exact ⟨rfl,RowKit.Below.refl _ _⟩
set_option maxRecDepth 100000 in
theorem of_fault (b:Nat) (c:Int) (w:World) (hg:HandleAt w) (hc:w.cell? ⟨b,2,none⟩=some (.iface 109 (.int .i64 c))) (hb:b<w.heap.size) :
 Calls Tryz.prog 47 #[.iface 146 (.pointer (some ⟨b,0,none⟩))] w fun e w'=>e = .returned (.int .i64 c)∧RowKit.Below w.heap.size w w':=by
 obtain ⟨wa,hwa⟩:∃ z,z=w.alloc (.cells #[.int .i64 0] 109):=⟨_,rfl⟩
 have B1:RowKit.Below w.heap.size w wa:=by rw [hwa];exact bel_alloc (RowKit.Below.refl _ _) _
 have ht:wa.cell? ⟨w.heap.size,0,none⟩=some (.int .i64 0):=by rw [hwa];simp [go_sem]
 have hf:wa.frozen? ⟨w.heap.size,0,none⟩=false:=by rw [hwa];simp [go_sem]
 have hz:w.heap.size<wa.heap.size:=by rw [hwa];simp
 have CA:=Lib.hid (as_code b c w.heap.size (.int .i64 0) wa (hg.below B1) ((B1.cell (p:=⟨b,2,none⟩) hb).trans hc) ht hf)
 have HW:=Lib.hid hwa
 clear hwa hg hc
 go_enter Tryz.func47,Tryz.ntmps47
 go_wp2_with fail
 rw [← HW.out]
 refine CA.out.mono ?_
 rintro e w' ⟨rfl,W,hB,rfl⟩
 have hk:(W.setCell ⟨w.heap.size,0,none⟩ (.int .i64 c)).cell? ⟨w.heap.size,0,none⟩=some (.int .i64 c):=set_at ((hB.cell (p:=⟨w.heap.size,0,none⟩) hz).trans ht)
 have hB2:RowKit.Below w.heap.size w (W.setCell ⟨w.heap.size,0,none⟩ (.int .i64 c)):=bel_set (bel_below B1 hB) (by dsimp only;omega) _
 obtain ⟨w9,hw9⟩:∃ z,z=W.setCell ⟨w.heap.size,0,none⟩ (.int .i64 c):=⟨_,rfl⟩
 rw [← hw9] at hk hB2 ⊢
 have hz9:=Nat.lt_of_lt_of_le (Nat.lt_succ_self w.heap.size) (show w.heap.size+1<=w9.heap.size by have:=hB.size;rw [hw9,size_set];omega)
 clear hw9
 go_wp2_with fail
 go_ret
 exact ⟨rfl,hB2⟩
theorem of_code {B:Nat} {w:World} {v:Value} {c:Int} (h:CodeIs B w v c) (hg:HandleAt w):Calls Tryz.prog 47 #[v] w fun e w'=>e = .returned (.int .i64 c)∧RowKit.Below w.heap.size w w':=by
 rcases h with ⟨rfl,rfl⟩ | ⟨_,b,rfl,_,hb,hc⟩
 · exact of_nil w
 · exact of_fault b c w hg hc hb
end
end Go.Proofs.YtahiahjhpakeiaaGreatDoor
section
namespace Go.Proofs.YtahiahjhpakeiaaGreatDoor
open Go.RowKit Go.Maps Go.Sort
set_option linter.unusedVariables false
set_option linter.unusedSimpArgs false
structure Both (S Q:Nat->Prop) (W w:World) (rb mb:Nat) (f:RS) (p:Where):Prop where
 ring:∃ g,RAt S w rb mb g f
 ref:∃ V,RefIs Q w p f V
 dis:∀ b,Q b -> ¬ S b
 low:∀ b,S b->W.heap.size<=b
 inv:Inv f
 below:RowKit.Below W.heap.size W w
 hd:HandleAt W
variable {W w w':World} {rb mb:Nat} {f:RS} {p:Where} {S Q:Nat->Prop}
theorem Both.later (h:Both S Q W w rb mb f p) (hb:RowKit.Below w.heap.size w w'):Both S Q W w' rb mb f p:=by
 obtain ⟨g,h1⟩:=h.ring
 obtain ⟨V,h2⟩:=h.ref
 exact ⟨⟨g,h1.below hb⟩,⟨V,h2.below hb⟩,h.dis,h.low,h.inv,bel_below h.below hb,h.hd⟩
theorem Both.up (h:Both S Q W w rb mb f p):∀ b,w.heap.size<=b->S b:=by
 obtain ⟨g,h1⟩:=h.ring;exact h1.up
theorem CodeIs.below {B:Nat} {v:Value} {c:Int} (h:CodeIs B w v c) (hb:RowKit.Below w.heap.size w w'):CodeIs B w' v c:=h.imp id fun h=>⟨h.1,h.2.below hb⟩
theorem kept_from {a b c:World} (h:RowKit.Below a.heap.size a b) (k:Kept S b c) (hS:∀ i,S i->a.heap.size<=i):RowKit.Below a.heap.size a c :=
 h.trans (k.toBelow h.size fun i hi hs=>absurd (hS i hs) (by omega))
structure AtB (w:World) (b:Nat) (h:b<w.heap.size) where
 world:World
 cell:∀ o,world.cell? ⟨b,o,none⟩=w.cell? ⟨b,o,none⟩
 lt:b<world.heap.size
theorem atB_cell {w:World} {b:Nat} {h:b<w.heap.size} (x:AtB w b h) (o:Nat):x.world.cell? ⟨b,o,none⟩=w.cell? ⟨b,o,none⟩:=x.cell o
theorem atB_lt {w:World} {b:Nat} {h:b<w.heap.size} (x:AtB w b h):(b<x.world.heap.size)=True:=eq_true x.lt
instance {w:World} {b:Nat} {h:b<w.heap.size}:Nonempty (AtB w b h):=⟨⟨w,fun _=>rfl,h⟩⟩
theorem both_close {w0 w1 w2 w3 w4:World} {f':RS} {p':Where} {g':Int->Nat} {V':Nat->Value} {R:Nat} (h:Both S Q W w rb mb f p) (hb0:RowKit.Below w.heap.size w w0) (hr:RAt (Now S w w0) w1 rb mb g' f') (hk:Kept (Now S w w0) w0 w1)
 (hn:RefIs (fun b=>((Q b∧b<w.heap.size)∧b<w1.heap.size)∨w1.heap.size<=b) w2 p' f' V') (hb2:RowKit.Below w1.heap.size w1 w2) (hb3:RowKit.Below w2.heap.size w2 w3) (hR0:w.heap.size<=R) (hR1:R<w0.heap.size)
 (hos:w4.os=w3.os) (ht:w4.tape=w3.tape) (ho:w4.output=w3.output) (hs:w4.heap.size=w3.heap.size) (hk4:∀ b,b≠R->w4.heap[b]? = w3.heap[b]?) (I:Inv f') :
 ∃ S' Q',(∀ b,S' b->S b)∧(∀ b,Q' b->Q b∨w.heap.size<=b)∧Both S' Q' W w4 rb mb f' p'∧Kept S w w4:=by
 have z0:=hb0.size
 have z1:=hk.size
 have z2:=hb2.size
 have z3:=hb3.size
 have hup:=h.up
 have hW:W.heap.size<=w.heap.size:=h.below.size
 have K:Kept S w w4:=by
  refine ⟨by rw [hos,hb3.os,hb2.os,hk.os,hb0.os],by rw [ht,hb3.tape,hb2.tape,hk.tape,hb0.tape],by rw [ho,hb3.output,hb2.output,hk.output,hb0.output],by omega,fun b hb hS=>?_⟩
  rw [hk4 b (by omega),hb3.block b (by omega),hb2.block b (by omega),hk.block b (by omega) (fun hN=>by rcases hN with ⟨h1,_⟩ | h1 <;> first | exact hS h1 | omega),hb0.block b hb]
 refine ⟨fun b=>(Now S w w0 b∧b<w1.heap.size)∨w4.heap.size<=b,fun b=>(Q b∧b<w.heap.size)∨(w1.heap.size<=b∧b<w4.heap.size),fun b hb=>?_,fun b hb=>?_,⟨⟨g',?_⟩,⟨V',?_⟩,fun b hq hS=>?_,fun b hb=>?_,I,kept_from h.below K h.low,h.hd⟩,K⟩
 · rcases hb with ⟨h1 | h1,h2⟩ | h1
   · exact h1.1
   · exact hup b (by omega)
   · exact hup b (by omega)
 · rcases hb with h1 | h1
   · exact Or.inl h1.1
   · exact Or.inr (by omega)
 · refine hr.same (by omega) (fun b hb hS=>?_) (fun b hb hS=>Or.inl ⟨hS,hb⟩) fun b hb=>Or.inr hb
   rw [hk4 b (by rcases hS with h1 | h1 <;> omega),hb3.block b (by omega),hb2.block b hb]
 · refine hn.same (fun b hb hq=>?_) (by omega) (fun b hb hq=>?_)
   · rcases hq with ⟨h3,_⟩ | h3
     · exact Or.inl h3
     · exact Or.inr ⟨h3,by omega⟩
   · rw [hk4 b (by rcases hq with hq | hq <;> omega),hb3.block b hb]
 · rcases hS with ⟨h1,h2⟩ | h1
   · rcases hq with ⟨h3,h4⟩ | h3
     · rcases h1 with h1 | h1
       · exact h.dis b h3 h1.1
       · omega
     · omega
   · rcases hq with ⟨h3,h4⟩ | h3 <;> omega
 · rcases hb with ⟨h1 | h1,h2⟩ | h1
   · exact h.low b h1.1
   · omega
   · omega
theorem Both.now (h:Both S Q W w rb mb f p) (hb:RowKit.Below w.heap.size w w'):Both (Now S w w') (fun b=>Q b∧b<w.heap.size) W w' rb mb f p:=by
 obtain ⟨g,h1⟩:=h.ring
 obtain ⟨V,h2⟩:=h.ref
 refine ⟨⟨g,h1.now hb⟩,⟨V,h2.same (fun b hb' hq=>⟨hq,hb'⟩) hb.size fun b hb' _=>hb.block b hb'⟩,fun b hq hS=>?_,fun b hS=>?_,h.inv,bel_below h.below hb,h.hd⟩
 · rcases hS with hS | hS
   · exact h.dis b hq.1 hS.1
   · have:=hb.size;omega
 · rcases hS with hS | hS
   · exact h.low b hS.1
   · have:=hb.size;have:=h.below.size;omega
theorem Both.aside (h:Both S Q W w rb mb f p) {R:Nat} (hS:¬ S R) (hQ:¬ Q R) (hW:W.heap.size<=R) (hos:w'.os=w.os) (ht:w'.tape=w.tape) (ho:w'.output=w.output) (hs:w'.heap.size=w.heap.size) (hk:∀ b,b≠R->w'.heap[b]? = w.heap[b]?):Both S Q W w' rb mb f p:=by
 obtain ⟨g,h1⟩:=h.ring
 obtain ⟨V,h2⟩:=h.ref
 have hup:=h.up
 exact ⟨⟨g,h1.same (by omega) (fun b _ hb=>hk b fun e=>hS (e ▸ hb)) (fun _ _ h=>h) fun b hb=>hup b (by omega)⟩,⟨V,h2.same (fun _ _ h=>h) (by omega) fun b _ hb=>hk b fun e=>hQ (e ▸ hb)⟩,h.dis,h.low,h.inv,
  h.below.trans ⟨hos,ht,ho,by omega,fun b hb=>hk b (by omega)⟩,h.hd⟩
end Go.Proofs.YtahiahjhpakeiaaGreatDoor
namespace Go.Proofs.YtahiahjhpakeiaaGreatDoor
open Go.RowKit Go.Maps Go.Sort
set_option linter.unusedVariables false
set_option linter.unusedSimpArgs false
attribute [local go_sem] later_cell later_frozen later_lt cell_set_off cell_set_block atB_cell atB_lt
variable {W w w':World} {rb mb:Nat} {f:RS} {p:Where} {S Q:Nat->Prop}
def DoesPost (S Q:Nat->Prop) (W w:World) (rb mb:Nat) (f':RS) (e:Ending) (w':World):Prop :=
 ∃ (p':Where) (S' Q':Nat->Prop),e = .returned (.tuple #[(.agg #[.slice (some ⟨(p').b1,(p').o1,none⟩) 32 (p').k1,.slice (some ⟨(p').b2,(p').o2,none⟩) 32 (p').k2,.slice (some ⟨(p').b3,(p').o3,none⟩) 32 (p').k3,.slice (some ⟨(p').b4,(p').o4,none⟩) 32 (p').k4]),.bool true])∧(∀ b,S' b->S b)∧(∀ b,Q' b->Q b∨w.heap.size<=b)∧Both S' Q' W w' rb mb f' p'∧Kept S w w'
theorem rstabE_any {Q:Nat->Prop} {V:Nat->Value} (h:RefIs Q w p f V) (I:Inv f) (n:Int):Calls Tryz.prog 50 #[(.agg #[.slice (some ⟨(p).b1,(p).o1,none⟩) 32 (p).k1,.slice (some ⟨(p).b2,(p).o2,none⟩) 32 (p).k2,.slice (some ⟨(p).b3,(p).o3,none⟩) 32 (p).k3,.slice (some ⟨(p).b4,(p).o4,none⟩) 32 (p).k4]),.int .i64 n] w (RefAns Q w (stabE f n) (stabC f n)):=by
 unfold stabE stabC
 by_cases hl:livesR f n=true
 · rw [if_pos hl,if_pos hl];exact rstab_yes h I.dom I.heads n hl
 · rw [if_neg hl,if_neg hl];exact rstab_no h I.dom n (by simpa using hl)
set_option maxRecDepth 100000 in
set_option maxHeartbeats 8000000 in
theorem does_any (h:Both S Q W w rb mb f p) (kd an av ai:Int) (hn:okInt an) (hv:okInt av) (hi:isPlace ai) :
 Calls Tryz.prog 11 #[.pointer (some ⟨rb,0,none⟩),(.agg #[.slice (some ⟨(p).b1,(p).o1,none⟩) 32 (p).k1,.slice (some ⟨(p).b2,(p).o2,none⟩) 32 (p).k2,.slice (some ⟨(p).b3,(p).o3,none⟩) 32 (p).k3,.slice (some ⟨(p).b4,(p).o4,none⟩) 32 (p).k4]),.agg #[.int .i64 kd,.int .i64 an,.int .i64 av,.int .u64 ai]] w (DoesPost S Q W w rb mb (actR [1,2,3,4] f ⟨kd,an,av,ai⟩)):=by
 have H:=Lib.hid h
 have HP:Hid (∀ (f':RS) (p':Where) (S' Q':Nat->Prop) w',f'=actR [1,2,3,4] f ⟨kd,an,av,ai⟩->(∀ b,S' b->S b)->(∀ b,Q' b->Q b∨w.heap.size<=b)->Both S' Q' W w' rb mb f' p'->Kept S w w'->DoesPost S Q W w rb mb (actR [1,2,3,4] f ⟨kd,an,av,ai⟩) (.returned (.tuple #[(.agg #[.slice (some ⟨(p').b1,(p').o1,none⟩) 32 (p').k1,.slice (some ⟨(p').b2,(p').o2,none⟩) 32 (p').k2,.slice (some ⟨(p').b3,(p').o3,none⟩) 32 (p').k3,.slice (some ⟨(p').b4,(p').o4,none⟩) 32 (p').k4]),.bool true])) w') :=
  fun f' p' S' Q' w' e h1 h0 h2 h3=>by rw [← e];exact ⟨p',S',Q',rfl,h1,h0,h2,h3⟩
 clear h
 by_cases k1:kd=1
 · subst k1
   have HE:Hid (joinR f an ai av=actR [1,2,3,4] f ⟨1,an,av,ai⟩):=show _=_ by unfold actR;simp
   generalize actR [1,2,3,4] f ⟨1,an,av,ai⟩=fin at HP HE ⊢
   go_enter Tryz.func11,Tryz.ntmps11
   go_upto_region 1 with (fail)
   obtain ⟨w0,hw0⟩:∃ z,z=((w.alloc (.cells #[.slice (some ⟨p.b1,p.o1,none⟩) 32 p.k1,.slice (some ⟨p.b2,p.o2,none⟩) 32 p.k2,.slice (some ⟨p.b3,p.o3,none⟩) 32 p.k3,.slice (some ⟨p.b4,p.o4,none⟩) 32 p.k4] 32)).alloc (.cells #[.int .i64 1,.int .i64 an,.int .i64 av,.int .u64 ai] 45)).alloc (.cells #[.slice none 0 0,.slice none 0 0,.slice none 0 0,.slice none 0 0] 32):=⟨_,rfl⟩
   have hz0:w0.heap.size=w.heap.size+3:=by rw [hw0];simp
   have B0:Hid (RowKit.Below w.heap.size w w0):=by rw [hw0];exact bel_alloc (bel_alloc (bel_alloc (RowKit.Below.refl _ _) _) _) _
   have P0:Hid (BoxOf w0 w.heap.size p):=by rw [hw0];exact ⟨by simp [go_sem],by simp [go_sem],by simp [go_sem],by simp [go_sem],by simp [go_sem],by simp [go_sem],by simp [go_sem],by simp [go_sem],by simp;omega⟩
   have A0:Hid (BoxIs w0 (w.heap.size+1) (.int .i64 1) (.int .i64 an) (.int .i64 av) (.int .u64 ai)):=by rw [hw0];exact ⟨by simp [go_sem],by simp [go_sem],by simp [go_sem],by simp [go_sem],by simp [go_sem],by simp [go_sem],by simp [go_sem],by simp [go_sem],by simp⟩
   have R0:Hid (BoxNil w0 (w.heap.size+1+1)):=by rw [hw0];exact ⟨by simp [go_sem],by simp [go_sem],by simp [go_sem],by simp [go_sem],by simp [go_sem],by simp [go_sem],by simp [go_sem],by simp [go_sem],by simp⟩
   obtain ⟨g,hg⟩:=H.out.ring
   obtain ⟨V,hv⟩:=H.out.ref
   have G0:=Lib.hid (hg.now B0.out)
   have V0:Hid (RefIs (fun b=>Q b∧b<w.heap.size) w p f V):=hv.same (fun b hb hq=>⟨hq,hb⟩) (Nat.le_refl _) (fun _ _ _=>rfl)
   clear hg hv
   rw [← hw0]
   clear hw0
   have c0:=(P0).out.c0
   have c1:=(P0).out.c1
   have c2:=(P0).out.c2
   have c3:=(P0).out.c3
   have zp:=(P0).out.z
   have a0:=(A0).out.c0
   have a1:=(A0).out.c1
   have a2:=(A0).out.c2
   have a3:=(A0).out.c3
   have za:=(A0).out.z
   go_wp2_with fail
   refine (join_act G0.out H.out.inv.heads an ai av hn hv hi).mono ?_
   rintro e w1 ⟨v,rfl,hcode,⟨g1,hg1⟩,hk1⟩
   have hz1:=hk1.size
   have P1:Hid (BoxOf w1 w.heap.size p):=P0.out.block hz1 (hk1.block _ (by omega) (fun hN=>by rcases hN with ⟨_,h⟩ | h <;> omega))
   have A1:Hid (BoxIs w1 (w.heap.size+1) (.int .i64 1) (.int .i64 an) (.int .i64 av) (.int .u64 ai)):=A0.out.block hz1 (hk1.block _ (by omega) (fun hN=>by rcases hN with ⟨_,h⟩ | h <;> omega))
   have R1:Hid (BoxNil w1 (w.heap.size+1+1)):=R0.out.block hz1 (hk1.block _ (by omega) (fun hN=>by rcases hN with ⟨_,h⟩ | h <;> omega))
   have V1:Hid (RefIs (fun b=>Q b∧b<w.heap.size) w1 p f V):=(V0.out.below B0.out).same (fun _ _ h=>h) hz1 (fun b hb hq=>hk1.block b hb (fun hN=>by rcases hN with ⟨h,_⟩ | h <;> first | exact H.out.dis b hq.1 h | omega))
   have G1:=Lib.hid hg1
   have K1:=Lib.hid hk1
   have C1:=Lib.hid hcode
   have hW0:W.heap.size<=w.heap.size:=H.out.below.size
   clear c0 c1 c2 c3 zp a0 a1 a2 a3 za
   clear hcode hg1 hk1 P0 A0 R0 G0 V0
   have c0:=(P1).out.c0
   have c1:=(P1).out.c1
   have c2:=(P1).out.c2
   have c3:=(P1).out.c3
   have zp:=(P1).out.z
   have a0:=(A1).out.c0
   have a1:=(A1).out.c1
   have a2:=(A1).out.c2
   have a3:=(A1).out.c3
   have za:=(A1).out.z
   go_wp2_with fail
   refine (rjoin_any V1.out H.out.inv an ai av hi).mono ?_
   rintro e w2 ⟨x,rfl,p',V',rfl,hn2,hb2⟩
   simp only [Where.val,Where.used,Where.live,Where.ids,Where.peers]
   have N2:=Lib.hid hn2
   have B2:=Lib.hid hb2
   have R2:=Lib.hid (R1.out.later hb2)
   have C2:=Lib.hid (C1.out.below hb2)
   have hz2:=hb2.size
   clear c0 c1 c2 c3 zp a0 a1 a2 a3 za
   clear hn2 hb2 P1 A1 R1 V1 C1
   go_upto_region 5 with (fail)
   obtain ⟨w3,hw3⟩:∃ z,z=w2.alloc (.cells #[.slice (some ⟨p'.b1,p'.o1,none⟩) 32 p'.k1,.slice (some ⟨p'.b2,p'.o2,none⟩) 32 p'.k2,.slice (some ⟨p'.b3,p'.o3,none⟩) 32 p'.k3,.slice (some ⟨p'.b4,p'.o4,none⟩) 32 p'.k4] 32):=⟨_,rfl⟩
   obtain ⟨T,hT⟩:∃ T,T=w2.heap.size:=⟨_,rfl⟩
   have B3:Hid (RowKit.Below w2.heap.size w2 w3):=by rw [hw3];exact bel_alloc (RowKit.Below.refl _ _) _
   have T3:Hid (BoxOf w3 T p'):=by rw [hw3,hT];exact ⟨by simp [go_sem],by simp [go_sem],by simp [go_sem],by simp [go_sem],by simp [go_sem],by simp [go_sem],by simp [go_sem],by simp [go_sem],by simp⟩
   have R3:=Lib.hid (R2.out.later B3.out)
   have C3:=Lib.hid (C2.out.below B3.out)
   have hTz:w.heap.size+3<=T:=by omega
   have h3:T<w3.heap.size:=T3.out.z
   have hHd:HandleAt w3:=H.out.hd.below (kept_from H.out.below ((((Kept.refl S w).below B0.out).trans ⟨K1.out.os,K1.out.tape,K1.out.output,K1.out.size,fun b hb hS=>K1.out.block b hb (fun hN=>by rcases hN with ⟨h,_⟩ | h <;> first | exact hS h | exact hS (H.out.up b (by omega)))⟩).below B2.out |>.below B3.out) H.out.low)
   have HH:=Lib.hid hHd
   rw [← hw3,← hT]
   have HTT:=Lib.hid hT
   clear hw3 hT hHd R2 C2
   have t0:=T3.out.c0
   have t1:=T3.out.c1
   have t2:=T3.out.c2
   have t3:=T3.out.c3
   refine wp_region_heads [0,1,3] 6 (fun w'=>∃ x:AtB w3 T h3,w'=x.world) (by kernel_rfl) (by kernel_rfl) ⟨⟨{ w3 with drawn:=w3.drawn+1 },fun _=>rfl,h3⟩,rfl⟩ ?_ ?_
   · intro d v c a w h
     cases d <;> exact h
   · simp only [headOps]
     repeat (refine wpTame_step (fun K hK=>?_);go_simp;refine hK _ ?_;clear hK K)
     refine wpTame_nil ?_
     clear t0 t1 t2 t3
     refine wpAnyC_step (f:=3) [2] (by kernel_rfl) rfl rfl (fun i hi=>?_)
     simp only [List.mem_cons,List.not_mem_nil,or_false] at hi
     subst hi
     refine ⟨_,rfl,fun R hR=>?_⟩
     go_wp2_with fail
     refine (of_code (C3.out.below (bel_drew (RowKit.Below.refl _ _))) (HH.out.below (bel_drew (RowKit.Below.refl _ _)))).mono ?_
     rintro e w4 ⟨rfl,hb4⟩
     have B4:RowKit.Below w3.heap.size w3 w4:=(bel_drew (RowKit.Below.refl _ _)).trans (hb4.mono (by simp))
     have B24:=Lib.hid (bel_below B3.out B4)
     have R4:=Lib.hid (R3.out.later B4)
     have X4:∃ x:AtB w3 T h3,w4=x.world:=⟨⟨w4,fun o=>B4.cell (p:=⟨T,o,none⟩) h3,Nat.lt_of_lt_of_le h3 B4.size⟩,rfl⟩
     clear hb4
     go_wp2_with fail
     refine hR _ _ X4 ?_
     clear hR R R3 C3 B3
     have r0:=R4.out.c0
     have r1:=R4.out.c1
     have r2:=R4.out.c2
     have r3:=R4.out.c3
     have rf0:=R4.out.f0
     have rf1:=R4.out.f1
     have rf2:=R4.out.f2
     have rf3:=R4.out.f3
     have zr:=R4.out.z
     refine wpAnyC_step (f:=2) [4,5] (by kernel_rfl) rfl rfl (fun i hi=>?_)
     simp only [List.mem_cons,List.not_mem_nil,or_false] at hi
     rcases hi with rfl | rfl
     · refine ⟨_,rfl,fun R hR=>?_⟩
       go_wp2_with fail
       refine hR _ _ X4 ?_
       clear hR R
       refine wpAnyC_step (f:=1) [5] (by kernel_rfl) rfl rfl (fun i hi=>?_)
       simp only [List.mem_cons,List.not_mem_nil,or_false] at hi
       subst hi
       refine ⟨_,rfl,fun R hR=>?_⟩
       go_wp2_with fail
       obtain ⟨w5,hw5⟩:∃ z,z=(((w4.setCell ⟨w.heap.size+1+1,0,none⟩ (.slice (some ⟨p'.b1,p'.o1,none⟩) 32 p'.k1)).setCell ⟨w.heap.size+1+1,1,none⟩ (.slice (some ⟨p'.b2,p'.o2,none⟩) 32 p'.k2)).setCell ⟨w.heap.size+1+1,2,none⟩ (.slice (some ⟨p'.b3,p'.o3,none⟩) 32 p'.k3)).setCell ⟨w.heap.size+1+1,3,none⟩ (.slice (some ⟨p'.b4,p'.o4,none⟩) 32 p'.k4):=⟨_,rfl⟩
       obtain ⟨hz5,hk5⟩:=block_set4 hw5
       have X5:∃ x:AtB w3 T h3,w5=x.world:=by
        obtain ⟨x,hx⟩:=X4
        refine ⟨⟨w5,fun o=>?_,by rw [hz5,hx];exact x.lt⟩,rfl⟩
        rw [World.cell?_of_block (a:=⟨T,o,none⟩) (hk5 T (by omega)),hx]
        exact x.cell o
       have R5:BoxOf w5 (w.heap.size+1+1) p':=R4.out.store _ _ _ _ hw5
       have o5:w5.os=w4.os∧w5.tape=w4.tape∧w5.output=w4.output:=by rw [hw5];exact ⟨rfl,rfl,rfl⟩
       rw [← hw5]
       clear hw5 r0 r1 r2 r3 rf0 rf1 rf2 rf3 zr
       refine hR _ _ X5 ?_
       clear hR R
       refine wpAnyC_end (k:=6) (by decide) rfl rfl (by kernel_rfl) ?_
       have r0:=R5.c0
       have r1:=R5.c1
       have r2:=R5.c2
       have r3:=R5.c3
       go_wp2_with fail
       refine bodyPost_ret (v:=.tuple #[(.agg #[.slice (some ⟨(p').b1,(p').o1,none⟩) 32 (p').k1,.slice (some ⟨(p').b2,(p').o2,none⟩) 32 (p').k2,.slice (some ⟨(p').b3,(p').o3,none⟩) 32 (p').k3,.slice (some ⟨(p').b4,(p').o4,none⟩) 32 (p').k4]),.bool true]) ?_ rfl ?_
       · simp [results,Tryz.results11,go_sem,r0,r1,r2,r3]
       obtain ⟨S',Q',hs1,hs0,hs2,hs3⟩:=both_close H.out B0.out G1.out K1.out N2.out B2.out B24.out (R:=w.heap.size+1+1) (by omega) (by omega) o5.1 o5.2.1 o5.2.2 hz5 hk5 (inv_joinR H.out.inv hi)
       exact HP.out _ p' S' Q' w5 HE.out hs1 hs0 hs2 hs3
     · refine ⟨_,rfl,fun R hR=>?_⟩
       go_wp2_with fail
       obtain ⟨w5,hw5⟩:∃ z,z=(((w4.setCell ⟨w.heap.size+1+1,0,none⟩ (.slice (some ⟨p'.b1,p'.o1,none⟩) 32 p'.k1)).setCell ⟨w.heap.size+1+1,1,none⟩ (.slice (some ⟨p'.b2,p'.o2,none⟩) 32 p'.k2)).setCell ⟨w.heap.size+1+1,2,none⟩ (.slice (some ⟨p'.b3,p'.o3,none⟩) 32 p'.k3)).setCell ⟨w.heap.size+1+1,3,none⟩ (.slice (some ⟨p'.b4,p'.o4,none⟩) 32 p'.k4):=⟨_,rfl⟩
       obtain ⟨hz5,hk5⟩:=block_set4 hw5
       have X5:∃ x:AtB w3 T h3,w5=x.world:=by
        obtain ⟨x,hx⟩:=X4
        refine ⟨⟨w5,fun o=>?_,by rw [hz5,hx];exact x.lt⟩,rfl⟩
        rw [World.cell?_of_block (a:=⟨T,o,none⟩) (hk5 T (by omega)),hx]
        exact x.cell o
       have R5:BoxOf w5 (w.heap.size+1+1) p':=R4.out.store _ _ _ _ hw5
       have o5:w5.os=w4.os∧w5.tape=w4.tape∧w5.output=w4.output:=by rw [hw5];exact ⟨rfl,rfl,rfl⟩
       rw [← hw5]
       clear hw5 r0 r1 r2 r3 rf0 rf1 rf2 rf3 zr
       refine hR _ _ X5 ?_
       clear hR R
       refine wpAnyC_step (f:=1) [4] (by kernel_rfl) rfl rfl (fun i hi=>?_)
       simp only [List.mem_cons,List.not_mem_nil,or_false] at hi
       subst hi
       refine ⟨_,rfl,fun R hR=>?_⟩
       go_wp2_with fail
       refine hR _ _ X5 ?_
       clear hR R
       refine wpAnyC_end (k:=6) (by decide) rfl rfl (by kernel_rfl) ?_
       have r0:=R5.c0
       have r1:=R5.c1
       have r2:=R5.c2
       have r3:=R5.c3
       go_wp2_with fail
       refine bodyPost_ret (v:=.tuple #[(.agg #[.slice (some ⟨(p').b1,(p').o1,none⟩) 32 (p').k1,.slice (some ⟨(p').b2,(p').o2,none⟩) 32 (p').k2,.slice (some ⟨(p').b3,(p').o3,none⟩) 32 (p').k3,.slice (some ⟨(p').b4,(p').o4,none⟩) 32 (p').k4]),.bool true]) ?_ rfl ?_
       · simp [results,Tryz.results11,go_sem,r0,r1,r2,r3]
       obtain ⟨S',Q',hs1,hs0,hs2,hs3⟩:=both_close H.out B0.out G1.out K1.out N2.out B2.out B24.out (R:=w.heap.size+1+1) (by omega) (by omega) o5.1 o5.2.1 o5.2.2 hz5 hk5 (inv_joinR H.out.inv hi)
       exact HP.out _ p' S' Q' w5 HE.out hs1 hs0 hs2 hs3
 have b1:(kd == 1)=false:=by simpa using k1
 by_cases k2:kd=2
 · subst k2
   have HE:Hid (failR f an=actR [1,2,3,4] f ⟨2,an,av,ai⟩):=show _=_ by unfold actR;simp
   generalize actR [1,2,3,4] f ⟨2,an,av,ai⟩=fin at HP HE ⊢
   clear b1 k1
   go_enter Tryz.func11,Tryz.ntmps11
   go_upto_region 1 with (fail)
   obtain ⟨w0,hw0⟩:∃ z,z=((w.alloc (.cells #[.slice (some ⟨p.b1,p.o1,none⟩) 32 p.k1,.slice (some ⟨p.b2,p.o2,none⟩) 32 p.k2,.slice (some ⟨p.b3,p.o3,none⟩) 32 p.k3,.slice (some ⟨p.b4,p.o4,none⟩) 32 p.k4] 32)).alloc (.cells #[.int .i64 2,.int .i64 an,.int .i64 av,.int .u64 ai] 45)).alloc (.cells #[.slice none 0 0,.slice none 0 0,.slice none 0 0,.slice none 0 0] 32):=⟨_,rfl⟩
   have hz0:w0.heap.size=w.heap.size+3:=by rw [hw0];simp
   have B0:Hid (RowKit.Below w.heap.size w w0):=by rw [hw0];exact bel_alloc (bel_alloc (bel_alloc (RowKit.Below.refl _ _) _) _) _
   have P0:Hid (BoxOf w0 w.heap.size p):=by rw [hw0];exact ⟨by simp [go_sem],by simp [go_sem],by simp [go_sem],by simp [go_sem],by simp [go_sem],by simp [go_sem],by simp [go_sem],by simp [go_sem],by simp;omega⟩
   have A0:Hid (BoxIs w0 (w.heap.size+1) (.int .i64 2) (.int .i64 an) (.int .i64 av) (.int .u64 ai)):=by rw [hw0];exact ⟨by simp [go_sem],by simp [go_sem],by simp [go_sem],by simp [go_sem],by simp [go_sem],by simp [go_sem],by simp [go_sem],by simp [go_sem],by simp⟩
   have R0:Hid (BoxNil w0 (w.heap.size+1+1)):=by rw [hw0];exact ⟨by simp [go_sem],by simp [go_sem],by simp [go_sem],by simp [go_sem],by simp [go_sem],by simp [go_sem],by simp [go_sem],by simp [go_sem],by simp⟩
   obtain ⟨g,hg⟩:=H.out.ring
   obtain ⟨V,hv⟩:=H.out.ref
   have G0:=Lib.hid (hg.now B0.out)
   have V0:Hid (RefIs (fun b=>Q b∧b<w.heap.size) w p f V):=hv.same (fun b hb hq=>⟨hq,hb⟩) (Nat.le_refl _) (fun _ _ _=>rfl)
   clear hg hv
   rw [← hw0]
   clear hw0
   have c0:=(P0).out.c0
   have c1:=(P0).out.c1
   have c2:=(P0).out.c2
   have c3:=(P0).out.c3
   have zp:=(P0).out.z
   have a0:=(A0).out.c0
   have a1:=(A0).out.c1
   have a2:=(A0).out.c2
   have a3:=(A0).out.c3
   have za:=(A0).out.z
   go_wp2_with fail
   refine (fail_act G0.out an hn).mono ?_
   rintro e w1 ⟨v,rfl,hcode,⟨g1,hg1⟩,hk1⟩
   have hz1:=hk1.size
   have P1:Hid (BoxOf w1 w.heap.size p):=P0.out.block hz1 (hk1.block _ (by omega) (fun hN=>by rcases hN with ⟨_,h⟩ | h <;> omega))
   have A1:Hid (BoxIs w1 (w.heap.size+1) (.int .i64 2) (.int .i64 an) (.int .i64 av) (.int .u64 ai)):=A0.out.block hz1 (hk1.block _ (by omega) (fun hN=>by rcases hN with ⟨_,h⟩ | h <;> omega))
   have R1:Hid (BoxNil w1 (w.heap.size+1+1)):=R0.out.block hz1 (hk1.block _ (by omega) (fun hN=>by rcases hN with ⟨_,h⟩ | h <;> omega))
   have V1:Hid (RefIs (fun b=>Q b∧b<w.heap.size) w1 p f V):=(V0.out.below B0.out).same (fun _ _ h=>h) hz1 (fun b hb hq=>hk1.block b hb (fun hN=>by rcases hN with ⟨h,_⟩ | h <;> first | exact H.out.dis b hq.1 h | omega))
   have G1:=Lib.hid hg1
   have K1:=Lib.hid hk1
   have C1:=Lib.hid hcode
   have hW0:W.heap.size<=w.heap.size:=H.out.below.size
   clear c0 c1 c2 c3 zp a0 a1 a2 a3 za
   clear hcode hg1 hk1 P0 A0 R0 G0 V0
   have c0:=(P1).out.c0
   have c1:=(P1).out.c1
   have c2:=(P1).out.c2
   have c3:=(P1).out.c3
   have zp:=(P1).out.z
   have a0:=(A1).out.c0
   have a1:=(A1).out.c1
   have a2:=(A1).out.c2
   have a3:=(A1).out.c3
   have za:=(A1).out.z
   go_wp2_with fail
   refine (rfail_any V1.out H.out.inv an).mono ?_
   rintro e w2 ⟨x,rfl,p',V',rfl,hn2,hb2⟩
   simp only [Where.val,Where.used,Where.live,Where.ids,Where.peers]
   have N2:=Lib.hid hn2
   have B2:=Lib.hid hb2
   have R2:=Lib.hid (R1.out.later hb2)
   have C2:=Lib.hid (C1.out.below hb2)
   have hz2:=hb2.size
   clear c0 c1 c2 c3 zp a0 a1 a2 a3 za
   clear hn2 hb2 P1 A1 R1 V1 C1
   go_upto_region 9 with (fail)
   obtain ⟨w3,hw3⟩:∃ z,z=w2.alloc (.cells #[.slice (some ⟨p'.b1,p'.o1,none⟩) 32 p'.k1,.slice (some ⟨p'.b2,p'.o2,none⟩) 32 p'.k2,.slice (some ⟨p'.b3,p'.o3,none⟩) 32 p'.k3,.slice (some ⟨p'.b4,p'.o4,none⟩) 32 p'.k4] 32):=⟨_,rfl⟩
   obtain ⟨T,hT⟩:∃ T,T=w2.heap.size:=⟨_,rfl⟩
   have B3:Hid (RowKit.Below w2.heap.size w2 w3):=by rw [hw3];exact bel_alloc (RowKit.Below.refl _ _) _
   have T3:Hid (BoxOf w3 T p'):=by rw [hw3,hT];exact ⟨by simp [go_sem],by simp [go_sem],by simp [go_sem],by simp [go_sem],by simp [go_sem],by simp [go_sem],by simp [go_sem],by simp [go_sem],by simp⟩
   have R3:=Lib.hid (R2.out.later B3.out)
   have C3:=Lib.hid (C2.out.below B3.out)
   have hTz:w.heap.size+3<=T:=by omega
   have h3:T<w3.heap.size:=T3.out.z
   have hHd:HandleAt w3:=H.out.hd.below (kept_from H.out.below ((((Kept.refl S w).below B0.out).trans ⟨K1.out.os,K1.out.tape,K1.out.output,K1.out.size,fun b hb hS=>K1.out.block b hb (fun hN=>by rcases hN with ⟨h,_⟩ | h <;> first | exact hS h | exact hS (H.out.up b (by omega)))⟩).below B2.out |>.below B3.out) H.out.low)
   have HH:=Lib.hid hHd
   rw [← hw3,← hT]
   have HTT:=Lib.hid hT
   clear hw3 hT hHd R2 C2
   have t0:=T3.out.c0
   have t1:=T3.out.c1
   have t2:=T3.out.c2
   have t3:=T3.out.c3
   refine wp_region_heads [0,1,3] 6 (fun w'=>∃ x:AtB w3 T h3,w'=x.world) (by kernel_rfl) (by kernel_rfl) ⟨⟨{ w3 with drawn:=w3.drawn+1 },fun _=>rfl,h3⟩,rfl⟩ ?_ ?_
   · intro d v c a w h
     cases d <;> exact h
   · simp only [headOps]
     repeat (refine wpTame_step (fun K hK=>?_);go_simp;refine hK _ ?_;clear hK K)
     refine wpTame_nil ?_
     clear t0 t1 t2 t3
     refine wpAnyC_step (f:=3) [2] (by kernel_rfl) rfl rfl (fun i hi=>?_)
     simp only [List.mem_cons,List.not_mem_nil,or_false] at hi
     subst hi
     refine ⟨_,rfl,fun R hR=>?_⟩
     go_wp2_with fail
     refine (of_code (C3.out.below (bel_drew (RowKit.Below.refl _ _))) (HH.out.below (bel_drew (RowKit.Below.refl _ _)))).mono ?_
     rintro e w4 ⟨rfl,hb4⟩
     have B4:RowKit.Below w3.heap.size w3 w4:=(bel_drew (RowKit.Below.refl _ _)).trans (hb4.mono (by simp))
     have B24:=Lib.hid (bel_below B3.out B4)
     have R4:=Lib.hid (R3.out.later B4)
     have X4:∃ x:AtB w3 T h3,w4=x.world:=⟨⟨w4,fun o=>B4.cell (p:=⟨T,o,none⟩) h3,Nat.lt_of_lt_of_le h3 B4.size⟩,rfl⟩
     clear hb4
     go_wp2_with fail
     refine hR _ _ X4 ?_
     clear hR R R3 C3 B3
     have r0:=R4.out.c0
     have r1:=R4.out.c1
     have r2:=R4.out.c2
     have r3:=R4.out.c3
     have rf0:=R4.out.f0
     have rf1:=R4.out.f1
     have rf2:=R4.out.f2
     have rf3:=R4.out.f3
     have zr:=R4.out.z
     refine wpAnyC_step (f:=2) [4,5] (by kernel_rfl) rfl rfl (fun i hi=>?_)
     simp only [List.mem_cons,List.not_mem_nil,or_false] at hi
     rcases hi with rfl | rfl
     · refine ⟨_,rfl,fun R hR=>?_⟩
       go_wp2_with fail
       refine hR _ _ X4 ?_
       clear hR R
       refine wpAnyC_step (f:=1) [5] (by kernel_rfl) rfl rfl (fun i hi=>?_)
       simp only [List.mem_cons,List.not_mem_nil,or_false] at hi
       subst hi
       refine ⟨_,rfl,fun R hR=>?_⟩
       go_wp2_with fail
       obtain ⟨w5,hw5⟩:∃ z,z=(((w4.setCell ⟨w.heap.size+1+1,0,none⟩ (.slice (some ⟨p'.b1,p'.o1,none⟩) 32 p'.k1)).setCell ⟨w.heap.size+1+1,1,none⟩ (.slice (some ⟨p'.b2,p'.o2,none⟩) 32 p'.k2)).setCell ⟨w.heap.size+1+1,2,none⟩ (.slice (some ⟨p'.b3,p'.o3,none⟩) 32 p'.k3)).setCell ⟨w.heap.size+1+1,3,none⟩ (.slice (some ⟨p'.b4,p'.o4,none⟩) 32 p'.k4):=⟨_,rfl⟩
       obtain ⟨hz5,hk5⟩:=block_set4 hw5
       have X5:∃ x:AtB w3 T h3,w5=x.world:=by
        obtain ⟨x,hx⟩:=X4
        refine ⟨⟨w5,fun o=>?_,by rw [hz5,hx];exact x.lt⟩,rfl⟩
        rw [World.cell?_of_block (a:=⟨T,o,none⟩) (hk5 T (by omega)),hx]
        exact x.cell o
       have R5:BoxOf w5 (w.heap.size+1+1) p':=R4.out.store _ _ _ _ hw5
       have o5:w5.os=w4.os∧w5.tape=w4.tape∧w5.output=w4.output:=by rw [hw5];exact ⟨rfl,rfl,rfl⟩
       rw [← hw5]
       clear hw5 r0 r1 r2 r3 rf0 rf1 rf2 rf3 zr
       refine hR _ _ X5 ?_
       clear hR R
       refine wpAnyC_end (k:=6) (by decide) rfl rfl (by kernel_rfl) ?_
       have r0:=R5.c0
       have r1:=R5.c1
       have r2:=R5.c2
       have r3:=R5.c3
       go_wp2_with fail
       refine bodyPost_ret (v:=.tuple #[(.agg #[.slice (some ⟨(p').b1,(p').o1,none⟩) 32 (p').k1,.slice (some ⟨(p').b2,(p').o2,none⟩) 32 (p').k2,.slice (some ⟨(p').b3,(p').o3,none⟩) 32 (p').k3,.slice (some ⟨(p').b4,(p').o4,none⟩) 32 (p').k4]),.bool true]) ?_ rfl ?_
       · simp [results,Tryz.results11,go_sem,r0,r1,r2,r3]
       obtain ⟨S',Q',hs1,hs0,hs2,hs3⟩:=both_close H.out B0.out G1.out K1.out N2.out B2.out B24.out (R:=w.heap.size+1+1) (by omega) (by omega) o5.1 o5.2.1 o5.2.2 hz5 hk5 (inv_failR H.out.inv _)
       exact HP.out _ p' S' Q' w5 HE.out hs1 hs0 hs2 hs3
     · refine ⟨_,rfl,fun R hR=>?_⟩
       go_wp2_with fail
       obtain ⟨w5,hw5⟩:∃ z,z=(((w4.setCell ⟨w.heap.size+1+1,0,none⟩ (.slice (some ⟨p'.b1,p'.o1,none⟩) 32 p'.k1)).setCell ⟨w.heap.size+1+1,1,none⟩ (.slice (some ⟨p'.b2,p'.o2,none⟩) 32 p'.k2)).setCell ⟨w.heap.size+1+1,2,none⟩ (.slice (some ⟨p'.b3,p'.o3,none⟩) 32 p'.k3)).setCell ⟨w.heap.size+1+1,3,none⟩ (.slice (some ⟨p'.b4,p'.o4,none⟩) 32 p'.k4):=⟨_,rfl⟩
       obtain ⟨hz5,hk5⟩:=block_set4 hw5
       have X5:∃ x:AtB w3 T h3,w5=x.world:=by
        obtain ⟨x,hx⟩:=X4
        refine ⟨⟨w5,fun o=>?_,by rw [hz5,hx];exact x.lt⟩,rfl⟩
        rw [World.cell?_of_block (a:=⟨T,o,none⟩) (hk5 T (by omega)),hx]
        exact x.cell o
       have R5:BoxOf w5 (w.heap.size+1+1) p':=R4.out.store _ _ _ _ hw5
       have o5:w5.os=w4.os∧w5.tape=w4.tape∧w5.output=w4.output:=by rw [hw5];exact ⟨rfl,rfl,rfl⟩
       rw [← hw5]
       clear hw5 r0 r1 r2 r3 rf0 rf1 rf2 rf3 zr
       refine hR _ _ X5 ?_
       clear hR R
       refine wpAnyC_step (f:=1) [4] (by kernel_rfl) rfl rfl (fun i hi=>?_)
       simp only [List.mem_cons,List.not_mem_nil,or_false] at hi
       subst hi
       refine ⟨_,rfl,fun R hR=>?_⟩
       go_wp2_with fail
       refine hR _ _ X5 ?_
       clear hR R
       refine wpAnyC_end (k:=6) (by decide) rfl rfl (by kernel_rfl) ?_
       have r0:=R5.c0
       have r1:=R5.c1
       have r2:=R5.c2
       have r3:=R5.c3
       go_wp2_with fail
       refine bodyPost_ret (v:=.tuple #[(.agg #[.slice (some ⟨(p').b1,(p').o1,none⟩) 32 (p').k1,.slice (some ⟨(p').b2,(p').o2,none⟩) 32 (p').k2,.slice (some ⟨(p').b3,(p').o3,none⟩) 32 (p').k3,.slice (some ⟨(p').b4,(p').o4,none⟩) 32 (p').k4]),.bool true]) ?_ rfl ?_
       · simp [results,Tryz.results11,go_sem,r0,r1,r2,r3]
       obtain ⟨S',Q',hs1,hs0,hs2,hs3⟩:=both_close H.out B0.out G1.out K1.out N2.out B2.out B24.out (R:=w.heap.size+1+1) (by omega) (by omega) o5.1 o5.2.1 o5.2.2 hz5 hk5 (inv_failR H.out.inv _)
       exact HP.out _ p' S' Q' w5 HE.out hs1 hs0 hs2 hs3
 have b2:(kd == 2)=false:=by simpa using k2
 by_cases k3:kd=3
 · subst k3
   have HE:Hid (stabE f an=actR [1,2,3,4] f ⟨3,an,av,ai⟩):=show _=_ by unfold actR;simp
   generalize actR [1,2,3,4] f ⟨3,an,av,ai⟩=fin at HP HE ⊢
   clear b1 k1 b2 k2
   go_enter Tryz.func11,Tryz.ntmps11
   go_upto_region 1 with (fail)
   obtain ⟨w0,hw0⟩:∃ z,z=((w.alloc (.cells #[.slice (some ⟨p.b1,p.o1,none⟩) 32 p.k1,.slice (some ⟨p.b2,p.o2,none⟩) 32 p.k2,.slice (some ⟨p.b3,p.o3,none⟩) 32 p.k3,.slice (some ⟨p.b4,p.o4,none⟩) 32 p.k4] 32)).alloc (.cells #[.int .i64 3,.int .i64 an,.int .i64 av,.int .u64 ai] 45)).alloc (.cells #[.slice none 0 0,.slice none 0 0,.slice none 0 0,.slice none 0 0] 32):=⟨_,rfl⟩
   have hz0:w0.heap.size=w.heap.size+3:=by rw [hw0];simp
   have B0:Hid (RowKit.Below w.heap.size w w0):=by rw [hw0];exact bel_alloc (bel_alloc (bel_alloc (RowKit.Below.refl _ _) _) _) _
   have P0:Hid (BoxOf w0 w.heap.size p):=by rw [hw0];exact ⟨by simp [go_sem],by simp [go_sem],by simp [go_sem],by simp [go_sem],by simp [go_sem],by simp [go_sem],by simp [go_sem],by simp [go_sem],by simp;omega⟩
   have A0:Hid (BoxIs w0 (w.heap.size+1) (.int .i64 3) (.int .i64 an) (.int .i64 av) (.int .u64 ai)):=by rw [hw0];exact ⟨by simp [go_sem],by simp [go_sem],by simp [go_sem],by simp [go_sem],by simp [go_sem],by simp [go_sem],by simp [go_sem],by simp [go_sem],by simp⟩
   have R0:Hid (BoxNil w0 (w.heap.size+1+1)):=by rw [hw0];exact ⟨by simp [go_sem],by simp [go_sem],by simp [go_sem],by simp [go_sem],by simp [go_sem],by simp [go_sem],by simp [go_sem],by simp [go_sem],by simp⟩
   obtain ⟨g,hg⟩:=H.out.ring
   obtain ⟨V,hv⟩:=H.out.ref
   have G0:=Lib.hid (hg.now B0.out)
   have V0:Hid (RefIs (fun b=>Q b∧b<w.heap.size) w p f V):=hv.same (fun b hb hq=>⟨hq,hb⟩) (Nat.le_refl _) (fun _ _ _=>rfl)
   clear hg hv
   rw [← hw0]
   clear hw0
   have c0:=(P0).out.c0
   have c1:=(P0).out.c1
   have c2:=(P0).out.c2
   have c3:=(P0).out.c3
   have zp:=(P0).out.z
   have a0:=(A0).out.c0
   have a1:=(A0).out.c1
   have a2:=(A0).out.c2
   have a3:=(A0).out.c3
   have za:=(A0).out.z
   go_wp2_with fail
   refine (stab_act G0.out H.out.inv.heads an hn).mono ?_
   rintro e w1 ⟨v,rfl,hcode,⟨g1,hg1⟩,hk1⟩
   have hz1:=hk1.size
   have P1:Hid (BoxOf w1 w.heap.size p):=P0.out.block hz1 (hk1.block _ (by omega) (fun hN=>by rcases hN with ⟨_,h⟩ | h <;> omega))
   have A1:Hid (BoxIs w1 (w.heap.size+1) (.int .i64 3) (.int .i64 an) (.int .i64 av) (.int .u64 ai)):=A0.out.block hz1 (hk1.block _ (by omega) (fun hN=>by rcases hN with ⟨_,h⟩ | h <;> omega))
   have R1:Hid (BoxNil w1 (w.heap.size+1+1)):=R0.out.block hz1 (hk1.block _ (by omega) (fun hN=>by rcases hN with ⟨_,h⟩ | h <;> omega))
   have V1:Hid (RefIs (fun b=>Q b∧b<w.heap.size) w1 p f V):=(V0.out.below B0.out).same (fun _ _ h=>h) hz1 (fun b hb hq=>hk1.block b hb (fun hN=>by rcases hN with ⟨h,_⟩ | h <;> first | exact H.out.dis b hq.1 h | omega))
   have G1:=Lib.hid hg1
   have K1:=Lib.hid hk1
   have C1:=Lib.hid hcode
   have hW0:W.heap.size<=w.heap.size:=H.out.below.size
   clear c0 c1 c2 c3 zp a0 a1 a2 a3 za
   clear hcode hg1 hk1 P0 A0 R0 G0 V0
   have c0:=(P1).out.c0
   have c1:=(P1).out.c1
   have c2:=(P1).out.c2
   have c3:=(P1).out.c3
   have zp:=(P1).out.z
   have a0:=(A1).out.c0
   have a1:=(A1).out.c1
   have a2:=(A1).out.c2
   have a3:=(A1).out.c3
   have za:=(A1).out.z
   go_wp2_with fail
   refine (rstabE_any V1.out H.out.inv an).mono ?_
   rintro e w2 ⟨x,rfl,p',V',rfl,hn2,hb2⟩
   simp only [Where.val,Where.used,Where.live,Where.ids,Where.peers]
   have N2:=Lib.hid hn2
   have B2:=Lib.hid hb2
   have R2:=Lib.hid (R1.out.later hb2)
   have C2:=Lib.hid (C1.out.below hb2)
   have hz2:=hb2.size
   clear c0 c1 c2 c3 zp a0 a1 a2 a3 za
   clear hn2 hb2 P1 A1 R1 V1 C1
   go_upto_region 13 with (fail)
   obtain ⟨w3,hw3⟩:∃ z,z=w2.alloc (.cells #[.slice (some ⟨p'.b1,p'.o1,none⟩) 32 p'.k1,.slice (some ⟨p'.b2,p'.o2,none⟩) 32 p'.k2,.slice (some ⟨p'.b3,p'.o3,none⟩) 32 p'.k3,.slice (some ⟨p'.b4,p'.o4,none⟩) 32 p'.k4] 32):=⟨_,rfl⟩
   obtain ⟨T,hT⟩:∃ T,T=w2.heap.size:=⟨_,rfl⟩
   have B3:Hid (RowKit.Below w2.heap.size w2 w3):=by rw [hw3];exact bel_alloc (RowKit.Below.refl _ _) _
   have T3:Hid (BoxOf w3 T p'):=by rw [hw3,hT];exact ⟨by simp [go_sem],by simp [go_sem],by simp [go_sem],by simp [go_sem],by simp [go_sem],by simp [go_sem],by simp [go_sem],by simp [go_sem],by simp⟩
   have R3:=Lib.hid (R2.out.later B3.out)
   have C3:=Lib.hid (C2.out.below B3.out)
   have hTz:w.heap.size+3<=T:=by omega
   have h3:T<w3.heap.size:=T3.out.z
   have hHd:HandleAt w3:=H.out.hd.below (kept_from H.out.below ((((Kept.refl S w).below B0.out).trans ⟨K1.out.os,K1.out.tape,K1.out.output,K1.out.size,fun b hb hS=>K1.out.block b hb (fun hN=>by rcases hN with ⟨h,_⟩ | h <;> first | exact hS h | exact hS (H.out.up b (by omega)))⟩).below B2.out |>.below B3.out) H.out.low)
   have HH:=Lib.hid hHd
   rw [← hw3,← hT]
   have HTT:=Lib.hid hT
   clear hw3 hT hHd R2 C2
   have t0:=T3.out.c0
   have t1:=T3.out.c1
   have t2:=T3.out.c2
   have t3:=T3.out.c3
   refine wp_region_heads [0,1,3] 6 (fun w'=>∃ x:AtB w3 T h3,w'=x.world) (by kernel_rfl) (by kernel_rfl) ⟨⟨{ w3 with drawn:=w3.drawn+1 },fun _=>rfl,h3⟩,rfl⟩ ?_ ?_
   · intro d v c a w h
     cases d <;> exact h
   · simp only [headOps]
     repeat (refine wpTame_step (fun K hK=>?_);go_simp;refine hK _ ?_;clear hK K)
     refine wpTame_nil ?_
     clear t0 t1 t2 t3
     refine wpAnyC_step (f:=3) [2] (by kernel_rfl) rfl rfl (fun i hi=>?_)
     simp only [List.mem_cons,List.not_mem_nil,or_false] at hi
     subst hi
     refine ⟨_,rfl,fun R hR=>?_⟩
     go_wp2_with fail
     refine (of_code (C3.out.below (bel_drew (RowKit.Below.refl _ _))) (HH.out.below (bel_drew (RowKit.Below.refl _ _)))).mono ?_
     rintro e w4 ⟨rfl,hb4⟩
     have B4:RowKit.Below w3.heap.size w3 w4:=(bel_drew (RowKit.Below.refl _ _)).trans (hb4.mono (by simp))
     have B24:=Lib.hid (bel_below B3.out B4)
     have R4:=Lib.hid (R3.out.later B4)
     have X4:∃ x:AtB w3 T h3,w4=x.world:=⟨⟨w4,fun o=>B4.cell (p:=⟨T,o,none⟩) h3,Nat.lt_of_lt_of_le h3 B4.size⟩,rfl⟩
     clear hb4
     go_wp2_with fail
     refine hR _ _ X4 ?_
     clear hR R R3 C3 B3
     have r0:=R4.out.c0
     have r1:=R4.out.c1
     have r2:=R4.out.c2
     have r3:=R4.out.c3
     have rf0:=R4.out.f0
     have rf1:=R4.out.f1
     have rf2:=R4.out.f2
     have rf3:=R4.out.f3
     have zr:=R4.out.z
     refine wpAnyC_step (f:=2) [4,5] (by kernel_rfl) rfl rfl (fun i hi=>?_)
     simp only [List.mem_cons,List.not_mem_nil,or_false] at hi
     rcases hi with rfl | rfl
     · refine ⟨_,rfl,fun R hR=>?_⟩
       go_wp2_with fail
       refine hR _ _ X4 ?_
       clear hR R
       refine wpAnyC_step (f:=1) [5] (by kernel_rfl) rfl rfl (fun i hi=>?_)
       simp only [List.mem_cons,List.not_mem_nil,or_false] at hi
       subst hi
       refine ⟨_,rfl,fun R hR=>?_⟩
       go_wp2_with fail
       obtain ⟨w5,hw5⟩:∃ z,z=(((w4.setCell ⟨w.heap.size+1+1,0,none⟩ (.slice (some ⟨p'.b1,p'.o1,none⟩) 32 p'.k1)).setCell ⟨w.heap.size+1+1,1,none⟩ (.slice (some ⟨p'.b2,p'.o2,none⟩) 32 p'.k2)).setCell ⟨w.heap.size+1+1,2,none⟩ (.slice (some ⟨p'.b3,p'.o3,none⟩) 32 p'.k3)).setCell ⟨w.heap.size+1+1,3,none⟩ (.slice (some ⟨p'.b4,p'.o4,none⟩) 32 p'.k4):=⟨_,rfl⟩
       obtain ⟨hz5,hk5⟩:=block_set4 hw5
       have X5:∃ x:AtB w3 T h3,w5=x.world:=by
        obtain ⟨x,hx⟩:=X4
        refine ⟨⟨w5,fun o=>?_,by rw [hz5,hx];exact x.lt⟩,rfl⟩
        rw [World.cell?_of_block (a:=⟨T,o,none⟩) (hk5 T (by omega)),hx]
        exact x.cell o
       have R5:BoxOf w5 (w.heap.size+1+1) p':=R4.out.store _ _ _ _ hw5
       have o5:w5.os=w4.os∧w5.tape=w4.tape∧w5.output=w4.output:=by rw [hw5];exact ⟨rfl,rfl,rfl⟩
       rw [← hw5]
       clear hw5 r0 r1 r2 r3 rf0 rf1 rf2 rf3 zr
       refine hR _ _ X5 ?_
       clear hR R
       refine wpAnyC_end (k:=6) (by decide) rfl rfl (by kernel_rfl) ?_
       have r0:=R5.c0
       have r1:=R5.c1
       have r2:=R5.c2
       have r3:=R5.c3
       go_wp2_with fail
       refine bodyPost_ret (v:=.tuple #[(.agg #[.slice (some ⟨(p').b1,(p').o1,none⟩) 32 (p').k1,.slice (some ⟨(p').b2,(p').o2,none⟩) 32 (p').k2,.slice (some ⟨(p').b3,(p').o3,none⟩) 32 (p').k3,.slice (some ⟨(p').b4,(p').o4,none⟩) 32 (p').k4]),.bool true]) ?_ rfl ?_
       · simp [results,Tryz.results11,go_sem,r0,r1,r2,r3]
       obtain ⟨S',Q',hs1,hs0,hs2,hs3⟩:=both_close H.out B0.out G1.out K1.out N2.out B2.out B24.out (R:=w.heap.size+1+1) (by omega) (by omega) o5.1 o5.2.1 o5.2.2 hz5 hk5 (inv_stabE H.out.inv _)
       exact HP.out _ p' S' Q' w5 HE.out hs1 hs0 hs2 hs3
     · refine ⟨_,rfl,fun R hR=>?_⟩
       go_wp2_with fail
       obtain ⟨w5,hw5⟩:∃ z,z=(((w4.setCell ⟨w.heap.size+1+1,0,none⟩ (.slice (some ⟨p'.b1,p'.o1,none⟩) 32 p'.k1)).setCell ⟨w.heap.size+1+1,1,none⟩ (.slice (some ⟨p'.b2,p'.o2,none⟩) 32 p'.k2)).setCell ⟨w.heap.size+1+1,2,none⟩ (.slice (some ⟨p'.b3,p'.o3,none⟩) 32 p'.k3)).setCell ⟨w.heap.size+1+1,3,none⟩ (.slice (some ⟨p'.b4,p'.o4,none⟩) 32 p'.k4):=⟨_,rfl⟩
       obtain ⟨hz5,hk5⟩:=block_set4 hw5
       have X5:∃ x:AtB w3 T h3,w5=x.world:=by
        obtain ⟨x,hx⟩:=X4
        refine ⟨⟨w5,fun o=>?_,by rw [hz5,hx];exact x.lt⟩,rfl⟩
        rw [World.cell?_of_block (a:=⟨T,o,none⟩) (hk5 T (by omega)),hx]
        exact x.cell o
       have R5:BoxOf w5 (w.heap.size+1+1) p':=R4.out.store _ _ _ _ hw5
       have o5:w5.os=w4.os∧w5.tape=w4.tape∧w5.output=w4.output:=by rw [hw5];exact ⟨rfl,rfl,rfl⟩
       rw [← hw5]
       clear hw5 r0 r1 r2 r3 rf0 rf1 rf2 rf3 zr
       refine hR _ _ X5 ?_
       clear hR R
       refine wpAnyC_step (f:=1) [4] (by kernel_rfl) rfl rfl (fun i hi=>?_)
       simp only [List.mem_cons,List.not_mem_nil,or_false] at hi
       subst hi
       refine ⟨_,rfl,fun R hR=>?_⟩
       go_wp2_with fail
       refine hR _ _ X5 ?_
       clear hR R
       refine wpAnyC_end (k:=6) (by decide) rfl rfl (by kernel_rfl) ?_
       have r0:=R5.c0
       have r1:=R5.c1
       have r2:=R5.c2
       have r3:=R5.c3
       go_wp2_with fail
       refine bodyPost_ret (v:=.tuple #[(.agg #[.slice (some ⟨(p').b1,(p').o1,none⟩) 32 (p').k1,.slice (some ⟨(p').b2,(p').o2,none⟩) 32 (p').k2,.slice (some ⟨(p').b3,(p').o3,none⟩) 32 (p').k3,.slice (some ⟨(p').b4,(p').o4,none⟩) 32 (p').k4]),.bool true]) ?_ rfl ?_
       · simp [results,Tryz.results11,go_sem,r0,r1,r2,r3]
       obtain ⟨S',Q',hs1,hs0,hs2,hs3⟩:=both_close H.out B0.out G1.out K1.out N2.out B2.out B24.out (R:=w.heap.size+1+1) (by omega) (by omega) o5.1 o5.2.1 o5.2.2 hz5 hk5 (inv_stabE H.out.inv _)
       exact HP.out _ p' S' Q' w5 HE.out hs1 hs0 hs2 hs3
 have b3:(kd == 3)=false:=by simpa using k3
 by_cases k4:kd=4
 · subst k4
   have HE:Hid (roundR f=actR [1,2,3,4] f ⟨4,an,av,ai⟩):=show _=_ by unfold actR;simp
   generalize actR [1,2,3,4] f ⟨4,an,av,ai⟩=fin at HP HE ⊢
   clear b1 k1 b2 k2 b3 k3
   go_enter Tryz.func11,Tryz.ntmps11
   go_upto_region 1 with (fail)
   obtain ⟨w0,hw0⟩:∃ z,z=((w.alloc (.cells #[.slice (some ⟨p.b1,p.o1,none⟩) 32 p.k1,.slice (some ⟨p.b2,p.o2,none⟩) 32 p.k2,.slice (some ⟨p.b3,p.o3,none⟩) 32 p.k3,.slice (some ⟨p.b4,p.o4,none⟩) 32 p.k4] 32)).alloc (.cells #[.int .i64 4,.int .i64 an,.int .i64 av,.int .u64 ai] 45)).alloc (.cells #[.slice none 0 0,.slice none 0 0,.slice none 0 0,.slice none 0 0] 32):=⟨_,rfl⟩
   have hz0:w0.heap.size=w.heap.size+3:=by rw [hw0];simp
   have B0:Hid (RowKit.Below w.heap.size w w0):=by rw [hw0];exact bel_alloc (bel_alloc (bel_alloc (RowKit.Below.refl _ _) _) _) _
   have P0:Hid (BoxOf w0 w.heap.size p):=by rw [hw0];exact ⟨by simp [go_sem],by simp [go_sem],by simp [go_sem],by simp [go_sem],by simp [go_sem],by simp [go_sem],by simp [go_sem],by simp [go_sem],by simp;omega⟩
   have A0:Hid (BoxIs w0 (w.heap.size+1) (.int .i64 4) (.int .i64 an) (.int .i64 av) (.int .u64 ai)):=by rw [hw0];exact ⟨by simp [go_sem],by simp [go_sem],by simp [go_sem],by simp [go_sem],by simp [go_sem],by simp [go_sem],by simp [go_sem],by simp [go_sem],by simp⟩
   have R0:Hid (BoxNil w0 (w.heap.size+1+1)):=by rw [hw0];exact ⟨by simp [go_sem],by simp [go_sem],by simp [go_sem],by simp [go_sem],by simp [go_sem],by simp [go_sem],by simp [go_sem],by simp [go_sem],by simp⟩
   obtain ⟨g,hg⟩:=H.out.ring
   obtain ⟨V,hv⟩:=H.out.ref
   have G0:=Lib.hid (hg.now B0.out)
   have V0:Hid (RefIs (fun b=>Q b∧b<w.heap.size) w p f V):=hv.same (fun b hb hq=>⟨hq,hb⟩) (Nat.le_refl _) (fun _ _ _=>rfl)
   clear hg hv
   rw [← hw0]
   clear hw0
   have c0:=(P0).out.c0
   have c1:=(P0).out.c1
   have c2:=(P0).out.c2
   have c3:=(P0).out.c3
   have zp:=(P0).out.z
   have a0:=(A0).out.c0
   have a1:=(A0).out.c1
   have a2:=(A0).out.c2
   have a3:=(A0).out.c3
   have za:=(A0).out.z
   go_wp2_with fail
   refine (round_at G0.out H.out.inv.heads).mono ?_
   rintro e w1 ⟨rfl,hg1,hk1⟩
   have hz1:=hk1.size
   have P1:Hid (BoxOf w1 w.heap.size p):=P0.out.block hz1 (hk1.block _ (by omega) (fun hN=>by rcases hN with ⟨_,h⟩ | h <;> omega))
   have R1:Hid (BoxNil w1 (w.heap.size+1+1)):=R0.out.block hz1 (hk1.block _ (by omega) (fun hN=>by rcases hN with ⟨_,h⟩ | h <;> omega))
   have V1:Hid (RefIs (fun b=>Q b∧b<w.heap.size) w1 p f V):=(V0.out.below B0.out).same (fun _ _ h=>h) hz1 (fun b hb hq=>hk1.block b hb (fun hN=>by rcases hN with ⟨h,_⟩ | h <;> first | exact H.out.dis b hq.1 h | omega))
   have G1:=Lib.hid hg1
   have K1:=Lib.hid hk1
   clear c0 c1 c2 c3 zp a0 a1 a2 a3 za
   clear hg1 hk1 P0 A0 R0 G0 V0
   have c0:=P1.out.c0
   have c1:=P1.out.c1
   have c2:=P1.out.c2
   have c3:=P1.out.c3
   have zp:=P1.out.z
   go_wp2_with fail
   refine (rround_any V1.out H.out.inv).mono ?_
   rintro e w4 ⟨x,rfl,p',V',rfl,hn2,hb2⟩
   simp only [Where.val,Where.used,Where.live,Where.ids,Where.peers]
   have N2:=Lib.hid hn2
   have B2:=Lib.hid hb2
   have R4:=Lib.hid (R1.out.later hb2)
   clear hn2 hb2 P1 R1 V1 c0 c1 c2 c3 zp
   have r0:=R4.out.c0
   have r1:=R4.out.c1
   have r2:=R4.out.c2
   have r3:=R4.out.c3
   have rf0:=R4.out.f0
   have rf1:=R4.out.f1
   have rf2:=R4.out.f2
   have rf3:=R4.out.f3
   have zr:=R4.out.z
   go_wp2_with fail
   obtain ⟨w5,hw5⟩:∃ z,z=(((w4.setCell ⟨w.heap.size+1+1,0,none⟩ (.slice (some ⟨p'.b1,p'.o1,none⟩) 32 p'.k1)).setCell ⟨w.heap.size+1+1,1,none⟩ (.slice (some ⟨p'.b2,p'.o2,none⟩) 32 p'.k2)).setCell ⟨w.heap.size+1+1,2,none⟩ (.slice (some ⟨p'.b3,p'.o3,none⟩) 32 p'.k3)).setCell ⟨w.heap.size+1+1,3,none⟩ (.slice (some ⟨p'.b4,p'.o4,none⟩) 32 p'.k4):=⟨_,rfl⟩
   obtain ⟨hz5,hk5⟩:=block_set4 hw5
   have o5:w5.os=w4.os∧w5.tape=w4.tape∧w5.output=w4.output:=by rw [hw5];exact ⟨rfl,rfl,rfl⟩
   refine bodyPost_ret (v:=.tuple #[(.agg #[.slice (some ⟨(p').b1,(p').o1,none⟩) 32 (p').k1,.slice (some ⟨(p').b2,(p').o2,none⟩) 32 (p').k2,.slice (some ⟨(p').b3,(p').o3,none⟩) 32 (p').k3,.slice (some ⟨(p').b4,(p').o4,none⟩) 32 (p').k4]),.bool true]) ?_ rfl ?_
   · simp [results,Tryz.results11,go_sem,r0,r1,r2,r3]
   rw [← hw5]
   obtain ⟨S',Q',hs1,hs0,hs2,hs3⟩:=both_close H.out B0.out G1.out K1.out N2.out B2.out (RowKit.Below.refl _ _) (R:=w.heap.size+1+1) (by omega) (by omega) o5.1 o5.2.1 o5.2.2 hz5 hk5 (inv_round H.out.inv)
   exact HP.out _ p' S' Q' w5 HE.out hs1 hs0 hs2 hs3
 have b4:(kd == 4)=false:=by simpa using k4
 have HE:Hid (f=actR [1,2,3,4] f ⟨kd,an,av,ai⟩):=show _=_ by unfold actR;simp [k1,k2,k3,k4]
 generalize actR [1,2,3,4] f ⟨kd,an,av,ai⟩=fin at HP HE ⊢
 clear k1 k2 k3 k4
 go_enter Tryz.func11,Tryz.ntmps11
 go_upto_region 1 with (fail)
 obtain ⟨w0,hw0⟩:∃ z,z=((w.alloc (.cells #[.slice (some ⟨p.b1,p.o1,none⟩) 32 p.k1,.slice (some ⟨p.b2,p.o2,none⟩) 32 p.k2,.slice (some ⟨p.b3,p.o3,none⟩) 32 p.k3,.slice (some ⟨p.b4,p.o4,none⟩) 32 p.k4] 32)).alloc (.cells #[.int .i64 kd,.int .i64 an,.int .i64 av,.int .u64 ai] 45)).alloc (.cells #[.slice none 0 0,.slice none 0 0,.slice none 0 0,.slice none 0 0] 32):=⟨_,rfl⟩
 have hz0:w0.heap.size=w.heap.size+3:=by rw [hw0];simp
 have B0:Hid (RowKit.Below w.heap.size w w0):=by rw [hw0];exact bel_alloc (bel_alloc (bel_alloc (RowKit.Below.refl _ _) _) _) _
 have P0:Hid (BoxOf w0 w.heap.size p):=by rw [hw0];exact ⟨by simp [go_sem],by simp [go_sem],by simp [go_sem],by simp [go_sem],by simp [go_sem],by simp [go_sem],by simp [go_sem],by simp [go_sem],by simp;omega⟩
 have A0:Hid (BoxIs w0 (w.heap.size+1) (.int .i64 kd) (.int .i64 an) (.int .i64 av) (.int .u64 ai)):=by rw [hw0];exact ⟨by simp [go_sem],by simp [go_sem],by simp [go_sem],by simp [go_sem],by simp [go_sem],by simp [go_sem],by simp [go_sem],by simp [go_sem],by simp⟩
 have R0:Hid (BoxNil w0 (w.heap.size+1+1)):=by rw [hw0];exact ⟨by simp [go_sem],by simp [go_sem],by simp [go_sem],by simp [go_sem],by simp [go_sem],by simp [go_sem],by simp [go_sem],by simp [go_sem],by simp⟩
 obtain ⟨g,hg⟩:=H.out.ring
 obtain ⟨V,hv⟩:=H.out.ref
 have G0:=Lib.hid (hg.now B0.out)
 have V0:Hid (RefIs (fun b=>Q b∧b<w.heap.size) w p f V):=hv.same (fun b hb hq=>⟨hq,hb⟩) (Nat.le_refl _) (fun _ _ _=>rfl)
 clear hg hv
 rw [← hw0]
 clear hw0
 have c0:=(P0).out.c0
 have c1:=(P0).out.c1
 have c2:=(P0).out.c2
 have c3:=(P0).out.c3
 have zp:=(P0).out.z
 have a0:=(A0).out.c0
 have a1:=(A0).out.c1
 have a2:=(A0).out.c2
 have a3:=(A0).out.c3
 have za:=(A0).out.z
 have r0:=R0.out.c0
 have r1:=R0.out.c1
 have r2:=R0.out.c2
 have r3:=R0.out.c3
 have rf0:=R0.out.f0
 have rf1:=R0.out.f1
 have rf2:=R0.out.f2
 have rf3:=R0.out.f3
 have zr:=R0.out.z
 go_wp2_with fail
 obtain ⟨w5,hw5⟩:∃ z,z=(((w0.setCell ⟨w.heap.size+1+1,0,none⟩ (.slice (some ⟨p.b1,p.o1,none⟩) 32 p.k1)).setCell ⟨w.heap.size+1+1,1,none⟩ (.slice (some ⟨p.b2,p.o2,none⟩) 32 p.k2)).setCell ⟨w.heap.size+1+1,2,none⟩ (.slice (some ⟨p.b3,p.o3,none⟩) 32 p.k3)).setCell ⟨w.heap.size+1+1,3,none⟩ (.slice (some ⟨p.b4,p.o4,none⟩) 32 p.k4):=⟨_,rfl⟩
 obtain ⟨hz5,hk5⟩:=block_set4 hw5
 have o5:w5.os=w0.os∧w5.tape=w0.tape∧w5.output=w0.output:=by rw [hw5];exact ⟨rfl,rfl,rfl⟩
 refine bodyPost_ret (v:=.tuple #[(.agg #[.slice (some ⟨(p).b1,(p).o1,none⟩) 32 (p).k1,.slice (some ⟨(p).b2,(p).o2,none⟩) 32 (p).k2,.slice (some ⟨(p).b3,(p).o3,none⟩) 32 (p).k3,.slice (some ⟨(p).b4,(p).o4,none⟩) 32 (p).k4]),.bool true]) ?_ rfl ?_
 · simp [results,Tryz.results11,go_sem,r0,r1,r2,r3]
 rw [← hw5]
 obtain ⟨S',Q',hs1,hs0,hs2,hs3⟩:=both_close H.out B0.out G0.out (Kept.refl _ _) ((V0.out.below B0.out).same (fun b hb hq=>Or.inl ⟨hq,hb⟩) (Nat.le_refl _) (fun _ _ _=>rfl)) (RowKit.Below.refl _ _) (RowKit.Below.refl _ _) (R:=w.heap.size+1+1) (by omega) (by omega) o5.1 o5.2.1 o5.2.2 hz5 hk5 H.out.inv
 exact HP.out _ p S' Q' w5 HE.out hs1 hs0 hs2 hs3
end Go.Proofs.YtahiahjhpakeiaaGreatDoor
namespace Go.Proofs.YtahiahjhpakeiaaGreatDoor
open Go.RowKit Go.Maps Go.Sort
set_option linter.unusedVariables false
set_option linter.unusedSimpArgs false
attribute [local go_sem] later_cell later_frozen later_lt cell_set_off cell_set_block
structure KeptW (S:Nat->Prop) (w:World) where
 world:World
 kept:Kept S w world
theorem keptW_cell {S:Nat->Prop} {w:World} (x:KeptW S w) (b o:Nat) (hb:b<w.heap.size) (hS:¬ S b):x.world.cell? ⟨b,o,none⟩=w.cell? ⟨b,o,none⟩:=World.cell?_of_block (x.kept.block b hb hS)
theorem keptW_lt {S:Nat->Prop} {w:World} (x:KeptW S w) (b:Nat) (hb:b<w.heap.size):(b<x.world.heap.size)=True:=eq_true (Nat.lt_of_lt_of_le hb x.kept.size)
instance {S:Nat->Prop} {w:World}:Nonempty (KeptW S w):=⟨⟨w,Kept.refl S w⟩⟩
attribute [local go_sem] keptW_cell keptW_lt
theorem fourB_take (ids:List Int):fourB (ids.take 6)=fourB ids:=by
 by_cases h:ids.length<=6
 · rw [List.take_of_length_le h]
 · unfold fourB
   have h1:(ids.length == 4)=false:=by rw [beq_eq_false_iff_ne];omega
   have h2:((ids.take 6).length == 4)=false:=by rw [beq_eq_false_iff_ne,List.length_take];omega
   rw [h1,h2];rfl
def MadePost (W:World) (ids:List Int) (e:Ending) (w':World):Prop :=
 if fourB ids=true then ∃ (rb mb:Nat) (f:RS) (p:Where) (S Q:Nat->Prop),e = .returned (.tuple #[.pointer (some ⟨rb,0,none⟩),(.agg #[.slice (some ⟨(p).b1,(p).o1,none⟩) 32 (p).k1,.slice (some ⟨(p).b2,(p).o2,none⟩) 32 (p).k2,.slice (some ⟨(p).b3,(p).o3,none⟩) 32 (p).k3,.slice (some ⟨(p).b4,(p).o4,none⟩) 32 (p).k4]),.bool true])∧Both S Q W w' rb mb f p
 else e = .returned (.tuple #[.pointer none,.agg #[.slice none 0 0,.slice none 0 0,.slice none 0 0,.slice none 0 0],.bool false])∧RowKit.Below W.heap.size W w'
def MadePostN (n:Nat) (W:World) (ids:List Int) (e:Ending) (w':World):Prop :=
 if fourB ids=true then ∃ (rb mb:Nat) (f:RS) (p:Where) (S Q:Nat->Prop),e = .returned (.tuple #[.pointer (some ⟨rb,0,none⟩),(.agg #[.slice (some ⟨(p).b1,(p).o1,none⟩) 32 (p).k1,.slice (some ⟨(p).b2,(p).o2,none⟩) 32 (p).k2,.slice (some ⟨(p).b3,(p).o3,none⟩) 32 (p).k3,.slice (some ⟨(p).b4,(p).o4,none⟩) 32 (p).k4]),.bool true])∧Both S Q W w' rb mb f p∧(n=0->f=newF ids (setI ids) 4)
 else e = .returned (.tuple #[.pointer none,.agg #[.slice none 0 0,.slice none 0 0,.slice none 0 0,.slice none 0 0],.bool false])∧RowKit.Below W.heap.size W w'
set_option maxRecDepth 100000 in
set_option maxHeartbeats 8000000 in
theorem made_few (W:World) (hH:HandleAt W) (v0 v1:Value) (ids:List Int) (acts:List ActD) (n:Nat) (hi:SlAt 0 (fun i=>.int .u64 (nth ids i)) ids.length W v0) (hp:∀ x∈ids,isPlace x) (h6:ids.length<=6)
 (ha:ActsAt acts W v1) (hao:∀ k,k<acts.length->(actAt acts k).ok) (hn:n<=1000):Calls Tryz.prog 8 #[v0,v1,.int .i64 n] W (MadePostN n W ids):=by
 obtain ⟨i0,hi0,hz0,hz1,hz2⟩:∃ i0,Tryz.prog.info? 42=some i0∧i0.zero=some (Value.int .u64 0)∧i0.size=1∧i0.bytes=8:=⟨u64I,u64I_at,by kernel_rfl,by kernel_rfl,by kernel_rfl⟩
 obtain ⟨a0,c0,rfl,_⟩:=hi.slice
 obtain ⟨a1,q1,rfl,_,hm1⟩:=ha.slice
 have ham:acts.length<=9223372036854775807:=by unfold maxLen at hm1;omega
 have HI:=Lib.hid hi
 have HPL:=Lib.hid hp
 have HA:=Lib.hid ha
 have HAO:=Lib.hid hao
 have HH:=Lib.hid hH
 have h6I:¬ (6:Int)<(ids.length:Int):=by omega
 have HYes:Hid (fourB ids=true -> ∀ (rb mb:Nat) (f:RS) (p:Where) (S Q:Nat->Prop) w',Both S Q W w' rb mb f p->(n=0->f=newF ids (setI ids) 4)->MadePostN n W ids (.returned (.tuple #[.pointer (some ⟨rb,0,none⟩),(.agg #[.slice (some ⟨(p).b1,(p).o1,none⟩) 32 (p).k1,.slice (some ⟨(p).b2,(p).o2,none⟩) 32 (p).k2,.slice (some ⟨(p).b3,(p).o3,none⟩) 32 (p).k3,.slice (some ⟨(p).b4,(p).o4,none⟩) 32 (p).k4]),.bool true])) w'):=fun h rb mb f p S Q w' hB hZ=>by
  unfold MadePostN;rw [if_pos h];exact ⟨rb,mb,f,p,S,Q,rfl,hB,hZ⟩
 have HNo:Hid (fourB ids=false -> ∀ w',RowKit.Below W.heap.size W w'->MadePostN n W ids (.returned (.tuple #[.pointer none,.agg #[.slice none 0 0,.slice none 0 0,.slice none 0 0,.slice none 0 0],.bool false])) w'):=fun h w' hB=>by
  unfold MadePostN;rw [if_neg (by simp [h])];exact ⟨rfl,hB⟩
 clear hi hp ha hao hH
 go_enter Tryz.func8,Tryz.ntmps8
 go_upto_region 4 with (fail)
 obtain ⟨w1,hw1⟩:∃ z,z=(W.alloc (.cells #[.slice none 0 0,.slice none 0 0,.slice none 0 0,.slice none 0 0] 32)).alloc (.cells #[] 42):=⟨_,rfl⟩
 have B1:Hid (RowKit.Below W.heap.size W w1):=by rw [hw1];exact bel_alloc (bel_alloc (RowKit.Below.refl _ _) _) _
 have R1:Hid (BoxNil w1 W.heap.size):=by rw [hw1];exact ⟨by simp [go_sem],by simp [go_sem],by simp [go_sem],by simp [go_sem],by simp [go_sem],by simp [go_sem],by simp [go_sem],by simp [go_sem],by simp;omega⟩
 have O1:Hid (w1.ownsRow (W.heap.size+1) 42 1 (.slice (some ⟨W.heap.size+1,0,none⟩) 0 0) 0 []):=by rw [hw1];exact own_nil _ _ _ _ _ (by simp) (by simp)
 have hz1':w1.heap.size=W.heap.size+2:=by rw [hw1];simp
 rw [← hw1]
 clear hw1
 go_wp2_with fail
 go_loopw [9,11,27] (fun vo _ i wr=>∃ k:Nat,k<=ids.length∧i = .int .i64 k∧Hid (wr.ownsRow (W.heap.size+1) 42 1 vo k ((ids.take k).map (Value.int .u64)))∧Hid (RowKit.Below (W.heap.size+1) w1 wr)) (fun _ _ i _=>ids.length - (intOf i).toNat)
 case atStart=>exact ⟨0,Nat.zero_le _,rfl,O1.out,RowKit.Below.refl _ _⟩
 case round =>
  obtain ⟨k,hk,rfl,hO,hB⟩:=hrel
  have hBW:RowKit.Below W.heap.size W wr:=B1.out.trans (hB.out.mono (by omega))
  have hsz:=hB.out.size
  by_cases hlt:k<ids.length
  · obtain ⟨b,off,rfl,_,hb,hcell⟩:=HI.out.at k hlt wr hBW
    go_wp2_with (at_builtin;refine wpList_app rfl _ _ 27 rfl (W.heap.size+1) 42 i0 (.int .u64 0) 8 Tryz.underlying27 hi0 hz0 hz1 hz2 rfl _ k _ rfl (hO.out.alloc _) 0 _ 1 _ rfl (sl_new _ .u64 [nth ids k] 42 _ 1 rfl rfl (by simp [maxLen])) (fun _=>rfl) ?qc1 ?qc2 ?qc3 ?_)
    case qc1=>simp only [maxLen];omega
    case qc2=>omega
    case qc3=>simp;omega
    intro v' w2 ho hg
    have hB2:Hid (RowKit.Below (W.heap.size+1) w1 w2):=(hB.out.alloc (by omega) _).grown hg (by simp;omega) (fun j hj=>by have:=hO.out.lt j hj;omega)
    clear hcell hb
    go_wp2_with fail
    go_roundw
    case rel =>
     go_light
     refine ⟨k+1,by omega,by go_num,?_,hB2.out⟩
     have e:(ids.take (k+1)).map (Value.int .u64)=List.take k (ids.map (Value.int .u64)) ++ [Value.int .u64 (nth [nth ids k] 0)]:=by
      rw [List.take_succ_eq_append_getElem hlt,List.map_append,List.map_take]
      simp [nth,hlt]
     show World.ownsRow _ _ _ _ _ _ _
     rw [e];exact ho
    case measure=>go_light;simp [intOf];omega
  · have hkl:k=ids.length:=by omega
    have hs:=hO.out
    rw [hkl,List.take_length] at hs
    have hs2:=own_ints hs
    obtain ⟨an,cn,hvn,_⟩:=hs2.slice
    subst hvn
    have SN:=Lib.hid hs2
    have BN:=Lib.hid hBW
    have LN:=Lib.hid hB.out
    have hnI:¬ ((k:Nat):Int)<(ids.length:Int):=by omega
    clear hs hs2 hO hB hBW hk hlt hkl
    go_wp2_with fail
    clear hnI
    have hzr:w1.heap.size<=wr.heap.size:=LN.out.size
    have RN:Hid (BoxNil wr W.heap.size):=R1.out.block hzr (LN.out.block _ (by omega))
    cases hf:fourB ids
    · have hnc:newC ids≠0:=by
       unfold fourB at hf
       unfold newC
       by_cases e4:ids.length=4
       · rw [if_pos e4]
         by_cases e5:(setI ids).length=4
         · simp [e4,e5] at hf
         · rw [if_neg e5];decide
       · rw [if_neg e4];decide
      have HNC:=Lib.hid hnc
      have hcb:(newC ids != 0)=true:=by simpa using hnc
      refine (new_any wr _ ids (HI.out.below BN.out) HPL.out).mono ?_
      intro e w2 hp2
      unfold AskPost at hp2
      rw [if_neg (by simp [hf])] at hp2
      obtain ⟨v,rfl,⟨b,rfl,_⟩,hB2⟩:=hp2
      have B2:=Lib.hid (bel_below BN.out hB2)
      have R2:=Lib.hid (RN.out.later hB2)
      have SN2:=Lib.hid ((SN.out.base (Nat.zero_le _)).below hB2)
      clear hB2 hnc
      go_wp2_with fail
      refine (rnew_no w2 _ ids SN2.out (by omega) HNC.out).mono ?_
      rintro e w3 ⟨rfl,hB3⟩
      have B3:=Lib.hid (bel_below B2.out hB3)
      have R3:=Lib.hid (R2.out.later hB3)
      clear hB3
      go_wp2_with fail
      obtain ⟨w4,hw4⟩:∃ z,z=w3.alloc (.cells #[.slice none 0 0,.slice none 0 0,.slice none 0 0,.slice none 0 0] 32):=⟨_,rfl⟩
      obtain ⟨T,hT⟩:∃ T,T=w3.heap.size:=⟨_,rfl⟩
      have b34:RowKit.Below w3.heap.size w3 w4:=by rw [hw4];exact bel_alloc (RowKit.Below.refl _ _) _
      have t0:w4.cell? ⟨T,0,none⟩=some (.slice none 0 0):=by rw [hw4,hT];simp [go_sem]
      have t1:w4.cell? ⟨T,1,none⟩=some (.slice none 0 0):=by rw [hw4,hT];simp [go_sem]
      have t2:w4.cell? ⟨T,2,none⟩=some (.slice none 0 0):=by rw [hw4,hT];simp [go_sem]
      have t3:w4.cell? ⟨T,3,none⟩=some (.slice none 0 0):=by rw [hw4,hT];simp [go_sem]
      have tz:T<w4.heap.size:=by rw [hw4,hT];simp
      have B4:=Lib.hid (bel_below B3.out b34)
      have R4:=Lib.hid (R3.out.later b34)
      rw [← hw4,← hT]
      have HTT:=Lib.hid hT
      clear hw4 b34 hT R3 B3
      refine wp_region_calm_tail (2) (by kernel_rfl) (by kernel_rfl) ?_
      simp only [List.take_succ_cons,List.take_zero,List.drop_succ_cons,List.drop_zero]
      repeat (first | (go_big_quiet_step ((fail))) | (refine wpQuiet_step (fun K hK=>?_);go_simp;first | (refine hK _ ?_;clear hK K) | (apply Exists.intro;refine ⟨fun _=>?_,hK _ ?_⟩;(fail);clear hK K)))
      refine wpQuiet_nil ?_
      intro _ hw'
      obtain ⟨xq,hw''⟩:=hw'
      subst hw''
      have hB:=bel_below B4.out xq.below
      have R5:=R4.out.later xq.below
      obtain ⟨w5,hB5⟩:=xq
      dsimp only at hB R5 ⊢
      have r0:=(R5).c0
      have r1:=(R5).c1
      have r2:=(R5).c2
      have r3:=(R5).c3
      have rf0:=(R5).f0
      have rf1:=(R5).f1
      have rf2:=(R5).f2
      have rf3:=(R5).f3
      have zr:=(R5).z
      go_wp2_with fail
      refine bodyPost_ret (v:=.tuple #[.pointer none,.agg #[.slice none 0 0,.slice none 0 0,.slice none 0 0,.slice none 0 0],.bool false]) ?_ rfl ?_
      · simp [results,Tryz.results8,go_sem,r0,r1,r2,r3]
      exact HNo.out hf _ (by (repeat (first | exact Below.refl _ _ | (with_reducible assumption) | (with_reducible refine bel_later ?_ _) | (with_reducible refine bel_alloc ?_ _) | (with_reducible refine bel_drew ?_) | (with_reducible refine bel_drewN ?_ _) | (with_reducible refine bel_set ?_ (by first | (simp;done) | (simp;omega) | (dsimp only;omega)) _))))
    · have hF:=fourB_four hf HPL.out
      have h44:ids.length=4∧(setI ids).length=4:=by unfold fourB at hf;simpa using hf
      have HF4:=Lib.hid hF
      refine (new_any wr _ ids (HI.out.below BN.out) HPL.out).mono ?_
      intro e w2 hp2
      unfold AskPost at hp2
      rw [if_pos hf] at hp2
      obtain ⟨rb,mb,g,rfl,hg,hB2⟩:=hp2
      have G2:=Lib.hid hg
      have B2:=Lib.hid (bel_below BN.out hB2)
      have R2:=Lib.hid (RN.out.later hB2)
      have SN2:=Lib.hid ((SN.out.base (Nat.zero_le _)).below hB2)
      have hz2:=hB2.size
      have CN:=Lib.hid (rnew_yes w2 _ ids SN2.out h44.1 h44.2 hF)
      clear hB2 hg hF h44
      go_wp2_with fail
      refine CN.out.mono ?_
      rintro e w3 ⟨x,rfl,p,V,rfl,hR3,hB3⟩
      simp only [Where.val,Where.used,Where.live,Where.ids,Where.peers]
      have hz3:=hB3.size
      have BO3:Both (Now (fun b=>wr.heap.size<=b) w2 w3) (fun b=>w2.heap.size<=b∧b<w3.heap.size) W w3 rb mb (newF ids (setI ids) 4) p:=by
       refine ⟨⟨g,G2.out.now hB3⟩,⟨V,hR3.same (fun b hb hq=>by rcases hq with hq | hq <;> first | exact hq.1.elim | exact ⟨hq,hb⟩) (Nat.le_refl _) fun _ _ _=>rfl⟩,fun b hq hS=>?_,fun b hS=>?_,inv_new HF4.out,bel_below B2.out hB3,HH.out⟩
       · rcases hS with hS | hS <;> omega
       · rcases hS with hS | hS <;> omega
      have R3:=Lib.hid (R2.out.later hB3)
      have HB3:=Lib.hid BO3
      clear hB3 hR3 BO3 CN
      go_wp2_with fail
      obtain ⟨w4,hw4⟩:∃ z,z=w3.alloc (.cells #[.slice (some ⟨p.b1,p.o1,none⟩) 32 p.k1,.slice (some ⟨p.b2,p.o2,none⟩) 32 p.k2,.slice (some ⟨p.b3,p.o3,none⟩) 32 p.k3,.slice (some ⟨p.b4,p.o4,none⟩) 32 p.k4] 32):=⟨_,rfl⟩
      obtain ⟨T,hT⟩:∃ T,T=w3.heap.size:=⟨_,rfl⟩
      have b34:RowKit.Below w3.heap.size w3 w4:=by rw [hw4];exact bel_alloc (RowKit.Below.refl _ _) _
      have T4:Hid (BoxOf w4 T p):=by rw [hw4,hT];exact ⟨by simp [go_sem],by simp [go_sem],by simp [go_sem],by simp [go_sem],by simp [go_sem],by simp [go_sem],by simp [go_sem],by simp [go_sem],by simp⟩
      have hz4:w3.heap.size<w4.heap.size:=by rw [hw4];simp
      have BO4:=Lib.hid (HB3.out.now b34)
      have R4:=Lib.hid (R3.out.later b34)
      have hT0:Hid (¬ Now (Now (fun b=>wr.heap.size<=b) w2 w3) w3 w4 T ∧ ¬ ((w2.heap.size<=T∧T<w3.heap.size)∧T<w3.heap.size) ∧ ¬ Now (Now (fun b=>wr.heap.size<=b) w2 w3) w3 w4 W.heap.size ∧ ¬ ((w2.heap.size<=W.heap.size∧W.heap.size<w3.heap.size)∧W.heap.size<w3.heap.size)∧W.heap.size<=T):=by
       have hBN:=BN.out.size
       refine ⟨fun h=>?_,fun h=>?_,fun h=>?_,fun h=>?_,by omega⟩
       · rcases h with h | h <;> omega
       · omega
       · rcases h with ⟨h,_⟩ | h
         · rcases h with h | h <;> omega
         · omega
       · omega
      rw [← hw4,← hT]
      clear hw4 b34 hT R3 HB3
      have hT1:Hid (¬ Now (Now (fun b=>wr.heap.size<=b) w2 w3) w3 w4 T ∧ ¬ ((w2.heap.size<=T∧T<w3.heap.size)∧T<w3.heap.size) ∧ ¬ Now (Now (fun b=>wr.heap.size<=b) w2 w3) w3 w4 W.heap.size ∧ ¬ ((w2.heap.size<=W.heap.size∧W.heap.size<w3.heap.size)∧W.heap.size<w3.heap.size)∧W.heap.size<T):=⟨hT0.out.1,hT0.out.2.1,hT0.out.2.2.1,hT0.out.2.2.2.1,by
       have:=hT0.out.2.2.2.2
       rcases Nat.lt_or_ge W.heap.size T with h | h
       · exact h
       · exfalso
         have e:T=W.heap.size:=by omega
         have:=T4.out.c0
         rw [e,R4.out.c0] at this
         cases this⟩
      clear hT0 R2 SN2 B2 G2 hz2 hz3 hz4 RN LN BN SN R1 O1 B1
      go_wp2_with fail
      go_loopw [16,17,18,68] (fun i _ _ _ wr=>∃ (k:Nat) (f:RS) (p:Where) (S Q:Nat->Prop),k<=acts.length∧i = .int .i64 k∧Hid (Both S Q W wr rb mb f p)∧Hid (BoxOf wr T p)∧Hid (BoxNil wr W.heap.size)∧Hid (¬ S T ∧ ¬ Q T ∧ ¬ S W.heap.size ∧ ¬ Q W.heap.size∧W.heap.size<T)∧Hid (n=0->f=newF ids (setI ids) 4)) (fun i _ _ _ _=>acts.length - (intOf i).toNat)
      case atStart=>exact ⟨0,_,p,_,_,Nat.zero_le _,rfl,BO4.out,T4.out,R4.out,hT1.out,fun _=>rfl⟩
      case round =>
       obtain ⟨k,f,p,S,Q,hk,rfl,hO,hT,hR,hX,hZ⟩:=hrel
       have t0:=hT.out.c0
       have t1:=hT.out.c1
       have t2:=hT.out.c2
       have t3:=hT.out.c3
       have zT:=hT.out.z
       have hST:=hX.out.1
       by_cases hlt:k<acts.length
       · by_cases hlt2:k<n
         · have hkn:((k:Nat):Int)<(n:Int):=by omega
           obtain ⟨b,off,rfl,hbW,d0,d1,d2,d3⟩:=HA.out.at k hlt W (RowKit.Below.refl _ _)
           have hok:=HAO.out k hlt
           generalize hAk:actAt acts k=A at d0 d1 d2 d3 hok
           obtain ⟨kd,an,av,ai⟩:=A
           dsimp only at d0 d1 d2 d3
           have HOK:=Lib.hid hok
           have d0:=(hO.out.below.cell (p:=⟨b,off+k * 4,none⟩) hbW).trans d0
           have d1:=(hO.out.below.cell (p:=⟨b,off+k * 4+1,none⟩) hbW).trans d1
           have d2:=(hO.out.below.cell (p:=⟨b,off+k * 4+2,none⟩) hbW).trans d2
           have d3:=(hO.out.below.cell (p:=⟨b,off+k * 4+3,none⟩) hbW).trans d3
           have hbw:b<wr.heap.size:=Nat.lt_of_lt_of_le hbW hO.out.below.size
           have hSb:¬ S b:=fun h=>by have:=hO.out.low b h;omega
           have hup:=Lib.hid hO.out.up
           clear hok hAk
           go_wp2_with fail
           refine wp_region_heads [0,1,2,3,4,5] 12 (fun w'=>∃ x:KeptW S wr,w'=x.world) (by kernel_rfl) (by kernel_rfl) ⟨⟨{ wr with drawn:=wr.drawn+1 },(Kept.refl S wr).drew⟩,rfl⟩ ?_ ?_
           · intro d v c a w h
             cases d <;> exact h
           · simp only [headOps]
             repeat (refine wpTame_step (fun K hK=>?_);go_simp;refine hK _ ?_;clear hK K)
             refine wpTame_nil ?_
             clear t0 t1 t2 t3 d0 d1 d2 d3 hkn
             refine wpAnyC_step (f:=6) [6,10] (by kernel_rfl) rfl rfl (fun i hi=>?_)
             simp only [List.mem_cons,List.not_mem_nil,or_false] at hi
             rcases hi with rfl | rfl
             · refine ⟨_,rfl,fun R hR'=>?_⟩
               go_wp2_with fail
               refine (does_any (hO.out.later (bel_drew (RowKit.Below.refl _ _))) kd an av ai HOK.out.n HOK.out.via HOK.out.id).mono ?_
               rintro e w5 ⟨p',S',Q',rfl,hs1,hs0,hBo,hk5⟩
               have K5:Hid (Kept S wr w5):=((Kept.refl S wr).drew).trans hk5
               have hz5:=K5.out.size
               have O5:=Lib.hid hBo
               have NX:Hid (¬ S' T ∧ ¬ Q' T ∧ ¬ S' W.heap.size ∧ ¬ Q' W.heap.size∧W.heap.size<T):=⟨fun h=>hX.out.1 (hs1 _ h),fun h=>by rcases hs0 _ h with h | h <;> first | exact hX.out.2.1 h | (simp at h;omega),fun h=>hX.out.2.2.1 (hs1 _ h),fun h=>by rcases hs0 _ h with h | h <;> first | exact hX.out.2.2.2.1 h | (simp at h;have:=hX.out.2.2.2.2;omega),hX.out.2.2.2.2⟩
               have T5:Hid (BoxOf w5 T p):=hT.out.block hz5 (K5.out.block _ zT hST)
               have R5:Hid (BoxNil w5 W.heap.size):=hR.out.block hz5 (K5.out.block _ hR.out.z hX.out.2.2.1)
               clear hs1 hs0 hBo hk5
               go_wp2_with fail
               refine hR' _ _ ⟨⟨w5,K5.out⟩,rfl⟩ ?_
               clear hR' R
               refine wpAnyC_mid (f:=3) [7,8,9] ⟨⟨w5,K5.out⟩,rfl⟩ (by kernel_rfl) (fun d v c a w h=>by cases d <;> exact h) ?_
               simp only [headOps]
               repeat (refine wpTame_step (fun K hK=>?_);go_simp;refine hK _ ?_;clear hK K)
               refine wpTame_nil ?_
               refine wpAnyC_step (f:=2) [10] (by kernel_rfl) rfl rfl (fun i hi=>?_)
               simp only [List.mem_cons,List.not_mem_nil,or_false] at hi
               subst hi
               refine ⟨_,rfl,fun R hR'=>?_⟩
               go_wp2_with fail
               refine hR' _ _ ⟨⟨_,K5.out.alloc _⟩,rfl⟩ ?_
               clear hR' R
               refine wpAnyC_step (f:=1) [11] (by kernel_rfl) rfl rfl (fun i hi=>?_)
               simp only [List.mem_cons,List.not_mem_nil,or_false] at hi
               subst hi
               refine ⟨_,rfl,fun R hR'=>?_⟩
               go_wp2_with fail
               obtain ⟨w6,hw6⟩:∃ z,z=w5.alloc (.cells #[.slice (some ⟨p'.b1,p'.o1,none⟩) 32 p'.k1,.slice (some ⟨p'.b2,p'.o2,none⟩) 32 p'.k2,.slice (some ⟨p'.b3,p'.o3,none⟩) 32 p'.k3,.slice (some ⟨p'.b4,p'.o4,none⟩) 32 p'.k4] 32):=⟨_,rfl⟩
               obtain ⟨X,hXX⟩:∃ X,X=w5.heap.size:=⟨_,rfl⟩
               have b56:RowKit.Below w5.heap.size w5 w6:=by rw [hw6];exact bel_alloc (RowKit.Below.refl _ _) _
               have X6:Hid (BoxOf w6 X p'):=by rw [hw6,hXX];exact ⟨by simp [go_sem],by simp [go_sem],by simp [go_sem],by simp [go_sem],by simp [go_sem],by simp [go_sem],by simp [go_sem],by simp [go_sem],by simp⟩
               have T6:=Lib.hid (T5.out.later b56)
               have R6:=Lib.hid (R5.out.later b56)
               have O6:=Lib.hid (O5.out.later b56)
               have K6:=Lib.hid (K5.out.below b56)
               rw [← hw6,← hXX]
               refine hR' _ _ ⟨⟨w6,K6.out⟩,rfl⟩ ?_
               clear hR' R hw6 hXX b56 T5 R5 O5 K5
               refine wpAnyC_end (k:=12) (by decide) rfl rfl (by kernel_rfl) ?_
               have c0:=X6.out.c0
               have c1:=X6.out.c1
               have c2:=X6.out.c2
               have c3:=X6.out.c3
               have zx:=X6.out.z
               have d0:=T6.out.c0
               have d1:=T6.out.c1
               have d2:=T6.out.c2
               have d3:=T6.out.c3
               have f0:=T6.out.f0
               have f1:=T6.out.f1
               have f2:=T6.out.f2
               have f3:=T6.out.f3
               have zT:=T6.out.z
               go_upto_region 15 with (fail)
               obtain ⟨w7,hw7⟩:∃ z,z=(((w6.setCell ⟨T,0,none⟩ (.slice (some ⟨p'.b1,p'.o1,none⟩) 32 p'.k1)).setCell ⟨T,1,none⟩ (.slice (some ⟨p'.b2,p'.o2,none⟩) 32 p'.k2)).setCell ⟨T,2,none⟩ (.slice (some ⟨p'.b3,p'.o3,none⟩) 32 p'.k3)).setCell ⟨T,3,none⟩ (.slice (some ⟨p'.b4,p'.o4,none⟩) 32 p'.k4):=⟨_,rfl⟩
               obtain ⟨hz7,hk7⟩:=block_set4 hw7
               have T7:Hid (BoxOf w7 T p'):=T6.out.store _ _ _ _ hw7
               have R7:Hid (BoxNil w7 W.heap.size):=R6.out.block (by omega) (hk7 _ (by have:=hX.out.2.2.2.2;omega))
               have N7:Hid (¬ S' T ∧ ¬ Q' T ∧ ¬ S' W.heap.size ∧ ¬ Q' W.heap.size∧W.heap.size<T):=NX.out
               have O7:Hid (Both S' Q' W w7 rb mb (actR [1,2,3,4] f ⟨kd,an,av,ai⟩) p'):=O6.out.aside NX.out.1 NX.out.2.1 (by have:=NX.out.2.2.2.2;omega) (by rw [hw7];rfl) (by rw [hw7];rfl) (by rw [hw7];rfl) hz7 hk7
               have Z7:Hid (n=0->actR [1,2,3,4] f ⟨kd,an,av,ai⟩=newF ids (setI ids) 4):=fun h0=>absurd hlt2 (by omega)
               rw [← hw7]
               clear hw7 hz7 hk7 c0 c1 c2 c3 zx d0 d1 d2 d3 f0 f1 f2 f3 zT X6 T6 R6 O6 NX
               go_wp2_with fail
               go_roundw
               case rel=>go_light;exact ⟨k+1,_,p',S',Q',by omega,by go_num,O7.out,T7.out,R7.out,N7.out,Z7.out⟩
               case measure=>go_light;simp [intOf];omega
             · refine ⟨_,rfl,fun R hR'=>?_⟩
               go_wp2_with fail
               obtain ⟨wa,hwa⟩:∃ z,z=(wr.alloc (.cells #[.slice none 0 0,.slice none 0 0,.slice none 0 0,.slice none 0 0] 32)).drew:=⟨_,rfl⟩
               obtain ⟨X,hXX⟩:∃ X,X=wr.heap.size:=⟨_,rfl⟩
               have bra:RowKit.Below wr.heap.size wr wa:=by rw [hwa];exact bel_drew (bel_alloc (RowKit.Below.refl _ _) _)
               have Xa:Hid (BoxNil wa X):=by rw [hwa,hXX];exact ⟨by simp [go_sem],by simp [go_sem],by simp [go_sem],by simp [go_sem],by simp [go_sem],by simp [go_sem],by simp [go_sem],by simp [go_sem],by simp⟩
               have Oa:=Lib.hid (hO.out.now bra)
               have Ta:=Lib.hid (hT.out.later bra)
               have Ra:=Lib.hid (hR.out.later bra)
               have Ka:Hid (Kept S wr wa):=(Kept.refl S wr).below bra
               have hza:=bra.size
               have hTX:T<X:=by omega
               have hWX:W.heap.size<X:=by have:=hX.out.2.2.2.2;omega
               have hXa:X<wa.heap.size:=Xa.out.z
               have HXX:=Lib.hid hXX
               rw [← hwa,← hXX]
               refine hR' _ _ ⟨⟨wa,Ka.out⟩,rfl⟩ ?_
               clear hR' R hwa hXX bra
               refine wpAnyC_step (f:=5) [6] (by kernel_rfl) rfl rfl (fun i hi=>?_)
               simp only [List.mem_cons,List.not_mem_nil,or_false] at hi
               subst hi
               refine ⟨_,rfl,fun R hR'=>?_⟩
               go_wp2_with fail
               refine (does_any Oa.out kd an av ai HOK.out.n HOK.out.via HOK.out.id).mono ?_
               rintro e w5 ⟨p',S',Q',rfl,hs1,hs0,hBo,hk5⟩
               have hz5:=hk5.size
               have K5:Hid (Kept S wr w5):=Ka.out.trans ⟨hk5.os,hk5.tape,hk5.output,hk5.size,fun b hb hS=>hk5.block b hb fun hN=>by
                rcases hN with h | h
                · exact hS h.1
                · omega⟩
               have O5:=Lib.hid hBo
               have hNo:∀ b,b<wa.heap.size -> ¬ (S b∧b<wr.heap.size) -> ¬ Now S wr wa b:=fun b hb h hN=>by rcases hN with hN | hN <;> first | exact h hN | omega
               have nT:=hNo T (by omega) fun h=>hX.out.1 h.1
               have nW:=hNo W.heap.size (by omega) fun h=>hX.out.2.2.1 h.1
               have nX:=hNo X (by omega) fun h=>by have:=HXX.out;omega
               have NX:Hid (¬ S' T ∧ ¬ Q' T ∧ ¬ S' W.heap.size ∧ ¬ Q' W.heap.size∧W.heap.size<T):=⟨fun h=>nT (hs1 _ h),fun h=>by rcases hs0 _ h with h | h <;> first | exact hX.out.2.1 h.1 | omega,fun h=>nW (hs1 _ h),fun h=>by rcases hs0 _ h with h | h <;> first | exact hX.out.2.2.2.1 h.1 | omega,hX.out.2.2.2.2⟩
               have qX:Hid (¬ S' X ∧ ¬ Q' X):=⟨fun h=>nX (hs1 _ h),fun h=>by
                have:=HXX.out
                rcases hs0 _ h with h | h
                · have:=h.2;omega
                · omega⟩
               have T5:Hid (BoxOf w5 T p):=Ta.out.block hz5 (hk5.block _ Ta.out.z nT)
               have R5:Hid (BoxNil w5 W.heap.size):=Ra.out.block hz5 (hk5.block _ Ra.out.z nW)
               have X5:Hid (BoxNil w5 X):=Xa.out.block hz5 (hk5.block _ Xa.out.z nX)
               clear hs1 hs0 hBo hk5 nT nW nX hNo Oa Ta Ra Ka Xa
               go_wp2_with fail
               refine hR' _ _ ⟨⟨w5,K5.out⟩,rfl⟩ ?_
               clear hR' R
               refine wpAnyC_mid (f:=2) [7,8,9] ⟨⟨w5,K5.out⟩,rfl⟩ (by kernel_rfl) (fun d v c a w h=>by cases d <;> exact h) ?_
               simp only [headOps]
               repeat (refine wpTame_step (fun K hK=>?_);go_simp;refine hK _ ?_;clear hK K)
               refine wpTame_nil ?_
               refine wpAnyC_step (f:=1) [11] (by kernel_rfl) rfl rfl (fun i hi=>?_)
               simp only [List.mem_cons,List.not_mem_nil,or_false] at hi
               subst hi
               refine ⟨_,rfl,fun R hR'=>?_⟩
               have r0:=(X5.out).c0
               have r1:=(X5.out).c1
               have r2:=(X5.out).c2
               have r3:=(X5.out).c3
               have rf0:=(X5.out).f0
               have rf1:=(X5.out).f1
               have rf2:=(X5.out).f2
               have rf3:=(X5.out).f3
               have zr:=(X5.out).z
               go_wp2_with fail
               clear r0 r1 r2 r3 rf0 rf1 rf2 rf3 zr
               obtain ⟨w6,hw6⟩:∃ z,z=(((w5.setCell ⟨X,0,none⟩ (.slice (some ⟨p'.b1,p'.o1,none⟩) 32 p'.k1)).setCell ⟨X,1,none⟩ (.slice (some ⟨p'.b2,p'.o2,none⟩) 32 p'.k2)).setCell ⟨X,2,none⟩ (.slice (some ⟨p'.b3,p'.o3,none⟩) 32 p'.k3)).setCell ⟨X,3,none⟩ (.slice (some ⟨p'.b4,p'.o4,none⟩) 32 p'.k4):=⟨_,rfl⟩
               obtain ⟨hz6,hk6⟩:=block_set4 hw6
               have X6:Hid (BoxOf w6 X p'):=X5.out.store _ _ _ _ hw6
               have T6:Hid (BoxOf w6 T p):=T5.out.block (by omega) (hk6 _ (by omega))
               have R6:Hid (BoxNil w6 W.heap.size):=R5.out.block (by omega) (hk6 _ (by omega))
               have O6:Hid (Both S' Q' W w6 rb mb (actR [1,2,3,4] f ⟨kd,an,av,ai⟩) p'):=O5.out.aside qX.out.1 qX.out.2 (by omega) (by rw [hw6];rfl) (by rw [hw6];rfl) (by rw [hw6];rfl) hz6 hk6
               have K6:Hid (Kept S wr w6):=⟨by rw [hw6];exact K5.out.os,by rw [hw6];exact K5.out.tape,by rw [hw6];exact K5.out.output,by rw [hz6];exact K5.out.size,fun b hb hS=>(hk6 b (by have:=HXX.out;omega)).trans (K5.out.block b hb hS)⟩
               rw [← hw6]
               refine hR' _ _ ⟨⟨w6,K6.out⟩,rfl⟩ ?_
               clear hR' R hw6 hz6 hk6 T5 R5 O5 K5 X5
               refine wpAnyC_end (k:=12) (by decide) rfl rfl (by kernel_rfl) ?_
               have c0:=X6.out.c0
               have c1:=X6.out.c1
               have c2:=X6.out.c2
               have c3:=X6.out.c3
               have zx:=X6.out.z
               have d0:=T6.out.c0
               have d1:=T6.out.c1
               have d2:=T6.out.c2
               have d3:=T6.out.c3
               have f0:=T6.out.f0
               have f1:=T6.out.f1
               have f2:=T6.out.f2
               have f3:=T6.out.f3
               have zT:=T6.out.z
               go_upto_region 15 with (fail)
               obtain ⟨w7,hw7⟩:∃ z,z=(((w6.setCell ⟨T,0,none⟩ (.slice (some ⟨p'.b1,p'.o1,none⟩) 32 p'.k1)).setCell ⟨T,1,none⟩ (.slice (some ⟨p'.b2,p'.o2,none⟩) 32 p'.k2)).setCell ⟨T,2,none⟩ (.slice (some ⟨p'.b3,p'.o3,none⟩) 32 p'.k3)).setCell ⟨T,3,none⟩ (.slice (some ⟨p'.b4,p'.o4,none⟩) 32 p'.k4):=⟨_,rfl⟩
               obtain ⟨hz7,hk7⟩:=block_set4 hw7
               have T7:Hid (BoxOf w7 T p'):=T6.out.store _ _ _ _ hw7
               have R7:Hid (BoxNil w7 W.heap.size):=R6.out.block (by omega) (hk7 _ (by have:=hX.out.2.2.2.2;omega))
               have N7:Hid (¬ S' T ∧ ¬ Q' T ∧ ¬ S' W.heap.size ∧ ¬ Q' W.heap.size∧W.heap.size<T):=NX.out
               have O7:Hid (Both S' Q' W w7 rb mb (actR [1,2,3,4] f ⟨kd,an,av,ai⟩) p'):=O6.out.aside NX.out.1 NX.out.2.1 (by have:=NX.out.2.2.2.2;omega) (by rw [hw7];rfl) (by rw [hw7];rfl) (by rw [hw7];rfl) hz7 hk7
               have Z7:Hid (n=0->actR [1,2,3,4] f ⟨kd,an,av,ai⟩=newF ids (setI ids) 4):=fun h0=>absurd hlt2 (by omega)
               rw [← hw7]
               clear hw7 hz7 hk7 c0 c1 c2 c3 zx d0 d1 d2 d3 f0 f1 f2 f3 zT X6 T6 R6 O6 NX
               go_wp2_with fail
               go_roundw
               case rel=>go_light;exact ⟨k+1,_,p',S',Q',by omega,by go_num,O7.out,T7.out,R7.out,N7.out,Z7.out⟩
               case measure=>go_light;simp [intOf];omega
         · have hkn:¬ ((k:Nat):Int)<(n:Int):=by omega
           go_wp2_with fail
           refine wp_region_calm_tail (3) (by kernel_rfl) (by kernel_rfl) ?_
           simp only [List.take_succ_cons,List.take_zero,List.drop_succ_cons,List.drop_zero]
           repeat (first | (go_big_quiet_step ((fail))) | (refine wpQuiet_step (fun K hK=>?_);go_simp;first | (refine hK _ ?_;clear hK K) | (apply Exists.intro;refine ⟨fun _=>?_,hK _ ?_⟩;(fail);clear hK K)))
           refine wpQuiet_nil ?_
           intro _ hw'
           obtain ⟨xq,hw''⟩:=hw'
           subst hw''
           have O5:=Lib.hid (hO.out.later xq.below)
           have R5:=hR.out.later xq.below
           obtain ⟨w5,hB5⟩:=xq
           dsimp only at R5 O5 ⊢
           clear t0 t1 t2 t3 zT
           have r0:=(R5).c0
           have r1:=(R5).c1
           have r2:=(R5).c2
           have r3:=(R5).c3
           have rf0:=(R5).f0
           have rf1:=(R5).f1
           have rf2:=(R5).f2
           have rf3:=(R5).f3
           have zr:=(R5).z
           go_wp2_with fail
           refine bodyPost_ret (v:=.tuple #[.pointer (some ⟨rb,0,none⟩),(.agg #[.slice (some ⟨(p).b1,(p).o1,none⟩) 32 (p).k1,.slice (some ⟨(p).b2,(p).o2,none⟩) 32 (p).k2,.slice (some ⟨(p).b3,(p).o3,none⟩) 32 (p).k3,.slice (some ⟨(p).b4,(p).o4,none⟩) 32 (p).k4]),.bool true]) ?_ rfl ?_
           · simp [results,Tryz.results8,go_sem,r0,r1,r2,r3]
           obtain ⟨w6,hw6⟩:∃ z,z=(((w5.setCell ⟨W.heap.size,0,none⟩ (.slice (some ⟨p.b1,p.o1,none⟩) 32 p.k1)).setCell ⟨W.heap.size,1,none⟩ (.slice (some ⟨p.b2,p.o2,none⟩) 32 p.k2)).setCell ⟨W.heap.size,2,none⟩ (.slice (some ⟨p.b3,p.o3,none⟩) 32 p.k3)).setCell ⟨W.heap.size,3,none⟩ (.slice (some ⟨p.b4,p.o4,none⟩) 32 p.k4):=⟨_,rfl⟩
           obtain ⟨hz6,hk6⟩:=block_set4 hw6
           have O6:Both S Q W w6 rb mb f p:=O5.out.aside hX.out.2.2.1 hX.out.2.2.2.1 (Nat.le_refl _) (by rw [hw6];rfl) (by rw [hw6];rfl) (by rw [hw6];rfl) hz6 hk6
           rw [← hw6]
           exact HYes.out hf _ _ _ _ _ _ _ O6 hZ.out
       · have hkl:¬ ((k:Nat):Int)<(acts.length:Int):=by omega
         go_wp2_with fail
         refine wp_region_calm_tail (3) (by kernel_rfl) (by kernel_rfl) ?_
         simp only [List.take_succ_cons,List.take_zero,List.drop_succ_cons,List.drop_zero]
         repeat (first | (go_big_quiet_step ((fail))) | (refine wpQuiet_step (fun K hK=>?_);go_simp;first | (refine hK _ ?_;clear hK K) | (apply Exists.intro;refine ⟨fun _=>?_,hK _ ?_⟩;(fail);clear hK K)))
         refine wpQuiet_nil ?_
         intro _ hw'
         obtain ⟨xq,hw''⟩:=hw'
         subst hw''
         have O5:=Lib.hid (hO.out.later xq.below)
         have R5:=hR.out.later xq.below
         obtain ⟨w5,hB5⟩:=xq
         dsimp only at R5 O5 ⊢
         clear t0 t1 t2 t3 zT
         have r0:=(R5).c0
         have r1:=(R5).c1
         have r2:=(R5).c2
         have r3:=(R5).c3
         have rf0:=(R5).f0
         have rf1:=(R5).f1
         have rf2:=(R5).f2
         have rf3:=(R5).f3
         have zr:=(R5).z
         go_wp2_with fail
         refine bodyPost_ret (v:=.tuple #[.pointer (some ⟨rb,0,none⟩),(.agg #[.slice (some ⟨(p).b1,(p).o1,none⟩) 32 (p).k1,.slice (some ⟨(p).b2,(p).o2,none⟩) 32 (p).k2,.slice (some ⟨(p).b3,(p).o3,none⟩) 32 (p).k3,.slice (some ⟨(p).b4,(p).o4,none⟩) 32 (p).k4]),.bool true]) ?_ rfl ?_
         · simp [results,Tryz.results8,go_sem,r0,r1,r2,r3]
         obtain ⟨w6,hw6⟩:∃ z,z=(((w5.setCell ⟨W.heap.size,0,none⟩ (.slice (some ⟨p.b1,p.o1,none⟩) 32 p.k1)).setCell ⟨W.heap.size,1,none⟩ (.slice (some ⟨p.b2,p.o2,none⟩) 32 p.k2)).setCell ⟨W.heap.size,2,none⟩ (.slice (some ⟨p.b3,p.o3,none⟩) 32 p.k3)).setCell ⟨W.heap.size,3,none⟩ (.slice (some ⟨p.b4,p.o4,none⟩) 32 p.k4):=⟨_,rfl⟩
         obtain ⟨hz6,hk6⟩:=block_set4 hw6
         have O6:Both S Q W w6 rb mb f p:=O5.out.aside hX.out.2.2.1 hX.out.2.2.2.1 (Nat.le_refl _) (by rw [hw6];rfl) (by rw [hw6];rfl) (by rw [hw6];rfl) hz6 hk6
         rw [← hw6]
         exact HYes.out hf _ _ _ _ _ _ _ O6 hZ.out
set_option maxRecDepth 100000 in
set_option maxHeartbeats 8000000 in
theorem made_many (W:World) (v0 v1:Value) (ids0:List Int) (n:Nat) (hi:SlAt 0 (fun i=>.int .u64 (nth ids0 i)) ids0.length W v0) (hp:∀ x∈ids0,isPlace x) (h6:¬ ids0.length<=6) :
 Calls Tryz.prog 8 #[v0,v1,.int .i64 n] W (MadePostN n W ids0):=by
 obtain ⟨i0,hi0,hz0,hz1,hz2⟩:∃ i0,Tryz.prog.info? 42=some i0∧i0.zero=some (Value.int .u64 0)∧i0.size=1∧i0.bytes=8:=⟨u64I,u64I_at,by kernel_rfl,by kernel_rfl,by kernel_rfl⟩
 obtain ⟨a0,c0,rfl,hc0,hm0⟩:=hi.slice
 have h6I:(6:Int)<(ids0.length:Int):=by omega
 have hcI:(6:Int)<=(c0:Int):=by omega
 have hcN:6<=c0:=by omega
 obtain ⟨ids,hids⟩:∃ l,l=ids0.take 6:=⟨_,rfl⟩
 have hl6:ids.length=6:=by rw [hids,List.length_take];omega
 have HI:Hid (SlAt 0 (fun i=>.int .u64 (nth ids i)) 6 W (.slice a0 6 c0)):=(hi.take (m:=6) (by omega)).congr fun i h=>by rw [hids,nth_take h]
 have HPL:Hid (∀ x∈ids,isPlace x):=fun x hx=>hp x (by rw [hids] at hx;exact List.mem_of_mem_take hx)
 have hf:fourB ids=false:=by unfold fourB;rw [hl6];rfl
 have hf0:fourB ids0=false:=by rw [← fourB_take,← hids];exact hf
 have HNo:Hid (∀ w',RowKit.Below W.heap.size W w'->MadePostN n W ids0 (.returned (.tuple #[.pointer none,.agg #[.slice none 0 0,.slice none 0 0,.slice none 0 0,.slice none 0 0],.bool false])) w'):=fun w' hB=>by
  unfold MadePostN;rw [if_neg (by simp [hf0])];exact ⟨rfl,hB⟩
 clear hi hp hids hf0
 go_enter Tryz.func8,Tryz.ntmps8
 go_upto_region 4 with (fail)
 obtain ⟨w1,hw1⟩:∃ z,z=(W.alloc (.cells #[.slice none 0 0,.slice none 0 0,.slice none 0 0,.slice none 0 0] 32)).alloc (.cells #[] 42):=⟨_,rfl⟩
 have B1:Hid (RowKit.Below W.heap.size W w1):=by rw [hw1];exact bel_alloc (bel_alloc (RowKit.Below.refl _ _) _) _
 have R1:Hid (BoxNil w1 W.heap.size):=by rw [hw1];exact ⟨by simp [go_sem],by simp [go_sem],by simp [go_sem],by simp [go_sem],by simp [go_sem],by simp [go_sem],by simp [go_sem],by simp [go_sem],by simp;omega⟩
 have O1:Hid (w1.ownsRow (W.heap.size+1) 42 1 (.slice (some ⟨W.heap.size+1,0,none⟩) 0 0) 0 []):=by rw [hw1];exact own_nil _ _ _ _ _ (by simp) (by simp)
 have hz1':w1.heap.size=W.heap.size+2:=by rw [hw1];simp
 rw [← hw1]
 clear hw1
 go_wp2_with fail
 go_loopw [9,11,27] (fun vo _ i wr=>∃ k:Nat,k<=6∧i = .int .i64 k∧Hid (wr.ownsRow (W.heap.size+1) 42 1 vo k ((ids.take k).map (Value.int .u64)))∧Hid (RowKit.Below (W.heap.size+1) w1 wr)) (fun _ _ i _=>6 - (intOf i).toNat)
 case atStart=>exact ⟨0,Nat.zero_le _,rfl,O1.out,RowKit.Below.refl _ _⟩
 case round =>
  obtain ⟨k,hk,rfl,hO,hB⟩:=hrel
  have hBW:RowKit.Below W.heap.size W wr:=B1.out.trans (hB.out.mono (by omega))
  have hsz:=hB.out.size
  by_cases hlt:k<6
  · obtain ⟨b,off,rfl,_,hb,hcell⟩:=HI.out.at k hlt wr hBW
    go_wp2_with (at_builtin;refine wpList_app rfl _ _ 27 rfl (W.heap.size+1) 42 i0 (.int .u64 0) 8 Tryz.underlying27 hi0 hz0 hz1 hz2 rfl _ k _ rfl (hO.out.alloc _) 0 _ 1 _ rfl (sl_new _ .u64 [nth ids k] 42 _ 1 rfl rfl (by simp [maxLen])) (fun _=>rfl) ?qc1 ?qc2 ?qc3 ?_)
    case qc1=>simp only [maxLen];omega
    case qc2=>omega
    case qc3=>simp;omega
    intro v' w2 ho hg
    have hB2:Hid (RowKit.Below (W.heap.size+1) w1 w2):=(hB.out.alloc (by omega) _).grown hg (by simp;omega) (fun j hj=>by have:=hO.out.lt j hj;omega)
    clear hcell hb
    go_wp2_with fail
    go_roundw
    case rel =>
     go_light
     refine ⟨k+1,by omega,by go_num,?_,hB2.out⟩
     have e:(ids.take (k+1)).map (Value.int .u64)=List.take k (ids.map (Value.int .u64)) ++ [Value.int .u64 (nth [nth ids k] 0)]:=by
      rw [List.take_succ_eq_append_getElem (show k<ids.length by omega),List.map_append,List.map_take]
      simp [nth,show k<ids.length by omega]
     show World.ownsRow _ _ _ _ _ _ _
     rw [e];exact ho
    case measure=>go_light;simp [intOf];omega
  · have hkl:k=6:=by omega
    have hs:=hO.out
    rw [hkl,List.take_of_length_le (show ids.length<=6 by omega)] at hs
    have hs2:=own_ints hs
    rw [hl6] at hs2
    obtain ⟨an,cn,hvn,_⟩:=hs2.slice
    subst hvn
    have SN:=Lib.hid hs2
    have BN:=Lib.hid hBW
    have LN:=Lib.hid hB.out
    have hnI:¬ ((k:Nat):Int)<6:=by omega
    clear hs hs2 hO hB hBW hk hlt hkl
    go_wp2_with fail
    clear hnI
    have hzr:w1.heap.size<=wr.heap.size:=LN.out.size
    have RN:Hid (BoxNil wr W.heap.size):=R1.out.block hzr (LN.out.block _ (by omega))
    have hnc:newC ids≠0:=by
     unfold fourB at hf
     unfold newC
     by_cases e4:ids.length=4
     · rw [if_pos e4]
       by_cases e5:(setI ids).length=4
       · simp [e4,e5] at hf
       · rw [if_neg e5];decide
     · rw [if_neg e4];decide
    have HNC:=Lib.hid hnc
    have hcb:(newC ids != 0)=true:=by simpa using hnc
    refine (new_any wr _ ids ((show SlAt 0 (fun i=>.int .u64 (nth ids i)) ids.length W (.slice a0 6 c0) by rw [hl6];exact HI.out).below BN.out) HPL.out).mono ?_
    intro e w2 hp2
    unfold AskPost at hp2
    rw [if_neg (by simp [hf])] at hp2
    obtain ⟨v,rfl,⟨b,rfl,_⟩,hB2⟩:=hp2
    have B2:=Lib.hid (bel_below BN.out hB2)
    have R2:=Lib.hid (RN.out.later hB2)
    have SN2:=Lib.hid ((show SlAt 0 (fun i=>.int .u64 (nth ids i)) ids.length w2 (.slice an 6 cn) by rw [hl6];exact (SN.out.base (Nat.zero_le _)).below hB2))
    clear hB2 hnc
    go_wp2_with fail
    refine (rnew_no w2 _ ids SN2.out (by omega) HNC.out).mono ?_
    rintro e w3 ⟨rfl,hB3⟩
    have B3:=Lib.hid (bel_below B2.out hB3)
    have R3:=Lib.hid (R2.out.later hB3)
    clear hB3
    go_wp2_with fail
    obtain ⟨w4,hw4⟩:∃ z,z=w3.alloc (.cells #[.slice none 0 0,.slice none 0 0,.slice none 0 0,.slice none 0 0] 32):=⟨_,rfl⟩
    obtain ⟨T,hT⟩:∃ T,T=w3.heap.size:=⟨_,rfl⟩
    have b34:RowKit.Below w3.heap.size w3 w4:=by rw [hw4];exact bel_alloc (RowKit.Below.refl _ _) _
    have t0:w4.cell? ⟨T,0,none⟩=some (.slice none 0 0):=by rw [hw4,hT];simp [go_sem]
    have t1:w4.cell? ⟨T,1,none⟩=some (.slice none 0 0):=by rw [hw4,hT];simp [go_sem]
    have t2:w4.cell? ⟨T,2,none⟩=some (.slice none 0 0):=by rw [hw4,hT];simp [go_sem]
    have t3:w4.cell? ⟨T,3,none⟩=some (.slice none 0 0):=by rw [hw4,hT];simp [go_sem]
    have tz:T<w4.heap.size:=by rw [hw4,hT];simp
    have B4:=Lib.hid (bel_below B3.out b34)
    have R4:=Lib.hid (R3.out.later b34)
    rw [← hw4,← hT]
    have HTT:=Lib.hid hT
    clear hw4 b34 hT R3 B3
    refine wp_region_calm_tail (2) (by kernel_rfl) (by kernel_rfl) ?_
    simp only [List.take_succ_cons,List.take_zero,List.drop_succ_cons,List.drop_zero]
    repeat (first | (go_big_quiet_step ((fail))) | (refine wpQuiet_step (fun K hK=>?_);go_simp;first | (refine hK _ ?_;clear hK K) | (apply Exists.intro;refine ⟨fun _=>?_,hK _ ?_⟩;(fail);clear hK K)))
    refine wpQuiet_nil ?_
    intro _ hw'
    obtain ⟨xq,hw''⟩:=hw'
    subst hw''
    have hB:=bel_below B4.out xq.below
    have R5:=R4.out.later xq.below
    obtain ⟨w5,hB5⟩:=xq
    dsimp only at hB R5 ⊢
    have r0:=(R5).c0
    have r1:=(R5).c1
    have r2:=(R5).c2
    have r3:=(R5).c3
    have rf0:=(R5).f0
    have rf1:=(R5).f1
    have rf2:=(R5).f2
    have rf3:=(R5).f3
    have zr:=(R5).z
    go_wp2_with fail
    refine bodyPost_ret (v:=.tuple #[.pointer none,.agg #[.slice none 0 0,.slice none 0 0,.slice none 0 0,.slice none 0 0],.bool false]) ?_ rfl ?_
    · simp [results,Tryz.results8,go_sem,r0,r1,r2,r3]
    exact HNo.out _ (by (repeat (first | exact Below.refl _ _ | (with_reducible assumption) | (with_reducible refine bel_later ?_ _) | (with_reducible refine bel_alloc ?_ _) | (with_reducible refine bel_drew ?_) | (with_reducible refine bel_drewN ?_ _) | (with_reducible refine bel_set ?_ (by first | (simp;done) | (simp;omega) | (dsimp only;omega)) _))))
theorem made_anyN (W:World) (hH:HandleAt W) (v0 v1:Value) (ids:List Int) (acts:List ActD) (n:Nat) (hi:SlAt 0 (fun i=>.int .u64 (nth ids i)) ids.length W v0) (hp:∀ x∈ids,isPlace x)
 (ha:ActsAt acts W v1) (hao:∀ k,k<acts.length->(actAt acts k).ok) (hn:n<=1000):Calls Tryz.prog 8 #[v0,v1,.int .i64 n] W (MadePostN n W ids):=by
 by_cases h6:ids.length<=6
 · exact made_few W hH v0 v1 ids acts n hi hp h6 ha hao hn
 · exact made_many W v0 v1 ids n hi hp h6
theorem made_any (W:World) (hH:HandleAt W) (v0 v1:Value) (ids:List Int) (acts:List ActD) (n:Nat) (hi:SlAt 0 (fun i=>.int .u64 (nth ids i)) ids.length W v0) (hp:∀ x∈ids,isPlace x)
 (ha:ActsAt acts W v1) (hao:∀ k,k<acts.length->(actAt acts k).ok) (hn:n<=1000):Calls Tryz.prog 8 #[v0,v1,.int .i64 n] W (MadePost W ids):=by
 refine (made_anyN W hH v0 v1 ids acts n hi hp ha hao hn).mono fun e w' h=>?_
 unfold MadePostN at h
 unfold MadePost
 split
 · rename_i h1;rw [if_pos h1] at h
   obtain ⟨rb,mb,f,p,S,Q,he,hB,_⟩:=h
   exact ⟨rb,mb,f,p,S,Q,he,hB⟩
 · rename_i h1;rw [if_neg h1] at h;exact h
end Go.Proofs.YtahiahjhpakeiaaGreatDoor
end
