

/-
  A map from whole numbers to values, in memory (out of RouteD). No program is named here.
  A window of what came: Come with a number greater than all before.
-/
import Derived.Test.YtacdgfkahppmdaaMapP
import Derived.Maps.OwnSet
import Derived.Test.YtacdgfkahppmdaaTame
import Derived.Test.YtacdgfkahppmdaaTabR
import Derived.Laws.Cover3

namespace Go.Proofs.Ytacdgfkahppmdaa
open Go.RowKit Go.Maps
set_option linter.unusedVariables false
set_option linter.unusedSimpArgs false

/-- How a value reads here: as itself. -/
def anyR (v : Value) : Option (DataW Value × List MemPlace) := some (.held v, [])
theorem anyR_inv {v u : Value} {ps : List MemPlace} (h : anyR v = some (.held u, ps)) : v = u := by unfold anyR at h; simpa using (Option.some.inj h |> congrArg Prod.fst)

section
variable {P : Program} {k : TypeId}
/-- Block mb holds a map of c entries, from numbers to values. -/
def MapX (P : Program) (k : TypeId) (w : World) (mb c : Nat) (f : Int → Option Value) : Prop :=
  ∃ D, w.ownsMap P k anyR mb c D ∧ Maps.size D = c ∧ (∀ i, okInt i → ∀ z, D.atKey (.int .i64 i) (.held z) = .held ((f i).getD z)) ∧ (∀ i, okInt i → has D (.int .i64 i) = (f i).isSome) ∧ ∀ i, ¬ okInt i → f i = none
theorem own_tight {R : Value → Option (DataW Value × List MemPlace)} {w : World} {mb n : Nat} {D : DataW Value} (h : w.ownsMap P k R mb n D) {c : Nat} (hc : Maps.size D = c) : w.ownsMap P k R mb c D := by
  obtain ⟨es, clock, hb, F, hs, rfl⟩ := h
  refine ⟨es, clock, hb, F, ?_, rfl⟩
  rw [← hc]
  simp [Maps.size, length_sorted]
theorem MapX.kept {w w' : World} {mb c : Nat} {f : Int → Option Value} {row : Option Nat} (h : MapX P k w mb c f) (hg : w.grownBy w' row) (hne : some mb ≠ row) : MapX P k w' mb c f := by
  obtain ⟨D, h1, h2⟩ := h
  exact ⟨D, h1.kept hg hne, h2⟩
theorem MapX.lt {w : World} {mb c : Nat} {f : Int → Option Value} (h : MapX P k w mb c f) : mb < w.heap.size := by
  obtain ⟨D, h1, _⟩ := h
  exact h1.lt
theorem MapX.block {w w' : World} {mb c : Nat} {f : Int → Option Value} (h : MapX P k w mb c f) (hb : w'.heap[mb]? = w.heap[mb]?) : MapX P k w' mb c f := by
  obtain ⟨D, ⟨es, clock, h1, h2⟩, h3⟩ := h
  exact ⟨D, ⟨es, clock, hb.trans h1, h2⟩, h3⟩
theorem mapX_new (w : World) : MapX P k (w.alloc (.map #[] 0)) w.heap.size 0 (fun _ => none) :=
  ⟨.map [], World.ownsMap_made w P k anyR, rfl, fun _ _ _ => rfl, fun _ _ => rfl, fun _ _ => rfl⟩
/-- 'm[i]'. -/
theorem MapX.look {w : World} {mb c : Nat} {f : Int → Option Value} {t e : TypeId} (h : MapX P k w mb c f) (K : Keyed P k) (hk : P.underlying k = some (.int .i64)) (ht : P.underlying t = some (.map k e)) {z : Value}
    (hz : (zeroValue e).run P w = .ok z w) (i : Int) (hi : okInt i) : (Instr.lookup t (.map (some mb)) (.int .i64 i) false).run P w = .ok ((f i).getD z) w := by
  obtain ⟨D, h1, _, h2, _⟩ := h
  obtain ⟨v, ps, hrun, hv⟩ := h1.lookup K ht hz (zd := .held z) (zp := []) rfl (keyOf_int_mk hk hi)
  rw [h2 i hi z] at hv
  rw [hrun, anyR_inv hv]
/-- 'm[i]', and whether it is there. -/
theorem MapX.look_ok {w : World} {mb c : Nat} {f : Int → Option Value} {t e : TypeId} (h : MapX P k w mb c f) (K : Keyed P k) (hk : P.underlying k = some (.int .i64)) (ht : P.underlying t = some (.map k e)) {z : Value}
    (hz : (zeroValue e).run P w = .ok z w) (i : Int) (hi : okInt i) : (Instr.lookup t (.map (some mb)) (.int .i64 i) true).run P w = .ok (.tuple #[(f i).getD z, .bool (f i).isSome]) w := by
  obtain ⟨D, h1, _, h2, h3, _⟩ := h
  obtain ⟨v, ps, hrun, hv⟩ := h1.look_ok K ht hz (zd := .held z) (zp := []) rfl (keyOf_int_mk hk hi)
  rw [h2 i hi z] at hv
  rw [hrun, anyR_inv hv, h3 i hi]
/-- 'len(m)'. -/
theorem MapX.len {w : World} {mb c : Nat} {f : Int → Option Value} {t e : TypeId} (h : MapX P k w mb c f) (ht : P.underlying t = some (.map k e)) (ty : TypeId) : (Builtin.len_ #[t] ty #[.map (some mb)]).run P w = .ok (.int .i64 c) w := by
  obtain ⟨D, h1, h2, _⟩ := h
  rw [h1.len ht ty, h2]

def setX (f : Int → Option Value) (i : Int) (v : Value) : Int → Option Value := fun j => if j = i then some v else f j
def delX (f : Int → Option Value) (i : Int) : Int → Option Value := fun j => if j = i then none else f j
theorem setX_same (f : Int → Option Value) (i : Int) (v : Value) : setX f i v i = some v := by simp [setX]
theorem setX_ne (f : Int → Option Value) {i j : Int} (v : Value) (h : j ≠ i) : setX f i v j = f j := by simp [setX, h]
/-- 'm[i] = v'. -/
theorem MapX.store {w : World} {mb c : Nat} {f : Int → Option Value} {t e : TypeId} (h : MapX P k w mb c f) (K : Keyed P k) (hk : P.underlying k = some (.int .i64)) (ht : P.underlying t = some (.map k e))
    (hN : c < maxLen) (i : Int) (hi : okInt i) (v : Value) : ∃ w', (Instr.mapUpdate t (.map (some mb)) (.int .i64 i) v).run P w = .ok () w' ∧ MapX P k w' mb (if (f i).isSome then c else c + 1) (setX f i v) ∧ w.mapTurned w' mb := by
  obtain ⟨D, h1, hs, h2, h3, h4⟩ := h
  obtain ⟨w', hrun, h5, h6⟩ := h1.store K ht hN (keyOf_int_mk hk hi) (d := .held v) (ps := []) rfl
  have hkey := isKey_int i hi K hk
  have hM := h1.isMap
  refine ⟨w', hrun, ⟨_, own_tight h5 ?_, ?_, fun j hj z => ?_, fun j hj => ?_, fun j hj => ?_⟩, h6⟩
  · rw [size_put (h1.tidy K), h3 i hi, hs]
  · rw [size_put (h1.tidy K), h3 i hi, hs]
  · unfold setX
    by_cases e : j = i
    · subst e; rw [if_pos rfl, atKey_put_same hM hkey]; rfl
    · rw [if_neg e, atKey_put_other (by simpa using e), h2 j hj]
  · unfold setX
    by_cases e : j = i
    · subst e; rw [if_pos rfl, has_put_same hM hkey]; rfl
    · rw [if_neg e, has_put_other (by simpa using e), h3 j hj]
  · unfold setX
    rw [if_neg (fun e : j = i => hj (by rw [e]; exact hi)), h4 j hj]
/-- 'delete(m, i)'. -/
theorem MapX.drop {w : World} {mb c : Nat} {f : Int → Option Value} {t e : TypeId} (h : MapX P k w mb c f) (K : Keyed P k) (hk : P.underlying k = some (.int .i64)) (ht : P.underlying t = some (.map k e)) (ty : TypeId)
    (i : Int) (hi : okInt i) : ∃ w', (Builtin.delete_ #[t, k] ty #[.map (some mb), .int .i64 i]).run P w = .ok (.tuple #[]) w' ∧ MapX P k w' mb (if (f i).isSome then c - 1 else c) (delX f i) ∧ w.mapTurned w' mb := by
  obtain ⟨D, h1, hs, h2, h3, h4⟩ := h
  obtain ⟨w', hrun, h5, h6⟩ := h1.drop K ht (keyOf_int_mk hk hi) ty
  have hsz := size_del (h1.tidy K) (k := .int .i64 i)
  rw [h3 i hi, hs] at hsz
  have e : Maps.size (D.del (.int .i64 i)) = if (f i).isSome then c - 1 else c := by split at hsz <;> simp_all <;> omega
  refine ⟨w', hrun, ⟨_, own_tight h5 e, e, fun j hj z => ?_, fun j hj => ?_, fun j hj => ?_⟩, h6⟩
  · unfold delX
    by_cases e : j = i
    · subst e; rw [if_pos rfl, atKey_del_same]; rfl
    · rw [if_neg e, atKey_del_other (by simpa using e), h2 j hj]
  · unfold delX
    by_cases e : j = i
    · subst e; rw [if_pos rfl, has_del_same]; rfl
    · rw [if_neg e, has_del_other (by simpa using e), h3 j hj]
  · unfold delX
    split
    · rfl
    · exact h4 j hj

end
end Go.Proofs.Ytacdgfkahppmdaa
namespace Go.Proofs.Ytacdgfkahppmdaa
open Go.RowKit Go.Maps Go.Sort Go.WideShapes Go.ChangeShapes Go.Deep
set_option linter.unusedVariables false
set_option linter.unusedSimpArgs false
attribute [local go_sem] later_cell later_frozen later_lt cell_set_off cell_set_block keptT_cell keptT_lt

theorem keyInt : Keyed Try.prog 3 := int_keyed Try.underlying3
section
variable {P : Program}
theorem run_eql_map_nil (w : World) (t k e : TypeId) (m : Option Nat) (h : P.underlying t = some (.map k e)) : (binOp .eql t (.map m) (.map none)).run P w = .ok (.bool m.isNone) w := by
  simp only [binOp]
  simp [run_equal_map_nil w t k e m h]
end
theorem okInt_dom' {n : Int} (h0 : -1 ≤ n) (h1 : n < 32) : okInt n := by
  unfold okInt Lit.wf
  rw [Bool.and_eq_true, decide_eq_true_eq, decide_eq_true_eq]
  exact ⟨by show (-9223372036854775808 : Int) ≤ n; omega, by show n ≤ (9223372036854775807 : Int); omega⟩
def zOne : Value := .agg #[.int .i64 0, .int .u64 0]
/-- A window in memory. -/
def Win (Q : Nat → Prop) (w : World) (xb N : Nat) (f : Int → Option Value) : Prop :=
  ∃ (o : Option Nat) (c : Nat), w.cell? ⟨xb, 0, none⟩ = some (.map o) ∧ w.frozen? ⟨xb, 0, none⟩ = false ∧ xb < w.heap.size ∧ Q xb ∧ c ≤ N ∧ (o = none → f = fun _ => none) ∧ ∀ mb, o = some mb → Q mb ∧ mb ≠ xb ∧ MapX Try.prog 3 w mb c f
theorem Win.same {Q Q' : Nat → Prop} {w w' : World} {xb N : Nat} {f : Int → Option Value} (h : Win Q w xb N f) (hQ : ∀ b, b < w.heap.size → Q b → Q' b) (hs : w.heap.size ≤ w'.heap.size) (hb : ∀ b, b < w.heap.size → Q b → w'.heap[b]? = w.heap[b]?) : Win Q' w' xb N f := by
  obtain ⟨o, c, h1, h2, h3, h4, h5, h6, h7⟩ := h
  refine ⟨o, c, (World.cell?_of_block (hb xb h3 h4)).trans h1, (World.frozen?_of_block (hb xb h3 h4)).trans h2, Nat.lt_of_lt_of_le h3 hs, hQ xb h3 h4, h5, h6, fun mb hm => ?_⟩
  obtain ⟨k1, k2, k3⟩ := h7 mb hm
  exact ⟨hQ mb k3.lt k1, k2, k3.block (hb mb k3.lt k1)⟩
def ComeP (Q : Nat → Prop) (w : World) (xb N : Nat) (f : Int → Option Value) (p n : Int) (e : Ending) (w' : World) : Prop :=
  e = .returned (.tuple #[.int .i64 1, .nilIface]) ∧ Kept Q w w' ∧ ∃ cm : Int, Win (fun b => Q b ∨ (w.heap.size ≤ b ∧ b < w'.heap.size)) w' xb (N + 1) (setX f p (.agg #[.int .i64 n, .int .u64 cm]))
theorem come_post {Q : Nat → Prop} {w w3 w4 : World} {xb N c mb : Nat} {f : Int → Option Value} {p n cq : Int} (hK : Kept Q w w3) (hc : w3.cell? ⟨xb, 0, none⟩ = some (.map (some mb))) (hfz : w3.frozen? ⟨xb, 0, none⟩ = false) (hx : xb < w.heap.size) (hxQ : Q xb) (hcN : c ≤ N)
    (hmb : Q mb ∨ w.heap.size ≤ mb) (hne : mb ≠ xb) (hg : ({ w3 with drawn := w3.drawn + 1 } : World).mapTurned w4 mb) (hM : MapX Try.prog 3 w4 mb (if (f p).isSome then c else c + 1) (setX f p (.agg #[.int .i64 n, .int .u64 cq]))) : ComeP Q w xb N f p n (.returned (.tuple #[.int .i64 1, .nilIface])) w4 := by
  have hgr := hg.grown
  have hsz : w3.heap.size ≤ w4.heap.size := hgr.size
  have hx3 : xb < w3.heap.size := Nat.lt_of_lt_of_le hx hK.size
  have hbx : w4.heap[xb]? = w3.heap[xb]? := hgr.block xb hx3 fun e => hne (by cases e; rfl)
  refine ⟨rfl, ⟨hgr.os.trans hK.os, hgr.tape.trans hK.tape, hgr.output.trans hK.output, Nat.le_trans hK.size hsz, fun b hb hn => ?_⟩, cq, some mb, (if (f p).isSome then c else c + 1), (World.cell?_of_block hbx).trans hc, (World.frozen?_of_block hbx).trans hfz, Nat.lt_of_lt_of_le hx3 hsz, Or.inl hxQ, ?_, (fun e => by cases e), fun m hm => ?_⟩
  · refine (hgr.block b (Nat.lt_of_lt_of_le hb hK.size) fun e => ?_).trans (hK.block b hb hn)
    cases e
    rcases hmb with h | h
    · exact hn h
    · omega
  · split <;> omega
  · cases hm
    exact ⟨hmb.imp id fun h => ⟨h, hM.lt⟩, hne, hM⟩
set_option maxRecDepth 100000 in
set_option maxHeartbeats 8000000 in
theorem come_any {Q : Nat → Prop} (w : World) (xb N : Nat) (f : Int → Option Value) (p n L cm : Int) (h : Win Q w xb N f) (hp0 : 0 ≤ p) (hp : p < 32) (hn1 : 1 ≤ n) (hn : n ≤ 1000) (hf : (f p).getD zOne = .agg #[.int .i64 L, .int .u64 cm]) (hL0 : 0 ≤ L) (hL : L < n) (hN : N ≤ 1000) :
    Calls Try.prog 19 #[.pointer (some ⟨xb, 0, none⟩), .int .i64 p, .int .i64 n] w (ComeP Q w xb N f p n) := by
  obtain ⟨o, c, h1, h2, h3, h4, h5, h6, h7⟩ := h
  have hok : okInt p := okInt_dom' (by omega) hp
  have hz : ∀ w : World, (zeroValue 75).run Try.prog w = .ok zOne w := fun _ => by kernel_rfl
  have HL : Hid ((Instr.lookup 48 (.map o) (.int .i64 p) false).run Try.prog w = .ok (.agg #[.int .i64 L, .int .u64 cm]) w) := show _ = _ by
    cases o with
    | none =>
      rw [h6 rfl] at hf
      have h9 := Maps.look_nil (P := Try.prog) (w := w) (t := 48) false keyInt Try.underlying48 (hz w) (keyOf_int_mk Try.underlying3 hok)
      rw [h9]
      simpa using hf
    | some mb =>
      have := (h7 mb rfl).2.2.look keyInt Try.underlying3 Try.underlying48 (z := zOne) (hz w) p hok
      rw [this, hf]
  have hl := HL.out
  have hby : (0 : Int) < n - L := by omega
  have H6 := Lib.hid h6
  have H7 := Lib.hid h7
  have HZ := Lib.hid hz
  have HF := Lib.hid hf
  have hp' : ¬ p < 0 := by omega
  have HEQ : Hid (∀ (w : World) (m : Option Nat), (binOp .eql 48 (.map m) (.map none)).run Try.prog w = .ok (.bool m.isNone) w) := fun w m => run_eql_map_nil w 48 3 75 m Try.underlying48
  have hmk : ∀ (w : World), (Instr.makeMap 48 none).run Try.prog w = .ok (.map (some w.heap.size)) (w.alloc (.map #[] 0)) := fun w => run_makeMap 48 w
  clear h6 h7 hz hf HL
  cases o with
  | none =>
    have H6n : Hid (f = fun _ => none) := H6.out rfl
    clear H6 H7
    have heq : ∀ w : World, (binOp .eql 48 (.map none) (.map none)).run Try.prog w = .ok (.bool true) w := fun w => HEQ.out w none
    by_cases hby64 : n - L < 64
    · go_enter Try.func19, Try.ntmps19
      go_wp2_with fail
      obtain ⟨cq, hcq⟩ : ∃ z : Int, z = bits BinOp.or IntKind.u64 (IntKind.u64.wrap (cm * 2 ^ (n - L).toNat)) 1 := ⟨_, rfl⟩
      try rw [← hcq]
      obtain ⟨w3, hw3⟩ : ∃ z, z = (((w.setCell ⟨xb, 0, none⟩ (.map (some (w.heap.size + 1)))).alloc (.cells #[.int .i64 n, .int .u64 cq] 75)).alloc (.map #[] 0)) := ⟨_, rfl⟩
      have c0 : w3.cell? ⟨xb, 0, none⟩ = some (.map (some (w.heap.size + 1))) := by
        have e : (w.setCell ⟨xb, 0, none⟩ (.map (some (w.heap.size + 1)))).cell? ⟨xb, 0, none⟩ = some (.map (some (w.heap.size + 1))) := World.cell?_setCell_same _ _ _ h1
        have hb : Below w.heap.size (w.setCell ⟨xb, 0, none⟩ (.map (some (w.heap.size + 1)))) w3 := by rw [hw3]; exact (bel_alloc (bel_alloc (Below.refl _ _) _) _).mono (by simp)
        exact (hb.cell (p := ⟨xb, 0, none⟩) h3).trans e
      have fr : w3.frozen? ⟨xb, 0, none⟩ = false := by
        have hb : Below w.heap.size (w.setCell ⟨xb, 0, none⟩ (.map (some (w.heap.size + 1)))) w3 := by rw [hw3]; exact (bel_alloc (bel_alloc (Below.refl _ _) _) _).mono (by simp)
        exact (World.frozen?_of_block (hb.block xb h3)).trans ((World.frozen?_setCell _ _ _ _).trans h2)
      have b0 : w3.cell? ⟨w.heap.size, 0, none⟩ = some (.int .i64 n) := by rw [hw3]; simp [go_sem]
      have b1 : w3.cell? ⟨w.heap.size, 1, none⟩ = some (.int .u64 cq) := by rw [hw3]; simp [go_sem]
      have hz3 : w.heap.size < w3.heap.size := by rw [hw3]; simp; omega
      have hx3 : xb < w3.heap.size := by omega
      have HM : Hid (MapX Try.prog 3 w3 (w.heap.size + 1) 0 f) := show MapX _ _ _ _ _ _ by
        rw [hw3, H6n.out]
        have := mapX_new (P := Try.prog) (k := 3) ((w.setCell ⟨xb, 0, none⟩ (.map (some (w.heap.size + 1)))).alloc (.cells #[.int .i64 n, .int .u64 cq] 75))
        simpa using this
      have KW : Hid (Kept Q w w3) := show Kept _ _ _ by rw [hw3]; exact ((Kept.set (Kept.refl Q w) (p := ⟨xb, 0, none⟩) h4 _).alloc _).alloc _
      have HMQ : Hid (Q (w.heap.size + 1) ∨ w.heap.size ≤ w.heap.size + 1) := Or.inr (Nat.le_succ _)
      have HMX : Hid (w.heap.size + 1 ≠ xb) := show _ ≠ _ by omega
      have h5' : 0 ≤ N := Nat.zero_le _
      rw [← hw3]
      clear hw3 h1 h2 hl H6n HF heq hmk
      obtain ⟨w4, hrun, hM4, ht⟩ := MapX.store (w := w3.drew) (HM.out.block rfl) keyInt Try.underlying3 Try.underlying48 (by simp only [maxLen]; omega) p hok (.agg #[.int .i64 n, .int .u64 cq])
      have HPO := Lib.hid (come_post KW.out c0 fr h3 h4 h5' HMQ.out HMX.out ht hM4)
      clear hM4 ht HM KW HMQ HMX hcq
      refine wp_region_heads [0, 1, 2, 3, 4, 5] 6 (fun w' => ∃ y : Later w3, w' = y.world) (by kernel_rfl) (by kernel_rfl) ⟨⟨{ w3 with drawn := w3.drawn + 1 }, (RowKit.Below.refl _ _).drew⟩, rfl⟩ ?_ ?_
      · intro d v c a w h
        cases d <;> exact h
      simp only [headOps]
      repeat (refine wpTame_step (fun K hK => ?_); go_simp; refine hK _ ?_; clear hK K)
      refine wpTame_nil ?_
      refine wpAnyC_end (k := 6) (by decide) rfl rfl (by kernel_rfl) ?_
      go_wp2_with fail
      refine bodyPost_ret (v := .tuple #[.int .i64 1, .nilIface]) ?_ rfl HPO.out
      simp [results, Try.results19, go_sem]
    · go_enter Try.func19, Try.ntmps19
      go_wp2_with fail
      obtain ⟨cq, hcq⟩ : ∃ z : Int, z = 1 := ⟨_, rfl⟩
      try rw [← hcq]
      obtain ⟨w3, hw3⟩ : ∃ z, z = (((w.setCell ⟨xb, 0, none⟩ (.map (some (w.heap.size + 1)))).alloc (.cells #[.int .i64 n, .int .u64 cq] 75)).alloc (.map #[] 0)) := ⟨_, rfl⟩
      have c0 : w3.cell? ⟨xb, 0, none⟩ = some (.map (some (w.heap.size + 1))) := by
        have e : (w.setCell ⟨xb, 0, none⟩ (.map (some (w.heap.size + 1)))).cell? ⟨xb, 0, none⟩ = some (.map (some (w.heap.size + 1))) := World.cell?_setCell_same _ _ _ h1
        have hb : Below w.heap.size (w.setCell ⟨xb, 0, none⟩ (.map (some (w.heap.size + 1)))) w3 := by rw [hw3]; exact (bel_alloc (bel_alloc (Below.refl _ _) _) _).mono (by simp)
        exact (hb.cell (p := ⟨xb, 0, none⟩) h3).trans e
      have fr : w3.frozen? ⟨xb, 0, none⟩ = false := by
        have hb : Below w.heap.size (w.setCell ⟨xb, 0, none⟩ (.map (some (w.heap.size + 1)))) w3 := by rw [hw3]; exact (bel_alloc (bel_alloc (Below.refl _ _) _) _).mono (by simp)
        exact (World.frozen?_of_block (hb.block xb h3)).trans ((World.frozen?_setCell _ _ _ _).trans h2)
      have b0 : w3.cell? ⟨w.heap.size, 0, none⟩ = some (.int .i64 n) := by rw [hw3]; simp [go_sem]
      have b1 : w3.cell? ⟨w.heap.size, 1, none⟩ = some (.int .u64 cq) := by rw [hw3]; simp [go_sem]
      have hz3 : w.heap.size < w3.heap.size := by rw [hw3]; simp; omega
      have hx3 : xb < w3.heap.size := by omega
      have HM : Hid (MapX Try.prog 3 w3 (w.heap.size + 1) 0 f) := show MapX _ _ _ _ _ _ by
        rw [hw3, H6n.out]
        have := mapX_new (P := Try.prog) (k := 3) ((w.setCell ⟨xb, 0, none⟩ (.map (some (w.heap.size + 1)))).alloc (.cells #[.int .i64 n, .int .u64 cq] 75))
        simpa using this
      have KW : Hid (Kept Q w w3) := show Kept _ _ _ by rw [hw3]; exact ((Kept.set (Kept.refl Q w) (p := ⟨xb, 0, none⟩) h4 _).alloc _).alloc _
      have HMQ : Hid (Q (w.heap.size + 1) ∨ w.heap.size ≤ w.heap.size + 1) := Or.inr (Nat.le_succ _)
      have HMX : Hid (w.heap.size + 1 ≠ xb) := show _ ≠ _ by omega
      have h5' : 0 ≤ N := Nat.zero_le _
      rw [← hw3]
      clear hw3 h1 h2 hl H6n HF heq hmk
      obtain ⟨w4, hrun, hM4, ht⟩ := MapX.store (w := w3.drew) (HM.out.block rfl) keyInt Try.underlying3 Try.underlying48 (by simp only [maxLen]; omega) p hok (.agg #[.int .i64 n, .int .u64 cq])
      have HPO := Lib.hid (come_post KW.out c0 fr h3 h4 h5' HMQ.out HMX.out ht hM4)
      clear hM4 ht HM KW HMQ HMX hcq
      refine wp_region_heads [0, 1, 2, 3, 4, 5] 6 (fun w' => ∃ y : Later w3, w' = y.world) (by kernel_rfl) (by kernel_rfl) ⟨⟨{ w3 with drawn := w3.drawn + 1 }, (RowKit.Below.refl _ _).drew⟩, rfl⟩ ?_ ?_
      · intro d v c a w h
        cases d <;> exact h
      simp only [headOps]
      repeat (refine wpTame_step (fun K hK => ?_); go_simp; refine hK _ ?_; clear hK K)
      refine wpTame_nil ?_
      refine wpAnyC_end (k := 6) (by decide) rfl rfl (by kernel_rfl) ?_
      go_wp2_with fail
      refine bodyPost_ret (v := .tuple #[.int .i64 1, .nilIface]) ?_ rfl HPO.out
      simp [results, Try.results19, go_sem]
  | some mb =>
    obtain ⟨k1, k2, k3⟩ := H7.out mb rfl
    have K1 := Lib.hid k1
    have K2 := Lib.hid k2
    have K3 := Lib.hid k3
    clear k1 k2 k3 H6 H7
    have heq : ∀ w : World, (binOp .eql 48 (.map (some mb)) (.map none)).run Try.prog w = .ok (.bool false) w := fun w => HEQ.out w (some mb)
    by_cases hby64 : n - L < 64
    · go_enter Try.func19, Try.ntmps19
      go_wp2_with fail
      obtain ⟨cq, hcq⟩ : ∃ z : Int, z = bits BinOp.or IntKind.u64 (IntKind.u64.wrap (cm * 2 ^ (n - L).toNat)) 1 := ⟨_, rfl⟩
      try rw [← hcq]
      obtain ⟨w3, hw3⟩ : ∃ z, z = (w.alloc (.cells #[.int .i64 n, .int .u64 cq] 75)) := ⟨_, rfl⟩
      have hb3 : Below w.heap.size w w3 := by rw [hw3]; exact bel_alloc (Below.refl _ _) _
      have c0 : w3.cell? ⟨xb, 0, none⟩ = some (.map (some mb)) := (hb3.cell (p := ⟨xb, 0, none⟩) h3).trans h1
      have fr : w3.frozen? ⟨xb, 0, none⟩ = false := (World.frozen?_of_block (hb3.block xb h3)).trans h2
      have b0 : w3.cell? ⟨w.heap.size, 0, none⟩ = some (.int .i64 n) := by rw [hw3]; simp [go_sem]
      have b1 : w3.cell? ⟨w.heap.size, 1, none⟩ = some (.int .u64 cq) := by rw [hw3]; simp [go_sem]
      have hz3 : w.heap.size < w3.heap.size := by rw [hw3]; simp
      have hx3 : xb < w3.heap.size := by omega
      have HM : Hid (MapX Try.prog 3 w3 mb c f) := K3.out.block (hb3.block mb K3.out.lt)
      have KW : Hid (Kept Q w w3) := (Kept.refl Q w).below hb3
      have HMQ : Hid (Q mb ∨ w.heap.size ≤ mb) := Or.inl K1.out
      have HMX : Hid (mb ≠ xb) := K2.out
      have h5' := h5
      rw [← hw3]
      clear hw3 hb3 K1 K2 K3 h1 h2 hl HF heq hmk
      obtain ⟨w4, hrun, hM4, ht⟩ := MapX.store (w := w3.drew) (HM.out.block rfl) keyInt Try.underlying3 Try.underlying48 (by simp only [maxLen]; omega) p hok (.agg #[.int .i64 n, .int .u64 cq])
      have HPO := Lib.hid (come_post KW.out c0 fr h3 h4 h5' HMQ.out HMX.out ht hM4)
      clear hM4 ht HM KW HMQ HMX hcq
      refine wp_region_heads [0, 1, 2, 3, 4, 5] 6 (fun w' => ∃ y : Later w3, w' = y.world) (by kernel_rfl) (by kernel_rfl) ⟨⟨{ w3 with drawn := w3.drawn + 1 }, (RowKit.Below.refl _ _).drew⟩, rfl⟩ ?_ ?_
      · intro d v c a w h
        cases d <;> exact h
      simp only [headOps]
      repeat (refine wpTame_step (fun K hK => ?_); go_simp; refine hK _ ?_; clear hK K)
      refine wpTame_nil ?_
      refine wpAnyC_end (k := 6) (by decide) rfl rfl (by kernel_rfl) ?_
      go_wp2_with fail
      refine bodyPost_ret (v := .tuple #[.int .i64 1, .nilIface]) ?_ rfl HPO.out
      simp [results, Try.results19, go_sem]
    · go_enter Try.func19, Try.ntmps19
      go_wp2_with fail
      obtain ⟨cq, hcq⟩ : ∃ z : Int, z = 1 := ⟨_, rfl⟩
      try rw [← hcq]
      obtain ⟨w3, hw3⟩ : ∃ z, z = (w.alloc (.cells #[.int .i64 n, .int .u64 cq] 75)) := ⟨_, rfl⟩
      have hb3 : Below w.heap.size w w3 := by rw [hw3]; exact bel_alloc (Below.refl _ _) _
      have c0 : w3.cell? ⟨xb, 0, none⟩ = some (.map (some mb)) := (hb3.cell (p := ⟨xb, 0, none⟩) h3).trans h1
      have fr : w3.frozen? ⟨xb, 0, none⟩ = false := (World.frozen?_of_block (hb3.block xb h3)).trans h2
      have b0 : w3.cell? ⟨w.heap.size, 0, none⟩ = some (.int .i64 n) := by rw [hw3]; simp [go_sem]
      have b1 : w3.cell? ⟨w.heap.size, 1, none⟩ = some (.int .u64 cq) := by rw [hw3]; simp [go_sem]
      have hz3 : w.heap.size < w3.heap.size := by rw [hw3]; simp
      have hx3 : xb < w3.heap.size := by omega
      have HM : Hid (MapX Try.prog 3 w3 mb c f) := K3.out.block (hb3.block mb K3.out.lt)
      have KW : Hid (Kept Q w w3) := (Kept.refl Q w).below hb3
      have HMQ : Hid (Q mb ∨ w.heap.size ≤ mb) := Or.inl K1.out
      have HMX : Hid (mb ≠ xb) := K2.out
      have h5' := h5
      rw [← hw3]
      clear hw3 hb3 K1 K2 K3 h1 h2 hl HF heq hmk
      obtain ⟨w4, hrun, hM4, ht⟩ := MapX.store (w := w3.drew) (HM.out.block rfl) keyInt Try.underlying3 Try.underlying48 (by simp only [maxLen]; omega) p hok (.agg #[.int .i64 n, .int .u64 cq])
      have HPO := Lib.hid (come_post KW.out c0 fr h3 h4 h5' HMQ.out HMX.out ht hM4)
      clear hM4 ht HM KW HMQ HMX hcq
      refine wp_region_heads [0, 1, 2, 3, 4, 5] 6 (fun w' => ∃ y : Later w3, w' = y.world) (by kernel_rfl) (by kernel_rfl) ⟨⟨{ w3 with drawn := w3.drawn + 1 }, (RowKit.Below.refl _ _).drew⟩, rfl⟩ ?_ ?_
      · intro d v c a w h
        cases d <;> exact h
      simp only [headOps]
      repeat (refine wpTame_step (fun K hK => ?_); go_simp; refine hK _ ?_; clear hK K)
      refine wpTame_nil ?_
      refine wpAnyC_end (k := 6) (by decide) rfl rfl (by kernel_rfl) ?_
      go_wp2_with fail
      refine bodyPost_ret (v := .tuple #[.int .i64 1, .nilIface]) ?_ rfl HPO.out
      simp [results, Try.results19, go_sem]
end Go.Proofs.Ytacdgfkahppmdaa
