
/-
  Maps from whole numbers to values; regions that draw their order; ways to the owner of a place: the plain law. No walk stands here.
-/
import Derived.Test.YtahiahjhpakeiaaGreatDoorBase
import Derived.Maps.OwnSet
import Derived.Test.YtahiahjhpakeiaaGreatDoorIdealZ
import Derived.Test.YtahiahjhpakeiaaGreatDoorChordS
import Derived.Test.YtahiahjhpakeiaaGreatDoorInts
namespace Go.Proofs.YtahiahjhpakeiaaGreatDoor
open Go.RowKit Go.Maps
set_option linter.unusedVariables false
set_option linter.unusedSimpArgs false

/-- How a value reads here: as itself. -/
def anyR (v : Value) : Option (DataW Value × List MemPlace) := some (.held v, [])
theorem anyR_inv {v u : Value} {ps : List MemPlace} (h : anyR v = some (.held u, ps)) : v = u := by unfold anyR at h; simpa using (Option.some.inj h |> congrArg Prod.fst)

section
variable {P : Program} {k : TypeId}
/-- Block mb holds a map of c entries, from numbers to values. -/
def MapX (P : Program) (k : TypeId) (w : World) (mb c : Nat) (f : Int → Option Value) : Prop :=
  ∃ D, w.ownsMap P k anyR mb c D ∧ Maps.size D = c ∧ (∀ i, okInt i → ∀ z, D.atKey (.int .i64 i) (.held z) = .held ((f i).getD z)) ∧ (∀ i, okInt i → has D (.int .i64 i) = (f i).isSome) ∧ ∀ i, ¬ okInt i → f i = none
theorem own_tight {R : Value → Option (DataW Value × List MemPlace)} {w : World} {mb n : Nat} {D : DataW Value} (h : w.ownsMap P k R mb n D) {c : Nat} (hc : Maps.size D = c) : w.ownsMap P k R mb c D := by
  obtain ⟨es, clock, hb, F, hs, rfl⟩ := h
  refine ⟨es, clock, hb, F, ?_, rfl⟩
  rw [← hc]
  simp [Maps.size, length_sorted]
theorem MapX.kept {w w' : World} {mb c : Nat} {f : Int → Option Value} {row : Option Nat} (h : MapX P k w mb c f) (hg : w.grownBy w' row) (hne : some mb ≠ row) : MapX P k w' mb c f := by
  obtain ⟨D, h1, h2⟩ := h
  exact ⟨D, h1.kept hg hne, h2⟩
theorem MapX.lt {w : World} {mb c : Nat} {f : Int → Option Value} (h : MapX P k w mb c f) : mb < w.heap.size := by
  obtain ⟨D, h1, _⟩ := h
  exact h1.lt
theorem MapX.block {w w' : World} {mb c : Nat} {f : Int → Option Value} (h : MapX P k w mb c f) (hb : w'.heap[mb]? = w.heap[mb]?) : MapX P k w' mb c f := by
  obtain ⟨D, ⟨es, clock, h1, h2⟩, h3⟩ := h
  exact ⟨D, ⟨es, clock, hb.trans h1, h2⟩, h3⟩
theorem mapX_new (w : World) : MapX P k (w.alloc (.map #[] 0)) w.heap.size 0 (fun _ => none) :=
  ⟨.map [], World.ownsMap_made w P k anyR, rfl, fun _ _ _ => rfl, fun _ _ => rfl, fun _ _ => rfl⟩
/-- 'm[i]'. -/
theorem MapX.look {w : World} {mb c : Nat} {f : Int → Option Value} {t e : TypeId} (h : MapX P k w mb c f) (K : Keyed P k) (hk : P.underlying k = some (.int .i64)) (ht : P.underlying t = some (.map k e)) {z : Value}
    (hz : (zeroValue e).run P w = .ok z w) (i : Int) (hi : okInt i) : (Instr.lookup t (.map (some mb)) (.int .i64 i) false).run P w = .ok ((f i).getD z) w := by
  obtain ⟨D, h1, _, h2, _⟩ := h
  obtain ⟨v, ps, hrun, hv⟩ := h1.lookup K ht hz (zd := .held z) (zp := []) rfl (keyOf_int_mk hk hi)
  rw [h2 i hi z] at hv
  rw [hrun, anyR_inv hv]
/-- 'm[i]', and whether it is there. -/
theorem MapX.look_ok {w : World} {mb c : Nat} {f : Int → Option Value} {t e : TypeId} (h : MapX P k w mb c f) (K : Keyed P k) (hk : P.underlying k = some (.int .i64)) (ht : P.underlying t = some (.map k e)) {z : Value}
    (hz : (zeroValue e).run P w = .ok z w) (i : Int) (hi : okInt i) : (Instr.lookup t (.map (some mb)) (.int .i64 i) true).run P w = .ok (.tuple #[(f i).getD z, .bool (f i).isSome]) w := by
  obtain ⟨D, h1, _, h2, h3, _⟩ := h
  obtain ⟨v, ps, hrun, hv⟩ := h1.look_ok K ht hz (zd := .held z) (zp := []) rfl (keyOf_int_mk hk hi)
  rw [h2 i hi z] at hv
  rw [hrun, anyR_inv hv, h3 i hi]
/-- 'len(m)'. -/
theorem MapX.len {w : World} {mb c : Nat} {f : Int → Option Value} {t e : TypeId} (h : MapX P k w mb c f) (ht : P.underlying t = some (.map k e)) (ty : TypeId) : (Builtin.len_ #[t] ty #[.map (some mb)]).run P w = .ok (.int .i64 c) w := by
  obtain ⟨D, h1, h2, _⟩ := h
  rw [h1.len ht ty, h2]

def setX (f : Int → Option Value) (i : Int) (v : Value) : Int → Option Value := fun j => if j = i then some v else f j
def delX (f : Int → Option Value) (i : Int) : Int → Option Value := fun j => if j = i then none else f j
theorem setX_same (f : Int → Option Value) (i : Int) (v : Value) : setX f i v i = some v := by simp [setX]
theorem setX_ne (f : Int → Option Value) {i j : Int} (v : Value) (h : j ≠ i) : setX f i v j = f j := by simp [setX, h]
/-- 'm[i] = v'. -/
theorem MapX.store {w : World} {mb c : Nat} {f : Int → Option Value} {t e : TypeId} (h : MapX P k w mb c f) (K : Keyed P k) (hk : P.underlying k = some (.int .i64)) (ht : P.underlying t = some (.map k e))
    (hN : c < maxLen) (i : Int) (hi : okInt i) (v : Value) : ∃ w', (Instr.mapUpdate t (.map (some mb)) (.int .i64 i) v).run P w = .ok () w' ∧ MapX P k w' mb (if (f i).isSome then c else c + 1) (setX f i v) ∧ w.mapTurned w' mb := by
  obtain ⟨D, h1, hs, h2, h3, h4⟩ := h
  obtain ⟨w', hrun, h5, h6⟩ := h1.store K ht hN (keyOf_int_mk hk hi) (d := .held v) (ps := []) rfl
  have hkey := isKey_int i hi K hk
  have hM := h1.isMap
  refine ⟨w', hrun, ⟨_, own_tight h5 ?_, ?_, fun j hj z => ?_, fun j hj => ?_, fun j hj => ?_⟩, h6⟩
  · rw [size_put (h1.tidy K), h3 i hi, hs]
  · rw [size_put (h1.tidy K), h3 i hi, hs]
  · unfold setX
    by_cases e : j = i
    · subst e; rw [if_pos rfl, atKey_put_same hM hkey]; rfl
    · rw [if_neg e, atKey_put_other (by simpa using e), h2 j hj]
  · unfold setX
    by_cases e : j = i
    · subst e; rw [if_pos rfl, has_put_same hM hkey]; rfl
    · rw [if_neg e, has_put_other (by simpa using e), h3 j hj]
  · unfold setX
    rw [if_neg (fun e : j = i => hj (by rw [e]; exact hi)), h4 j hj]
/-- 'delete(m, i)'. -/
theorem MapX.drop {w : World} {mb c : Nat} {f : Int → Option Value} {t e : TypeId} (h : MapX P k w mb c f) (K : Keyed P k) (hk : P.underlying k = some (.int .i64)) (ht : P.underlying t = some (.map k e)) (ty : TypeId)
    (i : Int) (hi : okInt i) : ∃ w', (Builtin.delete_ #[t, k] ty #[.map (some mb), .int .i64 i]).run P w = .ok (.tuple #[]) w' ∧ MapX P k w' mb (if (f i).isSome then c - 1 else c) (delX f i) ∧ w.mapTurned w' mb := by
  obtain ⟨D, h1, hs, h2, h3, h4⟩ := h
  obtain ⟨w', hrun, h5, h6⟩ := h1.drop K ht (keyOf_int_mk hk hi) ty
  have hsz := size_del (h1.tidy K) (k := .int .i64 i)
  rw [h3 i hi, hs] at hsz
  have e : Maps.size (D.del (.int .i64 i)) = if (f i).isSome then c - 1 else c := by split at hsz <;> simp_all <;> omega
  refine ⟨w', hrun, ⟨_, own_tight h5 e, e, fun j hj z => ?_, fun j hj => ?_, fun j hj => ?_⟩, h6⟩
  · unfold delX
    by_cases e : j = i
    · subst e; rw [if_pos rfl, atKey_del_same]; rfl
    · rw [if_neg e, atKey_del_other (by simpa using e), h2 j hj]
  · unfold delX
    by_cases e : j = i
    · subst e; rw [if_pos rfl, has_del_same]; rfl
    · rw [if_neg e, has_del_other (by simpa using e), h3 j hj]
  · unfold delX
    split
    · rfl
    · exact h4 j hj

/-- 'for i, v := range m' under way: 'left i': is i still to come? -/
def RangX (P : Program) (k : TypeId) (w : World) (mb r c : Nat) (f : Int → Option Value) (left : Int → Bool) (cnt : Nat) : Prop :=
  ∃ D lf, w.ranges P k anyR mb r c D lf cnt ∧ Maps.size D = c ∧ (∀ i, okInt i → ∀ z, D.atKey (.int .i64 i) (.held z) = .held ((f i).getD z)) ∧ (∀ i, okInt i → has D (.int .i64 i) = (f i).isSome) ∧ (∀ i, ¬ okInt i → f i = none) ∧
    (∀ i, okInt i → lf (.int .i64 i) = left i) ∧ (∀ i, left i = true → okInt i ∧ (f i).isSome = true)
theorem RangX.map {w : World} {mb r c : Nat} {f : Int → Option Value} {left : Int → Bool} {cnt : Nat} (h : RangX P k w mb r c f left cnt) : MapX P k w mb c f := by
  obtain ⟨D, lf, h1, hs, h2, h3, h4, _⟩ := h
  exact ⟨D, h1.owns, hs, h2, h3, h4⟩
theorem RangX.kept {w w' : World} {mb r c : Nat} {f : Int → Option Value} {left : Int → Bool} {cnt : Nat} {row : Option Nat} (h : RangX P k w mb r c f left cnt) (hg : w.grownBy w' row) (h1 : some mb ≠ row) (h2 : some r ≠ row) : RangX P k w' mb r c f left cnt := by
  obtain ⟨D, lf, h3, h4⟩ := h
  exact ⟨D, lf, h3.kept hg h1 h2, h4⟩
theorem RangX.left_eq {w : World} {mb r c : Nat} {f : Int → Option Value} {left : Int → Bool} {cnt : Nat} (h : RangX P k w mb r c f left cnt) : w.rangeLeft mb r = cnt := by
  obtain ⟨D, lf, h1, _⟩ := h
  exact h1.left_eq
theorem RangX.lt {w : World} {mb r c : Nat} {f : Int → Option Value} {left : Int → Bool} {cnt : Nat} (h : RangX P k w mb r c f left cnt) : r < w.heap.size := by
  obtain ⟨D, lf, h1, _⟩ := h
  exact h1.lt
end

section
variable {P : Program} (w : World) {ops : Array Oper} {rest : List Oper} {o : Oper} {a : Act} {Q : Exit → Act → World → Prop}
theorem wpList_range_x (hg : o.guard = none) (m : Operand) (t : TypeId) (hop : o.op = Op.range t m) (k e : TypeId) (K : Keyed P k) (ht : P.underlying t = some (.map k e)) (mb c : Nat) (f : Int → Option Value)
    (hm : a.eval m = .map (some mb)) (h : MapX P k w mb c f) (hk : P.underlying k = some (.int .i64))
    (hK : ∀ w' cnt, RangX P k w' mb w.heap.size c f (fun i => (f i).isSome) cnt → w.grownBy w' none → w'.heap.size = w.heap.size + 1 → wpList P ops Q rest (a.put o.dst (.pointer (some ⟨w.heap.size, 0, none⟩))) w') :
    wpList P ops Q (o :: rest) a w := by
  obtain ⟨D, h1, hs, h2, h3, h4⟩ := h
  refine wpList_range_own w hg m t hop k e K ht anyR mb c D hm h1 (fun w' hr hg hs' => hK w' _ ⟨D, _, hr, hs, h2, h3, h4, h3, fun i hi => ?_⟩ hg hs')
  refine ⟨Classical.byContradiction fun hn => ?_, hi⟩
  have hi' : (f i).isSome = true := hi
  rw [h4 i hn] at hi'
  cases hi'
theorem wpList_next_x (hg : o.guard = none) (it : Operand) (hop : o.op = Op.next it false) (k : TypeId) (K : Keyed P k) (hk : P.underlying k = some (.int .i64)) (mb r c : Nat) (f : Int → Option Value) (left : Int → Bool) (cnt : Nat)
    (hit : a.eval it = .pointer (some ⟨r, 0, none⟩)) (h : RangX P k w mb r c f left cnt)
    (hDone : cnt = 0 → (∀ i, left i = false) → wpList P ops Q rest (a.put o.dst (.tuple #[.bool false])) w)
    (hMore : ∀ (i : Int) (v : Value) (w' : World) (cnt' : Nat), okInt i → left i = true → f i = some v → RangX P k w' mb r c f (fun j => left j && !(j == i)) cnt' → cnt' < cnt → w.grownBy w' (some r) → w'.heap.size = w.heap.size →
      (Instr.entry (.pointer (some ⟨r, 0, none⟩))).run P w' = .ok (.tuple #[.int .i64 i, v]) w' → wpList P ops Q rest (a.put o.dst (.tuple #[.bool true, .int .i64 i, v])) w') :
    wpList P ops Q (o :: rest) a w := by
  obtain ⟨D, lf, h1, hs, h2, h3, h4, h5, h6⟩ := h
  refine wpList_next_ranges w hg it hop k K anyR (Value.int .i64) (fun v : Value => v) (fun key kl hkl => ?_) (fun v y hv => ⟨v, rfl⟩) mb r c D lf cnt hit h1 (fun h0 hall => ?_) ?_
  · obtain ⟨x, e, _⟩ := Maps.keyOf_int_inv hk hkl
    exact ⟨x, e⟩
  · refine hDone h0 fun i => ?_
    by_cases hi : okInt i
    · rw [← h5 i hi]; exact hall _
    · cases hl : left i
      · rfl
      · exact absurd (h6 i hl).1 hi
  · intro x c' kl y w' cnt' hkey hlk hR hat hr hlt hgr hsz hen
    obtain ⟨x', e1, e2, e3⟩ := Maps.keyOf_int_inv hk hkey
    injection e1 with _ e1
    subst e1 e2
    have hleft : left x = true := by rw [← h5 x e3]; exact hlk
    have hsome := (h6 x hleft).2
    obtain ⟨v, hv⟩ := Option.isSome_iff_exists.1 hsome
    have hc : c' = v := by
      have h7 := hat (.held undef)
      rw [h2 x e3 undef, hv] at h7
      unfold anyR at hR
      have h8 : y.1 = .held c' := by rw [← Option.some.inj hR]
      rw [h8] at h7
      injection h7 with h7
      simpa using h7.symm
    subst hc
    refine hMore x c' w' cnt' e3 hleft hv ⟨D, _, hr, hs, h2, h3, h4, fun j hj => ?_, fun j hj => ?_⟩ hlt hgr hsz hen
    · rw [h5 j hj]
      congr 1
      by_cases e : j = x
      · subst e; rw [WideAt.sameKey_self (isKey_int j hj K hk)]; simp
      · have : (Lit.int .i64 j).sameKey (Lit.int .i64 x) = false := by
          cases hs : (Lit.int .i64 j).sameKey (Lit.int .i64 x)
          · rfl
          · have := WideAt.sameKey_eq hs
            injection this with _ this
            exact absurd this e
        rw [this]; simp [e]
    · simp at hj
      exact h6 j hj.1
theorem wpList_len_x (hg : o.guard = none) (m : Operand) (t : TypeId) (hop : o.op = Op.call { callee := Callee.builtin Builtin.len, args := #[m], argTypes := #[t] }) (k e : TypeId) (ht : P.underlying t = some (.map k e)) (mb c : Nat) (f : Int → Option Value)
    (hm : a.eval m = .map (some mb)) (h : MapX P k w mb c f) (hK : wpList P ops Q rest (a.put o.dst (.int .i64 c)) w) : wpList P ops Q (o :: rest) a w := by
  obtain ⟨D, h1, hs, _⟩ := h
  refine wpList_len_own w hg m t hop k e ht anyR mb c D hm h1 ?_
  rw [hs]; exact hK
end
end Go.Proofs.YtahiahjhpakeiaaGreatDoor
namespace Go.Proofs.YtahiahjhpakeiaaGreatDoor
open Go
set_option linter.unusedVariables false
set_option linter.unusedSimpArgs false

section
variable {P : Program} {ops : Array Oper} {md : Region.Mode} {C : World → Prop} {Q' : Exit → Act → World → Prop}
theorem wpAnyC_firstA {i : Nat} {oi : Oper} {v : Value} (hi : ops[i]? = some oi) (hsel : ∀ (j : Nat) (o : Oper) cs b, ops[j]? = some o → o.op ≠ .select cs b) (hQ : ∀ c a w, Q' (.panic c) (a.put oi.dst v) w → Q' (.panic c) a w) :
    ∀ (f : Nat) (listed : Array Bool) (a : Act) (w : World), HeadInv md ops ops.size listed → C w →
      (∀ j oj, ops[j]? = some oj → j ≠ i → listed.getD j true = false → (∀ e ∈ oj.after, Region.binds md e = true → e.on ≠ i) → oi.apart ops oj = true) →
      i ∈ Region.ready md ops listed → StillIn P ops C oi v a →
      wpAnyC P md ops C ops.size Q' f (listed.setIfInBounds i true) (a.put oi.dst v) w → wpAnyC P md ops C ops.size Q' (f + 1) listed a w := by
  intro f
  induction f with
  | zero =>
    intro listed a w inv hC _ hr hy H
    have hun := (mem_ready.1 hr).1
    refine ⟨fun h => (by rw [h] at hr; cases hr), fun j hj => ?_⟩
    by_cases hji : j = i
    · subst hji; exact hy.wpOp hi hC ⟨fun _ => hC, H⟩
    · have := ready_mono hj hji
      rw [H.1] at this
      cases this
  | succ f ih =>
    intro listed a w inv hC hfree hr hy H
    have hun := (mem_ready.1 hr).1
    refine ⟨fun h => (by rw [h] at hr; cases hr), fun j hj => ?_⟩
    have hjn : j < ops.size := by
      obtain ⟨_, oj, hoj, _⟩ := mem_ready.1 hj
      exact (Array.getElem?_eq_some_iff.1 hoj).1
    by_cases hji : j = i
    · subst hji; exact hy.wpOp hi hC ⟨fun _ => hC, H⟩
    · have h1 := H.2 j (ready_mono hj hji)
      obtain ⟨hjun, oj, hoj, hall⟩ := mem_ready.1 hj
      have hnot : ∀ e ∈ oj.after, Region.binds md e = true → e.on ≠ i := fun e he hb heq => by
        have h1 := hall e he hb
        rw [heq, getD_both hun] at h1
        cases h1
      have h2 := wpOp_put_still hoj (hfree j oj hoj hji hjun hnot) (fun cs b => hsel i oi cs b hi) (fun cs b => hsel j oj cs b hoj) hQ hy h1
      have hfree' : ∀ k ok, ops[k]? = some ok → k ≠ i → (listed.setIfInBounds j true).getD k true = false →
          (∀ e ∈ ok.after, Region.binds md e = true → e.on ≠ i) → oi.apart ops ok = true := fun k ok hk hki hun hno => by
        refine hfree k ok hk hki ?_ hno
        by_cases hjk : j = k
        · subst hjk; exact hjun
        · rw [getD_set_ne true hjk] at hun; exact hun
      refine wpOp_mono (fun a' w' h3 => ⟨h3.2.1, ih (listed.setIfInBounds j true) a' w' (inv.set hj hjn) (h3.2.1 hjn) hfree' (ready_mono hr (Ne.symm hji)) h3.1 ?_⟩) h2
      rw [Array.setIfInBounds_comm _ _ hji]
      exact h3.2.2
theorem wpAnyC_headsA {g : Nat} {Lq : Act → Prop} {w : World} (hC : C w) (hsel : Region.noSelect ops = true) (hQ : ∀ (d : Option Tmp) v c a w, Q' (.panic c) (a.put d v) w → Q' (.panic c) a w) :
    ∀ (ks : List Nat) (listed : Array Bool) (a : Act), HeadInv md ops ops.size listed → headNums md ops ks listed = true →
    (∀ a', Lq a' → wpAnyC P md ops C ops.size Q' g (listAll ks listed) a' w) → wpTame P ops C Lq (headOps ops ks) a → wpAnyC P md ops C ops.size Q' (ks.length + g) listed a w
  | [], listed, a, _, _, hend, h => by rw [List.length_nil, Nat.zero_add]; exact hend a h
  | k :: ks, listed, a, inv, hB, hend, h => by
    simp only [headNums, Bool.and_eq_true] at hB
    obtain ⟨⟨hr, hf⟩, hB'⟩ := hB
    have hr' : k ∈ Region.ready md ops listed := by simpa using hr
    obtain ⟨_, o, h0, _⟩ := mem_ready.1 hr'
    have hk : k < ops.size := (Array.getElem?_eq_some_iff.1 h0).1
    unfold headOps at h
    rw [h0] at h
    obtain ⟨v, hy, hK⟩ := stillIn_of_tame h
    rw [List.length_cons, show ks.length + 1 + g = (ks.length + g) + 1 by omega]
    exact wpAnyC_firstA h0 (Region.noSelect_spec hsel) (fun c a w => hQ _ _ c a w) (ks.length + g) listed a w inv hC (Region.free_spec h0 hf) hr' hy
      (wpAnyC_headsA hC hsel hQ ks _ _ (inv.set hr' hk) hB' hend hK)
def allB (md : Region.Mode) (ops : Array Oper) (ks : List Nat) : Bool :=
  Region.noSelect ops && decide (ks.length ≤ ops.size) && headNums md ops ks (Array.replicate ops.size false)
theorem wp_region_all {id : Nat} {a : Act} {w : World} {l : List Oper} (ks : List Nat) (C : World → Prop) (hm : P.follows .mixedOrders = true) (hB : allB .any l.toArray ks = true) (hC : C { w with drawn := w.drawn + 1 })
    (hQ : ∀ (d : Option Tmp) v c a w, Q' (.panic c) (a.put d v) w → Q' (.panic c) a w)
    (hh : wpTame P l.toArray C (fun a' => wpAnyC P .any l.toArray C l.length Q' (l.length - ks.length) (listAll ks (Array.replicate l.length false)) a' { w with drawn := w.drawn + 1 }) (headOps l.toArray ks) a) : (Code.region id l.toArray true).wp P Q' a w := by
  simp only [allB, Bool.and_eq_true, decide_eq_true_eq] at hB
  obtain ⟨⟨hsel, hkl⟩, hnum⟩ := hB
  have inv0 : HeadInv .any l.toArray l.toArray.size (Array.replicate l.toArray.size false) :=
    ⟨by simp, fun j oj _ hl => (by rw [getD_replicate_false] at hl; cases hl), fun t ht ht2 => by omega⟩
  refine wp_region_any hm (wpAny_of_C (C := C) (n := l.toArray.size) _ _ _ _ ?_)
  have H := wpAnyC_headsA (md := .any) (ops := l.toArray) (P := P) (Q' := Q') (g := l.length - ks.length) hC hsel hQ ks (Array.replicate l.toArray.size false) a inv0 hnum (fun a' h => by simpa using h) hh
  have e : ks.length + (l.length - ks.length) = l.toArray.size := by simp at hkl ⊢; omega
  rwa [e] at H
theorem wpAnyC_done {n : Nat} {listed : Array Bool} {a : Act} {w : World} (hr : (Region.ready md ops listed == []) = true) (h : wpList P ops Q' [] a w) : wpAnyC P md ops C n Q' 0 listed a w :=
  ⟨by simpa using hr, h⟩
end
end Go.Proofs.YtahiahjhpakeiaaGreatDoor
namespace Go.Proofs.YtahiahjhpakeiaaGreatDoor
open Go.RowKit Go.Maps Go.Sort
set_option linter.unusedVariables false
set_option linter.unusedSimpArgs false

set_option linter.unusedSectionVars false
/-- The place ahead of place k, round the circle. -/
def prevK (n k : Nat) : Nat := if k = 0 then n - 1 else k - 1
theorem prevK_lt {n k : Nat} (h : k < n) : prevK n k < n := by unfold prevK; split <;> omega
theorem below_spec (s : List Int) (hs : Up s) (x : Int) : ∀ k, k < s.length → (nth s k < x ↔ k < below s x) := by
  induction s with
  | nil => intro k hk; simp at hk
  | cons y s ih =>
    have hp := List.pairwise_cons.1 hs
    intro k hk
    unfold below at *
    by_cases hy : y < x
    · rw [List.countP_cons_of_pos (by simpa using hy)]
      cases k with
      | zero => rw [nth_zero]; simp [hy]
      | succ k => rw [nth_succ, ih hp.2 k (by simpa using hk)]; omega
    · rw [List.countP_cons_of_neg (by simpa using hy)]
      have h0 : s.countP (fun z => decide (z < x)) = 0 := by
        rw [List.countP_eq_zero]
        intro z hz
        have := hp.1 z hz
        simp; omega
      rw [h0]
      cases k with
      | zero => rw [nth_zero]; simp [hy]
      | succ k =>
        rw [nth_succ]
        have hk' : k < s.length := by simpa using hk
        have := hp.1 _ (nth_mem.2 ⟨k, hk', rfl⟩)
        constructor
        · intro h; omega
        · intro h; omega
theorem ownerI_nat {s : List Int} (h : 0 < s.length) (x : Int) : ∃ i : Nat, i < s.length ∧ ownerI s x = i ∧ (i = if below s x = s.length then 0 else below s x) := by
  have := below_le s x
  refine ⟨if below s x = s.length then 0 else below s x, by split <;> omega, ?_, rfl⟩
  unfold ownerI
  rw [if_neg (by omega)]
  split <;> simp
/-- A place lies behind the one ahead of its owner, and of no other. -/
theorem parts_in {s : List Int} (hs : Up s) (hp : ∀ z ∈ s, isPlace z) {x : Int} (hx : isPlace x) {i : Nat} (ho : ownerI s x = i) (k : Nat) (hk : k < s.length) :
    inB x (nth s (prevK s.length k)) (nth s k) = decide (k = i) := by
  obtain ⟨i', hi', ho', hi2⟩ := ownerI_nat (s := s) (by omega) x
  have hii : i = i' := by omega
  subst hii
  have b := below_spec s hs x
  have hb := below_le s x
  have pk := hp _ (nth_mem.2 ⟨k, hk, rfl⟩)
  have pp := hp _ (nth_mem.2 ⟨_, prevK_lt hk, rfl⟩)
  have bk := b k hk
  have bp := b _ (prevK_lt hk)
  generalize hj : below s x = j at *
  by_cases h0 : k = 0
  · subst h0
    have hp0 : prevK s.length 0 = s.length - 1 := rfl
    rw [hp0] at bp pp ⊢
    by_cases h1 : s.length = 1
    · rw [h1]
      have : i = 0 := by omega
      subst this
      simp [inB]
    · have hlt := up_nth hs (i := 0) (j := s.length - 1) (by omega) (by omega)
      generalize nth s 0 = u at *
      generalize nth s (s.length - 1) = v at *
      rw [Bool.eq_iff_iff]
      unfold inB dist isPlace at *
      simp only [Bool.or_eq_true, Bool.and_eq_true, beq_iff_eq, bne_iff_ne, decide_eq_true_eq, ne_eq]
      split at hi2 <;> omega
  · have hp0 : prevK s.length k = k - 1 := by unfold prevK; rw [if_neg h0]
    rw [hp0] at bp pp ⊢
    have hlt := up_nth hs (i := k - 1) (j := k) (by omega) hk
    generalize nth s k = u at *
    generalize nth s (k - 1) = v at *
    rw [Bool.eq_iff_iff]
    unfold inB dist isPlace at *
    simp only [Bool.or_eq_true, Bool.and_eq_true, beq_iff_eq, bne_iff_ne, decide_eq_true_eq, ne_eq]
    split at hi2 <;> omega

/-- Which of the first k places is least far from x: -1: there is none. -/
def Best (s : List Int) (x : Int) (k : Nat) (b : Int) : Prop :=
  (k = 0 ∧ b = -1) ∨ ∃ j : Nat, j < k ∧ b = j ∧ (∀ i, i < j → dist x (nth s j) < dist x (nth s i)) ∧ ∀ i, i < k → dist x (nth s j) ≤ dist x (nth s i)
theorem best_first {s : List Int} {x : Int} {k : Nat} (h : Best s x k (-1)) : k = 0 := by
  rcases h with ⟨h, _⟩ | ⟨j, _, h, _⟩
  · exact h
  · omega
theorem best_start {s : List Int} {x : Int} {k : Nat} (h : k = 0) : Best s x (k + 1) k := by
  subst h
  refine Or.inr ⟨0, by omega, rfl, fun i hi => absurd hi (by omega), fun i hi => ?_⟩
  have : i = 0 := by omega
  subst this
  exact Int.le_refl _
theorem best_take {s : List Int} {x : Int} {k j : Nat} (h : Best s x k j) (hd : dist x (nth s k) < dist x (nth s j)) : Best s x (k + 1) k := by
  rcases h with ⟨_, h⟩ | ⟨j', h1, h2, h3, h4⟩
  · omega
  · have : j = j' := by omega
    subst this
    refine Or.inr ⟨k, by omega, rfl, fun i hi => ?_, fun i hi => ?_⟩
    · have := h4 i hi; omega
    · by_cases e : i = k
      · subst e; exact Int.le_refl _
      · have := h4 i (by omega); omega
theorem best_skip {s : List Int} {x : Int} {k j : Nat} (h : Best s x k j) (hd : ¬ dist x (nth s k) < dist x (nth s j)) : Best s x (k + 1) j := by
  rcases h with ⟨_, h⟩ | ⟨j', h1, h2, h3, h4⟩
  · omega
  · have : j = j' := by omega
    subst this
    refine Or.inr ⟨j, by omega, rfl, h3, fun i hi => ?_⟩
    by_cases e : i = k
    · subst e; omega
    · exact h4 i (by omega)
theorem best_all {s : List Int} (hs : Up s) (hp : ∀ z ∈ s, isPlace z) {x : Int} (hx : isPlace x) {b : Int} (h : Best s x s.length b) : b = ownerI s x := by
  rcases h with ⟨h, rfl⟩ | ⟨j, hj, rfl, h3, h4⟩
  · unfold ownerI; rw [if_pos h]
  · obtain ⟨i, hi, ho, hi2⟩ := ownerI_nat (s := s) (by omega) x
    rw [ho]
    have b := below_spec s hs x
    have hb := below_le s x
    have h1 := h4 i hi
    have hij : dist x (nth s i) ≤ dist x (nth s j) := by
      have pi := hp _ (nth_mem.2 ⟨i, hi, rfl⟩)
      have pj := hp _ (nth_mem.2 ⟨j, hj, rfl⟩)
      have bi := b i hi
      have bj := b j hj
      have hm : i ≤ j → nth s i ≤ nth s j := fun h => by
        rcases Nat.eq_or_lt_of_le h with rfl | h
        · exact Int.le_refl _
        · exact Int.le_of_lt (up_nth hs h hj)
      generalize hbe : below s x = c at *
      generalize nth s i = u at *
      generalize nth s j = v at *
      unfold dist isPlace at *
      split at hi2 <;> omega
    have hjj : ¬ i < j := fun h => by have := h3 i h; omega
    have hii : ¬ j < i := fun h => by
      have h5 := up_nth hs h hi
      have e : dist x (nth s i) = dist x (nth s j) := by omega
      have pi := hp _ (nth_mem.2 ⟨i, hi, rfl⟩)
      have pj := hp _ (nth_mem.2 ⟨j, hj, rfl⟩)
      generalize nth s i = u at *
      generalize nth s j = v at *
      unfold dist isPlace at *
      omega
    omega

section
variable {f : RS} (I : Inv f)
include I
theorem ids_place : ∀ z ∈ (circ f).map (idR f), isPlace z := fun z hz => by
  obtain ⟨n, _, rfl⟩ := List.mem_map.1 hz
  exact place_id I.dom n
theorem nth_ids {k : Nat} (hk : k < (circ f).length) : nth ((circ f).map (idR f)) k = idR f (nth (circ f) k) := by
  unfold nth; simp [hk]
/-- Who lives and is least far is the owner. -/
theorem owner_best {x : Int} (hx : isPlace x) {n : Int} (hn : livesR f n = true) (h : ∀ y, livesR f y = true → dist x (idR f n) ≤ dist x (idR f y)) : cOwner (circ f) ((circ f).map (idR f)) x = n := by
  obtain ⟨j, hj, rfl⟩ := nth_mem.1 ((circ_mem I).2 hn)
  have hb : Best ((circ f).map (idR f)) x ((circ f).map (idR f)).length j := by
    refine Or.inr ⟨j, by simpa using hj, rfl, fun i hi => ?_, fun i hi => ?_⟩
    · have hi2 : i < (circ f).length := by omega
      rw [nth_ids I hj, nth_ids I hi2]
      have h1 := h _ ((circ_mem I).1 (nth_mem.2 ⟨i, hi2, rfl⟩))
      have h2 := circ_mono I hi hj
      have p1 := place_id I.dom (nth (circ f) i)
      have p2 := place_id I.dom (nth (circ f) j)
      generalize idR f (nth (circ f) i) = u at *
      generalize idR f (nth (circ f) j) = v at *
      unfold dist isPlace at *
      omega
    · have hi2 : i < (circ f).length := by simpa using hi
      rw [nth_ids I hj, nth_ids I hi2]
      exact h _ ((circ_mem I).1 (nth_mem.2 ⟨i, hi2, rfl⟩))
  have hu : Up ((circ f).map (idR f)) := circ_up I
  have e := best_all hu (ids_place I) hx hb
  unfold cOwner
  rw [← e, if_neg (by omega)]
  rfl
/-- Which member of the circle it is. -/
theorem cAt_nat (x : Int) : ∃ i : Nat, i < (circ f).length ∧ cAt (circ f) x = nth (circ f) i ∧ cAt (circ f) (x + 1) = nth (circ f) ((i + 1) % (circ f).length) ∧ x % ((circ f).length : Int) = i := by
  have h4 : 4 ≤ (circ f).length := by rw [circ_len]; exact live4 I
  obtain ⟨i, hi⟩ : ∃ i : Nat, x % ((circ f).length : Int) = i := ⟨(x % ((circ f).length : Int)).toNat, by have := Int.emod_nonneg x (show ((circ f).length : Int) ≠ 0 by omega); omega⟩
  have hil : i < (circ f).length := by have := Int.emod_lt_of_pos x (show (0 : Int) < ((circ f).length : Int) by omega); omega
  have e1 : cAt (circ f) x = nth (circ f) i := by unfold cAt; rw [hi]; rfl
  have e2 : cAt (circ f) (x + 1) = nth (circ f) ((i + 1) % (circ f).length) := by
    unfold cAt
    rw [← Int.emod_add_emod, hi]
    congr 1
  exact ⟨i, hil, e1, e2, hi⟩
theorem cAt_lives (x : Int) : livesR f (cAt (circ f) x) = true := by
  obtain ⟨i, hi, e, _⟩ := cAt_nat I x
  rw [e]; exact (circ_mem I).1 (nth_mem.2 ⟨i, hi, rfl⟩)
theorem cAt_ne (x : Int) : cAt (circ f) (x + 1) ≠ cAt (circ f) x := fun e => by
  have h4 : 4 ≤ (circ f).length := by rw [circ_len]; exact live4 I
  obtain ⟨i, hi, e1, e2, _⟩ := cAt_nat I x
  rw [e1, e2] at e
  rcases Nat.lt_or_ge (i + 1) (circ f).length with h | h
  · rw [Nat.mod_eq_of_lt h] at e
    have := circ_mono I (Nat.lt_succ_self i) h
    rw [e] at this; omega
  · rw [show i + 1 = (circ f).length by omega, Nat.mod_self] at e
    have := circ_mono I (a := 0) (b := i) (by omega) hi
    rw [e] at this; omega
/-- Nobody is nearer behind a member than the next one. -/
theorem next_near (x : Int) {y : Int} (hy : livesR f y = true) (hne : y ≠ cAt (circ f) x) : dist (idR f (cAt (circ f) x)) (idR f (cAt (circ f) (x + 1))) ≤ dist (idR f (cAt (circ f) x)) (idR f y) := by
  have h4 : 4 ≤ (circ f).length := by rw [circ_len]; exact live4 I
  obtain ⟨i, hi, e1, e2, _⟩ := cAt_nat I x
  rw [e1] at hne ⊢
  rw [e2]
  obtain ⟨j, hj, rfl⟩ := nth_mem.1 ((circ_mem I).2 hy)
  have hij : j ≠ i := fun e => hne (by rw [e])
  have p1 := place_id I.dom (nth (circ f) i)
  have p2 := place_id I.dom (nth (circ f) j)
  have p3 := place_id I.dom (nth (circ f) ((i + 1) % (circ f).length))
  rcases Nat.lt_or_ge (i + 1) (circ f).length with h | h
  · rw [Nat.mod_eq_of_lt h] at p3 ⊢
    have m1 := circ_mono I (Nat.lt_succ_self i) h
    rcases Nat.lt_or_ge j i with h1 | h1
    · have m2 := circ_mono I h1 hi
      generalize idR f (nth (circ f) i) = u at *
      generalize idR f (nth (circ f) j) = v at *
      generalize idR f (nth (circ f) (i + 1)) = t at *
      unfold dist isPlace at *
      omega
    · have m2 : idR f (nth (circ f) (i + 1)) ≤ idR f (nth (circ f) j) := by
        rcases Nat.eq_or_lt_of_le (show i + 1 ≤ j by omega) with h2 | h2
        · rw [h2]; exact Int.le_refl _
        · exact Int.le_of_lt (circ_mono I h2 hj)
      generalize idR f (nth (circ f) i) = u at *
      generalize idR f (nth (circ f) j) = v at *
      generalize idR f (nth (circ f) (i + 1)) = t at *
      unfold dist isPlace at *
      omega
  · rw [show i + 1 = (circ f).length by omega, Nat.mod_self] at p3 ⊢
    have m1 := circ_mono I (a := j) (b := i) (by omega) hi
    have m2 : idR f (nth (circ f) 0) ≤ idR f (nth (circ f) j) := by
      rcases Nat.eq_or_lt_of_le (Nat.zero_le j) with h2 | h2
      · rw [← h2]; exact Int.le_refl _
      · exact Int.le_of_lt (circ_mono I h2 hj)
    generalize idR f (nth (circ f) i) = u at *
    generalize idR f (nth (circ f) j) = v at *
    generalize idR f (nth (circ f) 0) = t at *
    unfold dist isPlace at *
    omega
/-- The owner of the place behind a member is the next one. -/
theorem owner_next (x : Int) : cOwner (circ f) ((circ f).map (idR f)) ((idR f (cAt (circ f) x) + 1) % 18446744073709551616) = cAt (circ f) (x + 1) := by
  refine owner_best I (by unfold isPlace; omega) (cAt_lives I _) fun y hy => ?_
  have pn := place_id I.dom (cAt (circ f) x)
  have py := place_id I.dom y
  have ph := place_id I.dom (cAt (circ f) (x + 1))
  have hh : idR f (cAt (circ f) (x + 1)) ≠ idR f (cAt (circ f) x) := fun e => cAt_ne I x (I.uniq _ _ (cAt_lives I _) (cAt_lives I _) e)
  by_cases e : y = cAt (circ f) x
  · rw [e]
    generalize idR f (cAt (circ f) x) = u at *
    generalize idR f (cAt (circ f) (x + 1)) = t at *
    unfold dist isPlace at *
    omega
  · have h1 := next_near I x hy e
    have h2 : idR f y ≠ idR f (cAt (circ f) x) := fun e2 => e (I.uniq _ _ hy (cAt_lives I _) e2)
    generalize idR f (cAt (circ f) x) = u at *
    generalize idR f (cAt (circ f) (x + 1)) = t at *
    generalize idR f y = v at *
    unfold dist isPlace at *
    omega
/-- The owner of a member's own place is it. -/
theorem owner_self {n : Int} (hn : livesR f n = true) : cOwner (circ f) ((circ f).map (idR f)) (idR f n) = n := by
  refine owner_best I (place_id I.dom n) hn fun y hy => ?_
  have pn := place_id I.dom n
  have py := place_id I.dom y
  generalize idR f n = u at *
  generalize idR f y = v at *
  unfold dist isPlace at *
  omega
end

set_option linter.unusedSectionVars false
section
variable {f : RS} (I : Inv f)
include I
theorem circ_nodup : (circ f).Nodup := by
  refine List.pairwise_iff_getElem.2 fun i j hi hj hij e => ?_
  have := circ_mono I hij hj
  rw [nth_eq hj, nth_eq hi, e] at this
  omega
theorem cAt_idx (x : Int) : idxI (circ f) (cAt (circ f) x) = x % ((circ f).length : Int) := by
  obtain ⟨i, hi, e1, _, e2⟩ := cAt_nat I x
  rw [e1, idxI_at (circ_nodup I) hi, e2]
theorem cAt_mod (x y : Int) : cAt (circ f) (x % ((circ f).length : Int) + y) = cAt (circ f) (x + y) := by
  unfold cAt
  rw [Int.emod_add_emod]
theorem cAt_inj {x y : Int} (h : cAt (circ f) x = cAt (circ f) y) : x % ((circ f).length : Int) = y % ((circ f).length : Int) := by
  rw [← cAt_idx I, ← cAt_idx I, h]
theorem cAt_zero : ∃ i0 : Nat, i0 < (circ f).length ∧ cAt (circ f) i0 = 0 := by
  obtain ⟨i, hi, e⟩ := nth_mem.1 ((circ_mem I).2 (I.base 0 (by omega) (by omega)))
  refine ⟨i, hi, ?_⟩
  unfold cAt
  rw [show ((i : Int) % ((circ f).length : Int)).toNat = i by rw [Int.emod_eq_of_lt (by omega) (by omega)]; simp]
  exact e
/-- What a member of the circle is told. -/
theorem know_at (x : Int) {w w' : World} {e : Ending} (h : KnowPost w (circ f) ((circ f).map (idR f)) (cAt (circ f) x) e w') :
    ∃ (v : Value) (l : List Int), e = .returned (.tuple #[.agg #[.int .u64 (idR f (cAt (circ f) x)), .int .i64 (cAt (circ f) (x - 1)), v], .bool true]) ∧ l.length = 3 ∧ nth l 0 = cAt (circ f) (x + 1) ∧
      l = [cAt (circ f) (x + 1), cAt (circ f) (x + 2), cAt (circ f) (x + 3)] ∧ SlAt w.heap.size (fun i => .int .i64 (nth l i)) 3 w' v ∧ RowKit.Below w.heap.size w w' := by
  have h4 : 4 ≤ (circ f).length := by rw [circ_len]; exact live4 I
  have hge : ¬ idxI (circ f) (cAt (circ f) x) < 0 := by rw [cAt_idx I]; have := Int.emod_nonneg x (show ((circ f).length : Int) ≠ 0 by omega); omega
  obtain ⟨v, rfl, hs, hb⟩ := h.yes hge
  have hn : cNum (circ f) = 3 := by unfold cNum; omega
  rw [hn, cAt_idx I] at hs
  rw [cAt_idx I]
  obtain ⟨i, hi, e1, _, e2⟩ := cAt_nat I x
  have l0 : cSuc (circ f) (x % ((circ f).length : Int)) 3 = [cAt (circ f) (x + 1), cAt (circ f) (x + 2), cAt (circ f) (x + 3)] := by
    simp only [cSuc, List.range_succ, List.range_zero, List.nil_append, List.map_append, List.map_cons, List.map_nil, List.cons_append]
    rw [show x % ((circ f).length : Int) + 1 + ((0 : Nat) : Int) = x % ((circ f).length : Int) + 1 by omega, show x % ((circ f).length : Int) + 1 + ((1 : Nat) : Int) = x % ((circ f).length : Int) + 2 by omega, show x % ((circ f).length : Int) + 1 + ((2 : Nat) : Int) = x % ((circ f).length : Int) + 3 by omega, cAt_mod I, cAt_mod I, cAt_mod I]
  rw [l0] at hs
  refine ⟨v, _, ?_, rfl, rfl, rfl, hs, hb⟩
  rw [show x % ((circ f).length : Int) - 1 = x % ((circ f).length : Int) + (-1) by omega, cAt_mod I, show x + -1 = x - 1 by omega, e2, e1]
  rw [show ((i : Int)).toNat = i by simp, nth_ids I hi]
end

theorem cAt_of {f : RS} (I : Inv f) {n : Int} (h : livesR f n = true) : ∃ x : Nat, n = cAt (circ f) x := by
  obtain ⟨i, hi, rfl⟩ := nth_mem.1 ((circ_mem I).2 h)
  refine ⟨i, ?_⟩
  unfold cAt
  rw [Int.emod_eq_of_lt (by omega) (by omega)]; simp
theorem owner_lives {f : RS} (I : Inv f) (X : Int) : livesR f (cOwner (circ f) ((circ f).map (idR f)) X) = true := by
  have h4 : 4 ≤ (circ f).length := by rw [circ_len]; exact live4 I
  have hlen : ((circ f).map (idR f)).length = (circ f).length := by simp
  obtain ⟨i, hi, ho, _⟩ := ownerI_nat (s := (circ f).map (idR f)) (by omega) X
  unfold cOwner
  rw [ho, if_neg (by omega)]
  exact (circ_mem I).1 (nth_mem.2 ⟨i, by omega, rfl⟩)
/-- A place lies behind the one ahead of its owner, and of no other. -/
theorem owns_in {f : RS} (I : Inv f) {X : Int} (hX : isPlace X) (x : Int) : (cOwner (circ f) ((circ f).map (idR f)) X == cAt (circ f) x) = inB X (idR f (cAt (circ f) (x - 1))) (idR f (cAt (circ f) x)) := by
  have h4 : 4 ≤ (circ f).length := by rw [circ_len]; exact live4 I
  obtain ⟨k, hk, e1, _, e2⟩ := cAt_nat I x
  have hlen : ((circ f).map (idR f)).length = (circ f).length := by simp
  obtain ⟨i, hi, ho, _⟩ := ownerI_nat (s := (circ f).map (idR f)) (by omega) X
  have hin := parts_in (circ_up I) (ids_place I) hX ho k (by omega)
  rw [hlen] at hin hi
  have hpk := prevK_lt hk
  rw [nth_ids I hpk, nth_ids I hk] at hin
  have hprev : cAt (circ f) (x - 1) = nth (circ f) (prevK (circ f).length k) := by
    rw [show x - 1 = x + (-1) by omega, ← cAt_mod I, e2]
    unfold cAt prevK
    by_cases h0 : k = 0
    · rw [if_pos h0, h0, show ((0 : Nat) : Int) + -1 = ((circ f).length - 1 : Nat) - ((circ f).length : Int) by omega, Int.sub_emod_right, Int.emod_eq_of_lt (by omega) (by omega)]; simp
    · rw [if_neg h0, show (k : Int) + -1 = ((k - 1 : Nat) : Int) by omega, Int.emod_eq_of_lt (by omega) (by omega)]; simp
  have hlhs : (cOwner (circ f) ((circ f).map (idR f)) X == cAt (circ f) x) = decide (k = i) := by
    unfold cOwner
    rw [ho, if_neg (by omega), e1, show ((i : Int)).toNat = i by simp, Bool.eq_iff_iff, beq_iff_eq, decide_eq_true_eq]
    constructor
    · intro e
      rcases Nat.lt_trichotomy i k with h | h | h
      · have := circ_mono I h hk; rw [e] at this; omega
      · exact h.symm
      · have := circ_mono I h hi; rw [e] at this; omega
    · intro e; rw [e]
  rw [hlhs, ← hin, ← hprev, ← e1]

/-! ### Who is next -/
def ownsR (f : RS) (n x : Int) : Bool := predR f n != -1 && (livesR f (predR f n) && inB x (idR f (predR f n)) (idR f n))
def betterR (f : RS) (n x best q : Int) : Bool := nearR f q (idR f best) n && withinB (idR f q) (idR f best) x
def pickR (f : RS) (n x best q : Int) : Int := if betterR f n x best q then q else best
def nextR (f : RS) (F : Int → List Int) (n x : Int) : Int :=
  if (idR f n == x || ownsR f n x) = true then n
  else if inB x (idR f n) (idR f (headR f n)) = true then headR f n
  else (succR f n ++ F n).foldl (pickR f n x) (headR f n)
theorem pick_lives {f : RS} (n x : Int) {b : Int} (h : livesR f b = true) (q : Int) : livesR f (pickR f n x b q) = true := by
  unfold pickR
  split
  · rename_i h2
    unfold betterR nearR at h2
    simp only [Bool.and_eq_true] at h2
    exact h2.1.1.2
  · exact h
theorem picks_lives {f : RS} (n x : Int) : ∀ (l : List Int) {b : Int}, livesR f b = true → livesR f (l.foldl (pickR f n x) b) = true
  | [], _, h => h
  | q :: l, _, h => picks_lives n x l (pick_lives n x h q)
theorem next_lives {f : RS} (hh : Heads f) (F : Int → List Int) {n : Int} (hn : livesR f n = true) (x : Int) : livesR f (nextR f F n x) = true := by
  unfold nextR
  split
  · exact hn
  · split
    · exact hh n hn
    · exact picks_lives n x _ (hh n hn)

/-! ### The way -/
def pathR (nx : Int → Int) : Nat → Int → Option (List Int)
  | 0, _ => none
  | k + 1, n => if nx n = n then some [n] else (pathR nx k (nx n)).map (n :: ·)
theorem path_mono {nx : Int → Int} : ∀ (k : Nat) (n : Int) (l : List Int), pathR nx k n = some l → pathR nx (k + 1) n = some l
  | 0, n, l, h => by cases h
  | k + 1, n, l, h => by
    unfold pathR at h ⊢
    by_cases e : nx n = n
    · rw [if_pos e] at h ⊢; exact h
    · rw [if_neg e] at h ⊢
      cases hp : pathR nx k (nx n) with
      | none => rw [hp] at h; cases h
      | some m => rw [hp] at h; rw [path_mono k _ _ hp]; exact h
theorem path_more {nx : Int → Int} {k : Nat} {n : Int} {l : List Int} (h : pathR nx k n = some l) : ∀ (j : Nat), k ≤ j → pathR nx j n = some l := fun j hj => by
  induction j with
  | zero => rw [show k = 0 by omega] at h; exact h
  | succ j ih =>
    rcases Nat.lt_or_ge j k with h1 | h1
    · rw [show j + 1 = k by omega]; exact h
    · exact path_mono _ _ _ (ih h1)
/-- What a way is. -/
structure IsWay (nx : Int → Int) (n : Int) (l : List Int) : Prop where
  pos : 0 < l.length
  first : nth l 0 = n
  step : ∀ i, i + 1 < l.length → nx (nth l i) = nth l (i + 1)
  last : ∀ i, i + 1 = l.length → nx (nth l i) = nth l i
theorem path_way {nx : Int → Int} : ∀ (k : Nat) (n : Int) (l : List Int), pathR nx k n = some l → IsWay nx n l ∧ l.length ≤ k
  | 0, n, l, h => by cases h
  | k + 1, n, l, h => by
    unfold pathR at h
    by_cases e : nx n = n
    · rw [if_pos e] at h
      cases h
      refine ⟨⟨by simp, rfl, fun i hi => ?_, fun i hi => ?_⟩, by simp⟩
      · simp at hi
      · simp at hi; subst hi; exact e
    · rw [if_neg e] at h
      cases hp : pathR nx k (nx n) with
      | none => rw [hp] at h; cases h
      | some m =>
        rw [hp] at h
        cases h
        obtain ⟨W, hl⟩ := path_way k _ _ hp
        refine ⟨⟨by simp, rfl, fun i hi => ?_, fun i hi => ?_⟩, by simp; omega⟩
        · cases i with
          | zero => rw [nth_zero, nth_succ, W.first]
          | succ i => rw [nth_succ, nth_succ]; exact W.step i (by simpa using hi)
        · cases i with
          | zero => have := W.pos; simp at hi; simp [hi] at this
          | succ i => rw [nth_succ]; exact W.last i (by simpa using hi)
/-- Behind a member of the way the way goes on so. -/
theorem path_rest {nx : Int → Int} : ∀ (k : Nat) (n : Int) (l : List Int), pathR nx k n = some l → ∀ i, i < l.length → pathR nx k (nth l i) = some (l.drop i)
  | 0, n, l, h => by cases h
  | k + 1, n, l, h => fun i hi => by
    have h0 := h
    unfold pathR at h
    by_cases e : nx n = n
    · rw [if_pos e] at h
      cases h
      simp at hi
      subst hi
      exact h0
    · rw [if_neg e] at h
      cases hp : pathR nx k (nx n) with
      | none => rw [hp] at h; cases h
      | some m =>
        rw [hp] at h
        cases h
        cases i with
        | zero => exact h0
        | succ i => rw [nth_succ, List.drop_succ_cons]; exact path_mono _ _ _ (path_rest k _ _ hp i (by simpa using hi))
/-- The loop that finds it: what is told ahead, and where it is. -/
theorem path_loop {nx : Int → Int} {n0 : Int} {K : Nat} {pre : List Int} {n : Int} {j : Nat} (h : pathR nx K n0 = (pathR nx (j + 1) n).map (pre ++ ·)) :
    (nx n = n → pathR nx K n0 = some (pre ++ [n])) ∧ (nx n ≠ n → pathR nx K n0 = (pathR nx j (nx n)).map ((pre ++ [n]) ++ ·)) := by
  have hd : pathR nx (j + 1) n = if nx n = n then some [n] else (pathR nx j (nx n)).map (n :: ·) := rfl
  constructor
  · intro e
    rw [h, hd, if_pos e]; rfl
  · intro e
    rw [h, hd, if_neg e, Option.map_map]
    congr 1
    funext l
    simp
def lastL (l : List Int) : Int := nth l (l.length - 1)
/-- A finger more, unless it is the last one. -/
def addF (l : List Int) (o : Int) : List Int := if 0 < l.length ∧ lastL l = o then l else l ++ [o]
def startR (x : Int) (k : Nat) : Int := (x + 2 ^ k) % 18446744073709551616
theorem place_start (x : Int) (k : Nat) : isPlace (startR x k) := by unfold isPlace startR; omega
def fixS (f : RS) (F : Int → List Int) (n : Int) (l : List Int) (k : Nat) : List Int :=
  match pathR (fun m => nextR f F m (startR (idR f n) k)) 65 n with
  | some way => addF l (lastL way)
  | none => l
def fixN (f : RS) (F : Int → List Int) (n : Int) (k : Nat) : List Int := (List.range k).foldl (fixS f F n) []
def fixR (f : RS) (F : Int → List Int) (n : Int) : List Int := fixN f F n 64
theorem fixN_succ (f : RS) (F : Int → List Int) (n : Int) (k : Nat) : fixN f F n (k + 1) = fixS f F n (fixN f F n k) k := by unfold fixN; rw [List.range_succ, List.foldl_append]; rfl
def setL (F : Int → List Int) (n : Int) (l : List Int) : Int → List Int := fun j => if j = n then l else F j
def fix1 (f : RS) (F : Int → List Int) (n : Int) : Int → List Int := setL F n (fixR f F n)
def fixes (f : RS) (F : Int → List Int) (l : List Int) : Int → List Int := l.foldl (fix1 f) F
theorem fixes_snoc (f : RS) (F : Int → List Int) (l : List Int) (n : Int) : fixes f F (l ++ [n]) = fix1 f (fixes f F l) n := by unfold fixes; rw [List.foldl_append]; rfl
theorem addF_len (l : List Int) (o : Int) : (addF l o).length ≤ l.length + 1 := by unfold addF; split <;> simp
theorem fixN_len (f : RS) (F : Int → List Int) (n : Int) (k : Nat) : (fixN f F n k).length ≤ k := by
  induction k with
  | zero => simp [fixN]
  | succ k ih =>
    rw [fixN_succ]
    unfold fixS
    split
    · have := addF_len (fixN f F n k) (lastL ‹_›); omega
    · omega
theorem path_lives {f : RS} (hh : Heads f) (F : Int → List Int) (x : Int) : ∀ (k : Nat) (n : Int) (l : List Int), livesR f n = true → pathR (fun m => nextR f F m x) k n = some l → ∀ y ∈ l, livesR f y = true
  | 0, n, l, hn, h => by cases h
  | k + 1, n, l, hn, h => by
    unfold pathR at h
    by_cases e : nextR f F n x = n
    · rw [if_pos e] at h
      cases h
      intro y hy
      simp at hy; rw [hy]; exact hn
    · rw [if_neg e] at h
      cases hp : pathR (fun m => nextR f F m x) k (nextR f F n x) with
      | none => rw [hp] at h; cases h
      | some m =>
        rw [hp] at h
        cases h
        intro y hy
        rcases List.mem_cons.1 hy with rfl | hy
        · exact hn
        · exact path_lives hh F x k _ _ (next_lives hh F hn x) hp y hy
theorem lastL_mem {l : List Int} (h : 0 < l.length) : lastL l ∈ l := nth_mem.2 ⟨l.length - 1, by omega, rfl⟩
theorem fixN_lives {f : RS} (hh : Heads f) (F : Int → List Int) {n : Int} (hn : livesR f n = true) (k : Nat) : ∀ y ∈ fixN f F n k, livesR f y = true := by
  induction k with
  | zero => intro y hy; simp [fixN] at hy
  | succ k ih =>
    rw [fixN_succ]
    unfold fixS
    split
    · rename_i way hw
      have hl := path_lives hh F _ _ _ _ hn hw _ (lastL_mem (path_way _ _ _ hw).1.pos)
      intro y hy
      unfold addF at hy
      split at hy
      · exact ih y hy
      · rcases List.mem_append.1 hy with hy | hy
        · exact ih y hy
        · simp at hy; rw [hy]; exact hl
    · exact ih

/-! ### Where all is as it should be -/
structure Good (f : RS) : Prop where
  inv : Inv f
  hr : AllHr f
  pr : AllPr f
theorem good_rn {f : RS} (I : Inv f) {j : Nat} (h : 4 * (liveL f).length + 8 ≤ j) : Good (rn j f) := by
  refine ⟨inv_rn I _, ?_, ?_⟩
  · have := rn_hr I (j - 2 * (liveL f).length)
    rwa [show 2 * (liveL f).length + (j - 2 * (liveL f).length) = j by omega] at this
  · have := rn_pr I (j - 2 * (liveL f).length - 1)
    rwa [show 2 * (liveL f).length + (j - 2 * (liveL f).length - 1 + 1) = j by omega] at this
abbrev own (f : RS) (X : Int) : Int := cOwner (circ f) ((circ f).map (idR f)) X
theorem dist_step {n b X : Int} (pn : isPlace n) (pb : isPlace b) (pX : isPlace X) (h : dist n b < dist n X) (h0 : dist n b ≠ 0) : dist b X < dist n X := by
  unfold isPlace at *
  unfold dist at *
  omega
section
variable {f : RS} (G : Good f)
include G
theorem good_pred (x : Int) : predR f (cAt (circ f) x) = cAt (circ f) (x - 1) := by
  have h := head_cAt G.inv G.hr (x - 1)
  have h2 := G.pr _ h.2
  unfold Pr at h2
  rw [h.1, show x - 1 + 1 = x by omega] at h2
  exact h2
theorem good_owns {X : Int} (hX : isPlace X) {n : Int} (hn : livesR f n = true) : (idR f n == X || ownsR f n X) = (own f X == n) := by
  obtain ⟨x, rfl⟩ := cAt_of G.inv hn
  have hp := good_pred G x
  have hl := cAt_lives G.inv ((x : Int) - 1)
  have hne : cAt (circ f) ((x : Int) - 1) ≠ -1 := fun e => by rw [e, livesR_neg G.inv.dom] at hl; cases hl
  have ho : ownsR f (cAt (circ f) x) X = (own f X == cAt (circ f) x) := by
    unfold own
    rw [owns_in G.inv hX]
    unfold ownsR
    rw [hp, hl]
    simp [hne]
  rw [ho]
  by_cases e : idR f (cAt (circ f) x) = X
  · rw [← e]
    have := owner_self G.inv hn
    unfold own
    rw [this]; simp
  · simp [e]
theorem good_head {X : Int} (hX : isPlace X) {n : Int} (hn : livesR f n = true) : inB X (idR f n) (idR f (headR f n)) = (own f X == headR f n) := by
  obtain ⟨x, rfl⟩ := cAt_of G.inv hn
  have h := head_cAt G.inv G.hr x
  have := owns_in G.inv hX ((x : Int) + 1)
  rw [show (x : Int) + 1 - 1 = x by omega] at this
  rw [h.1]
  exact this.symm
theorem picks_near {X : Int} (hX : isPlace X) {n : Int} : ∀ (l : List Int) {b : Int}, (livesR f b = true ∧ dist (idR f n) (idR f b) < dist (idR f n) X ∧ dist (idR f n) (idR f b) ≠ 0) →
    (dist (idR f n) (idR f (l.foldl (pickR f n X) b)) < dist (idR f n) X ∧ dist (idR f n) (idR f (l.foldl (pickR f n X) b)) ≠ 0)
  | [], _, h => h.2
  | q :: l, b, h => by
    refine picks_near hX l ?_
    unfold pickR
    split
    · rename_i h2
      unfold betterR nearR at h2
      simp only [Bool.and_eq_true] at h2
      refine ⟨h2.1.1.2, ?_⟩
      have h3 := h2.2
      have pn := place_id G.inv.dom n
      have pb := place_id G.inv.dom b
      have pq := place_id G.inv.dom q
      have hh := h.2
      unfold withinB at h3
      generalize idR f n = u at *
      generalize idR f b = v at *
      generalize idR f q = t at *
      split at h3
      · rename_i e
        rw [beq_iff_eq] at e
        unfold dist at hh
        rw [e] at hh; omega
      · simp only [Bool.and_eq_true, bne_iff_ne, decide_eq_true_eq] at h3
        unfold isPlace at *
        unfold dist at *
        omega
    · exact h
/-- Who is next: the member itself if it is the owner; the owner; or one that lies nearer. -/
theorem good_next (F : Int → List Int) {X : Int} (hX : isPlace X) {n : Int} (hn : livesR f n = true) :
    (own f X = n ∧ nextR f F n X = n) ∨ (own f X ≠ n ∧ nextR f F n X = own f X) ∨ (own f X ≠ n ∧ nextR f F n X ≠ n ∧ livesR f (nextR f F n X) = true ∧ dist (idR f (nextR f F n X)) X < dist (idR f n) X) := by
  have h1 := good_owns G hX hn
  have h2 := good_head G hX hn
  by_cases e : own f X = n
  · refine Or.inl ⟨e, ?_⟩
    have ht : (idR f n == X || ownsR f n X) = true := by rw [h1, e]; simp
    unfold nextR; rw [if_pos ht]
  · have hf : ¬ (idR f n == X || ownsR f n X) = true := by rw [h1]; simpa using e
    refine Or.inr ?_
    by_cases e2 : own f X = headR f n
    · have ht : inB X (idR f n) (idR f (headR f n)) = true := by rw [h2, e2]; simp
      refine Or.inl ⟨e, ?_⟩
      unfold nextR; rw [if_neg hf, if_pos ht]; exact e2.symm
    · have hf2 : ¬ inB X (idR f n) (idR f (headR f n)) = true := by rw [h2]; simpa using e2
      have hl := next_lives G.inv.heads F hn X
      have pn := place_id G.inv.dom n
      have ph := place_id G.inv.dom (headR f n)
      have hhd := G.inv.head hn
      have hne : idR f n ≠ idR f (headR f n) := G.inv.head_ne hn
      have hnX : idR f n ≠ X := fun e3 => hf (by simp [e3])
      have hs : dist (idR f n) (idR f (headR f n)) < dist (idR f n) X ∧ dist (idR f n) (idR f (headR f n)) ≠ 0 := by
        unfold inB at hf2
        generalize idR f n = u at *
        generalize idR f (headR f n) = v at *
        simp only [Bool.or_eq_true, Bool.and_eq_true, beq_iff_eq, bne_iff_ne, decide_eq_true_eq, ne_eq, not_or, not_and] at hf2
        have h5 := hf2.2
        unfold isPlace at *
        unfold dist at *
        by_cases h0 : (X - u) % 18446744073709551616 = 0
        · omega
        · have := h5 h0; omega
      have hk := picks_near G hX (n := n) (succR f n ++ F n) ⟨hhd.2, hs⟩
      have hn' : nextR f F n X = (succR f n ++ F n).foldl (pickR f n X) (headR f n) := by unfold nextR; rw [if_neg hf, if_neg hf2]
      rw [← hn'] at hk
      refine Or.inr ⟨e, fun e3 => ?_, hl, dist_step pn (place_id G.inv.dom _) hX hk.1 hk.2⟩
      rw [e3] at hk
      exact hk.2 (by unfold dist; simp)
/-- The way to a place on such a ring. -/
structure GoodWay (f : RS) (X n : Int) (l : List Int) : Prop where
  lives : ∀ y ∈ l, livesR f y = true
  last : lastL l = own f X
  nodup : l.Nodup
  near : ∀ y ∈ l, y = own f X ∨ dist (idR f y) X ≤ dist (idR f n) X
  down : ∀ i, i + 2 < l.length → dist (idR f (nth l (i + 1))) X < dist (idR f (nth l i)) X
theorem good_way (F : Int → List Int) {X : Int} (hX : isPlace X) : ∀ (k : Nat) (n : Int), livesR f n = true → nearer f X n + 2 ≤ k → ∃ l, pathR (fun m => nextR f F m X) k n = some l ∧ GoodWay f X n l
  | 0, n, hn, hk => by omega
  | 1, n, hn, hk => by omega
  | k + 2, n, hn, hk => by
    have hol := owner_lives G.inv X
    rcases good_next G F hX hn with ⟨e1, e2⟩ | ⟨e1, e2⟩ | ⟨e1, e2, e3, e4⟩
    · refine ⟨[n], by unfold pathR; rw [if_pos e2], ⟨fun y hy => by simp at hy; rw [hy]; exact hn, e1.symm, by simp, fun y hy => by simp at hy; exact Or.inl (by rw [hy, e1]), fun i hi => by simp at hi⟩⟩
    · have hself : nextR f F (own f X) X = own f X := by
        rcases good_next G F hX hol with h | h | h
        · exact h.2
        · exact absurd rfl h.1
        · exact absurd rfl h.1
      refine ⟨[n, own f X], ?_, ⟨fun y hy => ?_, rfl, by simp; exact fun e => e1 e.symm, fun y hy => ?_, fun i hi => by have h2 : i + 2 < 2 := hi; omega⟩⟩
      · unfold pathR
        rw [if_neg (by rw [e2]; exact e1), e2]
        unfold pathR
        rw [if_pos hself]; rfl
      · simp at hy; rcases hy with rfl | rfl
        · exact hn
        · exact hol
      · simp at hy; rcases hy with rfl | rfl
        · exact Or.inr (Int.le_refl _)
        · exact Or.inl rfl
    · have hlt := nearer_lt G.inv.dom e3 e4
      obtain ⟨l, hl, W⟩ := good_way F hX (k + 1) _ e3 (by omega)
      have hway := (path_way _ _ _ hl).1
      refine ⟨n :: l, ?_, ⟨fun y hy => ?_, ?_, ?_, fun y hy => ?_, fun i hi => ?_⟩⟩
      · rw [pathR, if_neg e2, hl]; rfl
      · rcases List.mem_cons.1 hy with rfl | hy
        · exact hn
        · exact W.lives y hy
      · have := W.last
        unfold lastL at this ⊢
        have hp := hway.pos
        rw [List.length_cons, show l.length + 1 - 1 = (l.length - 1) + 1 by omega, nth_succ]; exact this
      · refine List.nodup_cons.2 ⟨fun hm => ?_, W.nodup⟩
        rcases W.near n hm with h | h
        · exact e1 h.symm
        · omega
      · rcases List.mem_cons.1 hy with rfl | hy
        · exact Or.inr (Int.le_refl _)
        · rcases W.near y hy with h | h
          · exact Or.inl h
          · exact Or.inr (by omega)
      · cases i with
        | zero => rw [nth_zero, nth_succ, hway.first]; exact e4
        | succ i => rw [nth_succ, nth_succ]; exact W.down i (by simp at hi; omega)
theorem good_path (F : Int → List Int) {X : Int} (hX : isPlace X) {n : Int} (hn : livesR f n = true) : ∃ l, pathR (fun m => nextR f F m X) 65 n = some l ∧ GoodWay f X n l :=
  good_way G F hX 65 n hn (by have := nearer_le f X n; omega)
theorem good_len {X n : Int} {l : List Int} (W : GoodWay f X n l) : l.length ≤ (liveL f).length := by
  have := up_sub_len (liveL_up f) (sort_up W.nodup) fun x hx => (mem_liveL G.inv.dom).2 (W.lives x (List.mem_mergeSort.1 hx))
  rwa [List.length_mergeSort] at this
/-- Its fingers are those that should be. -/
theorem good_fixN (F : Int → List Int) {n : Int} (hn : livesR f n = true) (k : Nat) : fixN f F n k = ((List.range k).map fun j => own f (startR (idR f n) j)).foldl addF [] := by
  induction k with
  | zero => rfl
  | succ k ih =>
    rw [fixN_succ, List.range_succ, List.map_append, List.foldl_append, ← ih]
    obtain ⟨l, hl, W⟩ := good_path G F (place_start (idR f n) k) hn
    unfold fixS
    rw [hl]
    show addF _ (lastL l) = addF _ _
    rw [W.last]
end
end Go.Proofs.YtahiahjhpakeiaaGreatDoor
namespace Go.Proofs.YtahiahjhpakeiaaGreatDoor
open Go.RowKit Go.Maps Go.Sort Go.WideShapes Go.ChangeShapes Go.Deep
set_option linter.unusedVariables false
set_option linter.unusedSimpArgs false
attribute [local go_sem] later_cell later_frozen later_lt cell_set_off cell_set_block

/-- How many addresses have fingers. -/
def cntX (h : Int → Option Value) : Nat := ((List.range 32).map Int.ofNat).countP fun n => (h n).isSome
theorem cntX_le (h : Int → Option Value) : cntX h ≤ 32 := Nat.le_trans List.countP_le_length (by simp)
theorem cntX_set (h : Int → Option Value) {n : Int} (v : Value) (h0 : 0 ≤ n) (h1 : n < 32) : cntX (setX h n v) = if (h n).isSome then cntX h else cntX h + 1 := by
  unfold cntX
  split
  · rename_i hs
    refine countP_eq_of fun x _ => ?_
    by_cases e : x = n
    · rw [e, setX_same, hs]; rfl
    · rw [setX_ne _ _ e]
  · rename_i hs
    refine countP_one (n := n) (by simp [setX]) (by simpa using hs) (fun x hx => by rw [setX_ne _ _ hx]) (by decide) ?_
    exact List.mem_map.2 ⟨n.toNat, List.mem_range.2 (by omega), by simp; omega⟩
end Go.Proofs.YtahiahjhpakeiaaGreatDoor
