/-
  Maps from whole numbers to values; regions that draw their order; ways to the owner of a place: the plain law. No walk stands here. Who keeps what, and what goes where: the plain law. No walk stands here. The keepers of a group: the owner of its key, and the two behind it. The stable sort of no moves. What Plan asks of a circle and of lists: is a member there, the first of whom something is true, is a number among some.
-/
import Derived.Test.YtahiahjhpakeiaaGreatDoorKept1
import Derived.Test.YtahiahjhpakeiaaGreatDoorKept12
import Derived.Test.YtahiahjhpakeiaaGreatDoorKept14
import Derived.Test.YtahiahjhpakeiaaGreatDoorKept16
import Derived.Test.YtahiahjhpakeiaaGreatDoorKept2
import Derived.Maps.OwnSet
import Derived.Test.YtahiahjhpakeiaaGreatDoorRows
import Derived.LoopTactic
import Derived.Outline
section
namespace Go.Proofs.YtahiahjhpakeiaaGreatDoor
open Go.RowKit Go.Maps
set_option linter.unusedVariables false
set_option linter.unusedSimpArgs false

/-- How a value reads here: as itself. -/
def anyR (v : Value) : Option (DataW Value × List MemPlace) := some (.held v, [])
theorem anyR_inv {v u : Value} {ps : List MemPlace} (h : anyR v = some (.held u, ps)) : v = u := by unfold anyR at h; simpa using (Option.some.inj h |> congrArg Prod.fst)

section
variable {P : Program} {k : TypeId}
/-- Block mb holds a map of c entries, from numbers to values. -/
def MapX (P : Program) (k : TypeId) (w : World) (mb c : Nat) (f : Int → Option Value) : Prop :=
  ∃ D, w.ownsMap P k anyR mb c D ∧ Maps.size D = c ∧ (∀ i, okInt i → ∀ z, D.atKey (.int .i64 i) (.held z) = .held ((f i).getD z)) ∧ (∀ i, okInt i → has D (.int .i64 i) = (f i).isSome) ∧ ∀ i, ¬ okInt i → f i = none
theorem own_tight {R : Value → Option (DataW Value × List MemPlace)} {w : World} {mb n : Nat} {D : DataW Value} (h : w.ownsMap P k R mb n D) {c : Nat} (hc : Maps.size D = c) : w.ownsMap P k R mb c D := by
  obtain ⟨es, clock, hb, F, hs, rfl⟩ := h
  refine ⟨es, clock, hb, F, ?_, rfl⟩
  rw [← hc]
  simp [Maps.size, length_sorted]
theorem MapX.lt {w : World} {mb c : Nat} {f : Int → Option Value} (h : MapX P k w mb c f) : mb < w.heap.size := by
  obtain ⟨D, h1, _⟩ := h
  exact h1.lt
theorem MapX.block {w w' : World} {mb c : Nat} {f : Int → Option Value} (h : MapX P k w mb c f) (hb : w'.heap[mb]? = w.heap[mb]?) : MapX P k w' mb c f := by
  obtain ⟨D, ⟨es, clock, h1, h2⟩, h3⟩ := h
  exact ⟨D, ⟨es, clock, hb.trans h1, h2⟩, h3⟩
theorem mapX_new (w : World) : MapX P k (w.alloc (.map #[] 0)) w.heap.size 0 (fun _ => none) :=
  ⟨.map [], World.ownsMap_made w P k anyR, rfl, fun _ _ _ => rfl, fun _ _ => rfl, fun _ _ => rfl⟩
/-- 'm[i]'. -/
theorem MapX.look {w : World} {mb c : Nat} {f : Int → Option Value} {t e : TypeId} (h : MapX P k w mb c f) (K : Keyed P k) (hk : P.underlying k = some (.int .i64)) (ht : P.underlying t = some (.map k e)) {z : Value}
    (hz : (zeroValue e).run P w = .ok z w) (i : Int) (hi : okInt i) : (Instr.lookup t (.map (some mb)) (.int .i64 i) false).run P w = .ok ((f i).getD z) w := by
  obtain ⟨D, h1, _, h2, _⟩ := h
  obtain ⟨v, ps, hrun, hv⟩ := h1.lookup K ht hz (zd := .held z) (zp := []) rfl (keyOf_int_mk hk hi)
  rw [h2 i hi z] at hv
  rw [hrun, anyR_inv hv]
def setX (f : Int → Option Value) (i : Int) (v : Value) : Int → Option Value := fun j => if j = i then some v else f j
def delX (f : Int → Option Value) (i : Int) : Int → Option Value := fun j => if j = i then none else f j
theorem setX_same (f : Int → Option Value) (i : Int) (v : Value) : setX f i v i = some v := by simp [setX]
theorem setX_ne (f : Int → Option Value) {i j : Int} (v : Value) (h : j ≠ i) : setX f i v j = f j := by simp [setX, h]
/-- 'm[i] = v'. -/
theorem MapX.store {w : World} {mb c : Nat} {f : Int → Option Value} {t e : TypeId} (h : MapX P k w mb c f) (K : Keyed P k) (hk : P.underlying k = some (.int .i64)) (ht : P.underlying t = some (.map k e))
    (hN : c < maxLen) (i : Int) (hi : okInt i) (v : Value) : ∃ w', (Instr.mapUpdate t (.map (some mb)) (.int .i64 i) v).run P w = .ok () w' ∧ MapX P k w' mb (if (f i).isSome then c else c + 1) (setX f i v) ∧ w.mapTurned w' mb := by
  obtain ⟨D, h1, hs, h2, h3, h4⟩ := h
  obtain ⟨w', hrun, h5, h6⟩ := h1.store K ht hN (keyOf_int_mk hk hi) (d := .held v) (ps := []) rfl
  have hkey := isKey_int i hi K hk
  have hM := h1.isMap
  refine ⟨w', hrun, ⟨_, own_tight h5 ?_, ?_, fun j hj z => ?_, fun j hj => ?_, fun j hj => ?_⟩, h6⟩
  · rw [size_put (h1.tidy K), h3 i hi, hs]
  · rw [size_put (h1.tidy K), h3 i hi, hs]
  · unfold setX
    by_cases e : j = i
    · subst e; rw [if_pos rfl, atKey_put_same hM hkey]; rfl
    · rw [if_neg e, atKey_put_other (by simpa using e), h2 j hj]
  · unfold setX
    by_cases e : j = i
    · subst e; rw [if_pos rfl, has_put_same hM hkey]; rfl
    · rw [if_neg e, has_put_other (by simpa using e), h3 j hj]
  · unfold setX
    rw [if_neg (fun e : j = i => hj (by rw [e]; exact hi)), h4 j hj]
/-- 'delete(m, i)'. -/
theorem MapX.drop {w : World} {mb c : Nat} {f : Int → Option Value} {t e : TypeId} (h : MapX P k w mb c f) (K : Keyed P k) (hk : P.underlying k = some (.int .i64)) (ht : P.underlying t = some (.map k e)) (ty : TypeId)
    (i : Int) (hi : okInt i) : ∃ w', (Builtin.delete_ #[t, k] ty #[.map (some mb), .int .i64 i]).run P w = .ok (.tuple #[]) w' ∧ MapX P k w' mb (if (f i).isSome then c - 1 else c) (delX f i) ∧ w.mapTurned w' mb := by
  obtain ⟨D, h1, hs, h2, h3, h4⟩ := h
  obtain ⟨w', hrun, h5, h6⟩ := h1.drop K ht (keyOf_int_mk hk hi) ty
  have hsz := size_del (h1.tidy K) (k := .int .i64 i)
  rw [h3 i hi, hs] at hsz
  have e : Maps.size (D.del (.int .i64 i)) = if (f i).isSome then c - 1 else c := by split at hsz <;> simp_all <;> omega
  refine ⟨w', hrun, ⟨_, own_tight h5 e, e, fun j hj z => ?_, fun j hj => ?_, fun j hj => ?_⟩, h6⟩
  · unfold delX
    by_cases e : j = i
    · subst e; rw [if_pos rfl, atKey_del_same]; rfl
    · rw [if_neg e, atKey_del_other (by simpa using e), h2 j hj]
  · unfold delX
    by_cases e : j = i
    · subst e; rw [if_pos rfl, has_del_same]; rfl
    · rw [if_neg e, has_del_other (by simpa using e), h3 j hj]
  · unfold delX
    split
    · rfl
    · exact h4 j hj

/-- 'for i, v := range m' under way: 'left i': is i still to come? -/
def RangX (P : Program) (k : TypeId) (w : World) (mb r c : Nat) (f : Int → Option Value) (left : Int → Bool) (cnt : Nat) : Prop :=
  ∃ D lf, w.ranges P k anyR mb r c D lf cnt ∧ Maps.size D = c ∧ (∀ i, okInt i → ∀ z, D.atKey (.int .i64 i) (.held z) = .held ((f i).getD z)) ∧ (∀ i, okInt i → has D (.int .i64 i) = (f i).isSome) ∧ (∀ i, ¬ okInt i → f i = none) ∧
    (∀ i, okInt i → lf (.int .i64 i) = left i) ∧ (∀ i, left i = true → okInt i ∧ (f i).isSome = true)
theorem RangX.map {w : World} {mb r c : Nat} {f : Int → Option Value} {left : Int → Bool} {cnt : Nat} (h : RangX P k w mb r c f left cnt) : MapX P k w mb c f := by
  obtain ⟨D, lf, h1, hs, h2, h3, h4, _⟩ := h
  exact ⟨D, h1.owns, hs, h2, h3, h4⟩
theorem RangX.left_eq {w : World} {mb r c : Nat} {f : Int → Option Value} {left : Int → Bool} {cnt : Nat} (h : RangX P k w mb r c f left cnt) : w.rangeLeft mb r = cnt := by
  obtain ⟨D, lf, h1, _⟩ := h
  exact h1.left_eq
theorem RangX.lt {w : World} {mb r c : Nat} {f : Int → Option Value} {left : Int → Bool} {cnt : Nat} (h : RangX P k w mb r c f left cnt) : r < w.heap.size := by
  obtain ⟨D, lf, h1, _⟩ := h
  exact h1.lt
end

section
variable {P : Program} (w : World) {ops : Array Oper} {rest : List Oper} {o : Oper} {a : Act} {Q : Exit → Act → World → Prop}
theorem wpList_range_x (hg : o.guard = none) (m : Operand) (t : TypeId) (hop : o.op = Op.range t m) (k e : TypeId) (K : Keyed P k) (ht : P.underlying t = some (.map k e)) (mb c : Nat) (f : Int → Option Value)
    (hm : a.eval m = .map (some mb)) (h : MapX P k w mb c f) (hk : P.underlying k = some (.int .i64))
    (hK : ∀ w' cnt, RangX P k w' mb w.heap.size c f (fun i => (f i).isSome) cnt → w.grownBy w' none → w'.heap.size = w.heap.size + 1 → wpList P ops Q rest (a.put o.dst (.pointer (some ⟨w.heap.size, 0, none⟩))) w') :
    wpList P ops Q (o :: rest) a w := by
  obtain ⟨D, h1, hs, h2, h3, h4⟩ := h
  refine wpList_range_own w hg m t hop k e K ht anyR mb c D hm h1 (fun w' hr hg hs' => hK w' _ ⟨D, _, hr, hs, h2, h3, h4, h3, fun i hi => ?_⟩ hg hs')
  refine ⟨Classical.byContradiction fun hn => ?_, hi⟩
  have hi' : (f i).isSome = true := hi
  rw [h4 i hn] at hi'
  cases hi'
theorem wpList_next_x (hg : o.guard = none) (it : Operand) (hop : o.op = Op.next it false) (k : TypeId) (K : Keyed P k) (hk : P.underlying k = some (.int .i64)) (mb r c : Nat) (f : Int → Option Value) (left : Int → Bool) (cnt : Nat)
    (hit : a.eval it = .pointer (some ⟨r, 0, none⟩)) (h : RangX P k w mb r c f left cnt)
    (hDone : cnt = 0 → (∀ i, left i = false) → wpList P ops Q rest (a.put o.dst (.tuple #[.bool false])) w)
    (hMore : ∀ (i : Int) (v : Value) (w' : World) (cnt' : Nat), okInt i → left i = true → f i = some v → RangX P k w' mb r c f (fun j => left j && !(j == i)) cnt' → cnt' < cnt → w.grownBy w' (some r) → w'.heap.size = w.heap.size →
      (Instr.entry (.pointer (some ⟨r, 0, none⟩))).run P w' = .ok (.tuple #[.int .i64 i, v]) w' → wpList P ops Q rest (a.put o.dst (.tuple #[.bool true, .int .i64 i, v])) w') :
    wpList P ops Q (o :: rest) a w := by
  obtain ⟨D, lf, h1, hs, h2, h3, h4, h5, h6⟩ := h
  refine wpList_next_ranges w hg it hop k K anyR (Value.int .i64) (fun v : Value => v) (fun key kl hkl => ?_) (fun v y hv => ⟨v, rfl⟩) mb r c D lf cnt hit h1 (fun h0 hall => ?_) ?_
  · obtain ⟨x, e, _⟩ := Maps.keyOf_int_inv hk hkl
    exact ⟨x, e⟩
  · refine hDone h0 fun i => ?_
    by_cases hi : okInt i
    · rw [← h5 i hi]; exact hall _
    · cases hl : left i
      · rfl
      · exact absurd (h6 i hl).1 hi
  · intro x c' kl y w' cnt' hkey hlk hR hat hr hlt hgr hsz hen
    obtain ⟨x', e1, e2, e3⟩ := Maps.keyOf_int_inv hk hkey
    injection e1 with _ e1
    subst e1 e2
    have hleft : left x = true := by rw [← h5 x e3]; exact hlk
    have hsome := (h6 x hleft).2
    obtain ⟨v, hv⟩ := Option.isSome_iff_exists.1 hsome
    have hc : c' = v := by
      have h7 := hat (.held undef)
      rw [h2 x e3 undef, hv] at h7
      unfold anyR at hR
      have h8 : y.1 = .held c' := by rw [← Option.some.inj hR]
      rw [h8] at h7
      injection h7 with h7
      simpa using h7.symm
    subst hc
    refine hMore x c' w' cnt' e3 hleft hv ⟨D, _, hr, hs, h2, h3, h4, fun j hj => ?_, fun j hj => ?_⟩ hlt hgr hsz hen
    · rw [h5 j hj]
      congr 1
      by_cases e : j = x
      · subst e; rw [WideAt.sameKey_self (isKey_int j hj K hk)]; simp
      · have : (Lit.int .i64 j).sameKey (Lit.int .i64 x) = false := by
          cases hs : (Lit.int .i64 j).sameKey (Lit.int .i64 x)
          · rfl
          · have := WideAt.sameKey_eq hs
            injection this with _ this
            exact absurd this e
        rw [this]; simp [e]
    · simp at hj
      exact h6 j hj.1
end
end Go.Proofs.YtahiahjhpakeiaaGreatDoor
namespace Go.Proofs.YtahiahjhpakeiaaGreatDoor
open Go
set_option linter.unusedVariables false
set_option linter.unusedSimpArgs false

section
variable {P : Program} {ops : Array Oper} {md : Region.Mode} {C : World → Prop} {Q' : Exit → Act → World → Prop}
theorem wpAnyC_firstA {i : Nat} {oi : Oper} {v : Value} (hi : ops[i]? = some oi) (hsel : ∀ (j : Nat) (o : Oper) cs b, ops[j]? = some o → o.op ≠ .select cs b) (hQ : ∀ c a w, Q' (.panic c) (a.put oi.dst v) w → Q' (.panic c) a w) :
    ∀ (f : Nat) (listed : Array Bool) (a : Act) (w : World), HeadInv md ops ops.size listed → C w →
      (∀ j oj, ops[j]? = some oj → j ≠ i → listed.getD j true = false → (∀ e ∈ oj.after, Region.binds md e = true → e.on ≠ i) → oi.apart ops oj = true) →
      i ∈ Region.ready md ops listed → StillIn P ops C oi v a →
      wpAnyC P md ops C ops.size Q' f (listed.setIfInBounds i true) (a.put oi.dst v) w → wpAnyC P md ops C ops.size Q' (f + 1) listed a w := by
  intro f
  induction f with
  | zero =>
    intro listed a w inv hC _ hr hy H
    have hun := (mem_ready.1 hr).1
    refine ⟨fun h => (by rw [h] at hr; cases hr), fun j hj => ?_⟩
    by_cases hji : j = i
    · subst hji; exact hy.wpOp hi hC ⟨fun _ => hC, H⟩
    · have := ready_mono hj hji
      rw [H.1] at this
      cases this
  | succ f ih =>
    intro listed a w inv hC hfree hr hy H
    have hun := (mem_ready.1 hr).1
    refine ⟨fun h => (by rw [h] at hr; cases hr), fun j hj => ?_⟩
    have hjn : j < ops.size := by
      obtain ⟨_, oj, hoj, _⟩ := mem_ready.1 hj
      exact (Array.getElem?_eq_some_iff.1 hoj).1
    by_cases hji : j = i
    · subst hji; exact hy.wpOp hi hC ⟨fun _ => hC, H⟩
    · have h1 := H.2 j (ready_mono hj hji)
      obtain ⟨hjun, oj, hoj, hall⟩ := mem_ready.1 hj
      have hnot : ∀ e ∈ oj.after, Region.binds md e = true → e.on ≠ i := fun e he hb heq => by
        have h1 := hall e he hb
        rw [heq, getD_both hun] at h1
        cases h1
      have h2 := wpOp_put_still hoj (hfree j oj hoj hji hjun hnot) (fun cs b => hsel i oi cs b hi) (fun cs b => hsel j oj cs b hoj) hQ hy h1
      have hfree' : ∀ k ok, ops[k]? = some ok → k ≠ i → (listed.setIfInBounds j true).getD k true = false →
          (∀ e ∈ ok.after, Region.binds md e = true → e.on ≠ i) → oi.apart ops ok = true := fun k ok hk hki hun hno => by
        refine hfree k ok hk hki ?_ hno
        by_cases hjk : j = k
        · subst hjk; exact hjun
        · rw [getD_set_ne true hjk] at hun; exact hun
      refine wpOp_mono (fun a' w' h3 => ⟨h3.2.1, ih (listed.setIfInBounds j true) a' w' (inv.set hj hjn) (h3.2.1 hjn) hfree' (ready_mono hr (Ne.symm hji)) h3.1 ?_⟩) h2
      rw [Array.setIfInBounds_comm _ _ hji]
      exact h3.2.2
theorem wpAnyC_headsA {g : Nat} {Lq : Act → Prop} {w : World} (hC : C w) (hsel : Region.noSelect ops = true) (hQ : ∀ (d : Option Tmp) v c a w, Q' (.panic c) (a.put d v) w → Q' (.panic c) a w) :
    ∀ (ks : List Nat) (listed : Array Bool) (a : Act), HeadInv md ops ops.size listed → headNums md ops ks listed = true →
    (∀ a', Lq a' → wpAnyC P md ops C ops.size Q' g (listAll ks listed) a' w) → wpTame P ops C Lq (headOps ops ks) a → wpAnyC P md ops C ops.size Q' (ks.length + g) listed a w
  | [], listed, a, _, _, hend, h => by rw [List.length_nil, Nat.zero_add]; exact hend a h
  | k :: ks, listed, a, inv, hB, hend, h => by
    simp only [headNums, Bool.and_eq_true] at hB
    obtain ⟨⟨hr, hf⟩, hB'⟩ := hB
    have hr' : k ∈ Region.ready md ops listed := by simpa using hr
    obtain ⟨_, o, h0, _⟩ := mem_ready.1 hr'
    have hk : k < ops.size := (Array.getElem?_eq_some_iff.1 h0).1
    unfold headOps at h
    rw [h0] at h
    obtain ⟨v, hy, hK⟩ := stillIn_of_tame h
    rw [List.length_cons, show ks.length + 1 + g = (ks.length + g) + 1 by omega]
    exact wpAnyC_firstA h0 (Region.noSelect_spec hsel) (fun c a w => hQ _ _ c a w) (ks.length + g) listed a w inv hC (Region.free_spec h0 hf) hr' hy
      (wpAnyC_headsA hC hsel hQ ks _ _ (inv.set hr' hk) hB' hend hK)
def allB (md : Region.Mode) (ops : Array Oper) (ks : List Nat) : Bool :=
  Region.noSelect ops && decide (ks.length ≤ ops.size) && headNums md ops ks (Array.replicate ops.size false)
theorem wp_region_all {id : Nat} {a : Act} {w : World} {l : List Oper} (ks : List Nat) (C : World → Prop) (hm : P.follows .mixedOrders = true) (hB : allB .any l.toArray ks = true) (hC : C { w with drawn := w.drawn + 1 })
    (hQ : ∀ (d : Option Tmp) v c a w, Q' (.panic c) (a.put d v) w → Q' (.panic c) a w)
    (hh : wpTame P l.toArray C (fun a' => wpAnyC P .any l.toArray C l.length Q' (l.length - ks.length) (listAll ks (Array.replicate l.length false)) a' { w with drawn := w.drawn + 1 }) (headOps l.toArray ks) a) : (Code.region id l.toArray true).wp P Q' a w := by
  simp only [allB, Bool.and_eq_true, decide_eq_true_eq] at hB
  obtain ⟨⟨hsel, hkl⟩, hnum⟩ := hB
  have inv0 : HeadInv .any l.toArray l.toArray.size (Array.replicate l.toArray.size false) :=
    ⟨by simp, fun j oj _ hl => (by rw [getD_replicate_false] at hl; cases hl), fun t ht ht2 => by omega⟩
  refine wp_region_any hm (wpAny_of_C (C := C) (n := l.toArray.size) _ _ _ _ ?_)
  have H := wpAnyC_headsA (md := .any) (ops := l.toArray) (P := P) (Q' := Q') (g := l.length - ks.length) hC hsel hQ ks (Array.replicate l.toArray.size false) a inv0 hnum (fun a' h => by simpa using h) hh
  have e : ks.length + (l.length - ks.length) = l.toArray.size := by simp at hkl ⊢; omega
  rwa [e] at H
theorem wpAnyC_done {n : Nat} {listed : Array Bool} {a : Act} {w : World} (hr : (Region.ready md ops listed == []) = true) (h : wpList P ops Q' [] a w) : wpAnyC P md ops C n Q' 0 listed a w :=
  ⟨by simpa using hr, h⟩
end
end Go.Proofs.YtahiahjhpakeiaaGreatDoor
namespace Go.Proofs.YtahiahjhpakeiaaGreatDoor
open Go.RowKit Go.Maps Go.Sort
set_option linter.unusedVariables false
set_option linter.unusedSimpArgs false

set_option linter.unusedSectionVars false
theorem ownerI_nat {s : List Int} (h : 0 < s.length) (x : Int) : ∃ i : Nat, i < s.length ∧ ownerI s x = i ∧ (i = if below s x = s.length then 0 else below s x) := by
  have := below_le s x
  refine ⟨if below s x = s.length then 0 else below s x, by split <;> omega, ?_, rfl⟩
  unfold ownerI
  rw [if_neg (by omega)]
  split <;> simp
section
variable {f : RS} (I : Inv f)
include I
theorem nth_ids {k : Nat} (hk : k < (circ f).length) : nth ((circ f).map (idR f)) k = idR f (nth (circ f) k) := by
  unfold nth; simp [hk]
/-- Which member of the circle it is. -/
theorem cAt_nat (x : Int) : ∃ i : Nat, i < (circ f).length ∧ cAt (circ f) x = nth (circ f) i ∧ cAt (circ f) (x + 1) = nth (circ f) ((i + 1) % (circ f).length) ∧ x % ((circ f).length : Int) = i := by
  have h4 : 4 ≤ (circ f).length := by rw [circ_len]; exact live4 I
  obtain ⟨i, hi⟩ : ∃ i : Nat, x % ((circ f).length : Int) = i := ⟨(x % ((circ f).length : Int)).toNat, by have := Int.emod_nonneg x (show ((circ f).length : Int) ≠ 0 by omega); omega⟩
  have hil : i < (circ f).length := by have := Int.emod_lt_of_pos x (show (0 : Int) < ((circ f).length : Int) by omega); omega
  have e1 : cAt (circ f) x = nth (circ f) i := by unfold cAt; rw [hi]; rfl
  have e2 : cAt (circ f) (x + 1) = nth (circ f) ((i + 1) % (circ f).length) := by
    unfold cAt
    rw [← Int.emod_add_emod, hi]
    congr 1
  exact ⟨i, hil, e1, e2, hi⟩
theorem cAt_lives (x : Int) : livesR f (cAt (circ f) x) = true := by
  obtain ⟨i, hi, e, _⟩ := cAt_nat I x
  rw [e]; exact (circ_mem I).1 (nth_mem.2 ⟨i, hi, rfl⟩)
end

set_option linter.unusedSectionVars false
section
variable {f : RS} (I : Inv f)
include I
theorem circ_nodup : (circ f).Nodup := by
  refine List.pairwise_iff_getElem.2 fun i j hi hj hij e => ?_
  have := circ_mono I hij hj
  rw [nth_eq hj, nth_eq hi, e] at this
  omega
theorem cAt_idx (x : Int) : idxI (circ f) (cAt (circ f) x) = x % ((circ f).length : Int) := by
  obtain ⟨i, hi, e1, _, e2⟩ := cAt_nat I x
  rw [e1, idxI_at (circ_nodup I) hi, e2]
theorem cAt_mod (x y : Int) : cAt (circ f) (x % ((circ f).length : Int) + y) = cAt (circ f) (x + y) := by
  unfold cAt
  rw [Int.emod_add_emod]
theorem cAt_inj {x y : Int} (h : cAt (circ f) x = cAt (circ f) y) : x % ((circ f).length : Int) = y % ((circ f).length : Int) := by
  rw [← cAt_idx I, ← cAt_idx I, h]
theorem cAt_zero : ∃ i0 : Nat, i0 < (circ f).length ∧ cAt (circ f) i0 = 0 := by
  obtain ⟨i, hi, e⟩ := nth_mem.1 ((circ_mem I).2 (I.base 0 (by omega) (by omega)))
  refine ⟨i, hi, ?_⟩
  unfold cAt
  rw [show ((i : Int) % ((circ f).length : Int)).toNat = i by rw [Int.emod_eq_of_lt (by omega) (by omega)]; simp]
  exact e
/-- What a member of the circle is told. -/
theorem know_at (x : Int) {w w' : World} {e : Ending} (h : KnowPost w (circ f) ((circ f).map (idR f)) (cAt (circ f) x) e w') :
    ∃ (v : Value) (l : List Int), e = .returned (.tuple #[.agg #[.int .u64 (idR f (cAt (circ f) x)), .int .i64 (cAt (circ f) (x - 1)), v], .bool true]) ∧ l.length = 3 ∧ nth l 0 = cAt (circ f) (x + 1) ∧
      l = [cAt (circ f) (x + 1), cAt (circ f) (x + 2), cAt (circ f) (x + 3)] ∧ SlAt w.heap.size (fun i => .int .i64 (nth l i)) 3 w' v ∧ RowKit.Below w.heap.size w w' := by
  have h4 : 4 ≤ (circ f).length := by rw [circ_len]; exact live4 I
  have hge : ¬ idxI (circ f) (cAt (circ f) x) < 0 := by rw [cAt_idx I]; have := Int.emod_nonneg x (show ((circ f).length : Int) ≠ 0 by omega); omega
  obtain ⟨v, rfl, hs, hb⟩ := h.yes hge
  have hn : cNum (circ f) = 3 := by unfold cNum; omega
  rw [hn, cAt_idx I] at hs
  rw [cAt_idx I]
  obtain ⟨i, hi, e1, _, e2⟩ := cAt_nat I x
  have l0 : cSuc (circ f) (x % ((circ f).length : Int)) 3 = [cAt (circ f) (x + 1), cAt (circ f) (x + 2), cAt (circ f) (x + 3)] := by
    simp only [cSuc, List.range_succ, List.range_zero, List.nil_append, List.map_append, List.map_cons, List.map_nil, List.cons_append]
    rw [show x % ((circ f).length : Int) + 1 + ((0 : Nat) : Int) = x % ((circ f).length : Int) + 1 by omega, show x % ((circ f).length : Int) + 1 + ((1 : Nat) : Int) = x % ((circ f).length : Int) + 2 by omega, show x % ((circ f).length : Int) + 1 + ((2 : Nat) : Int) = x % ((circ f).length : Int) + 3 by omega, cAt_mod I, cAt_mod I, cAt_mod I]
  rw [l0] at hs
  refine ⟨v, _, ?_, rfl, rfl, rfl, hs, hb⟩
  rw [show x % ((circ f).length : Int) - 1 = x % ((circ f).length : Int) + (-1) by omega, cAt_mod I, show x + -1 = x - 1 by omega, e2, e1]
  rw [show ((i : Int)).toNat = i by simp, nth_ids I hi]
end

theorem cAt_of {f : RS} (I : Inv f) {n : Int} (h : livesR f n = true) : ∃ x : Nat, n = cAt (circ f) x := by
  obtain ⟨i, hi, rfl⟩ := nth_mem.1 ((circ_mem I).2 h)
  refine ⟨i, ?_⟩
  unfold cAt
  rw [Int.emod_eq_of_lt (by omega) (by omega)]; simp
theorem owner_lives {f : RS} (I : Inv f) (X : Int) : livesR f (cOwner (circ f) ((circ f).map (idR f)) X) = true := by
  have h4 : 4 ≤ (circ f).length := by rw [circ_len]; exact live4 I
  have hlen : ((circ f).map (idR f)).length = (circ f).length := by simp
  obtain ⟨i, hi, ho, _⟩ := ownerI_nat (s := (circ f).map (idR f)) (by omega) X
  unfold cOwner
  rw [ho, if_neg (by omega)]
  exact (circ_mem I).1 (nth_mem.2 ⟨i, by omega, rfl⟩)
/-! ### Who is next -/
/-! ### The way -/
/-! ### Where all is as it should be -/
structure Good (f : RS) : Prop where
  inv : Inv f
  hr : AllHr f
  pr : AllPr f
abbrev own (f : RS) (X : Int) : Int := cOwner (circ f) ((circ f).map (idR f)) X
section
variable {f : RS} (G : Good f)
include G
end
end Go.Proofs.YtahiahjhpakeiaaGreatDoor
namespace Go.Proofs.YtahiahjhpakeiaaGreatDoor
open Go.RowKit Go.Maps Go.Sort Go.WideShapes Go.ChangeShapes Go.Deep
set_option linter.unusedVariables false
set_option linter.unusedSimpArgs false
attribute [local go_sem] later_cell later_frozen later_lt cell_set_off cell_set_block

/-- How many addresses have fingers. -/
def cntX (h : Int → Option Value) : Nat := ((List.range 32).map Int.ofNat).countP fun n => (h n).isSome
theorem cntX_le (h : Int → Option Value) : cntX h ≤ 32 := Nat.le_trans List.countP_le_length (by simp)
theorem cntX_set (h : Int → Option Value) {n : Int} (v : Value) (h0 : 0 ≤ n) (h1 : n < 32) : cntX (setX h n v) = if (h n).isSome then cntX h else cntX h + 1 := by
  unfold cntX
  split
  · rename_i hs
    refine countP_eq_of fun x _ => ?_
    by_cases e : x = n
    · rw [e, setX_same, hs]; rfl
    · rw [setX_ne _ _ e]
  · rename_i hs
    refine countP_one (n := n) (by simp [setX]) (by simpa using hs) (fun x hx => by rw [setX_ne _ _ hx]) (by decide) ?_
    exact List.mem_map.2 ⟨n.toNat, List.mem_range.2 (by omega), by simp; omega⟩
end Go.Proofs.YtahiahjhpakeiaaGreatDoor
end
section
namespace Go.Proofs.YtahiahjhpakeiaaGreatDoor
open Go.RowKit Go.Maps Go.Sort
set_option linter.unusedVariables false
set_option linter.unusedSimpArgs false
set_option linter.unusedSectionVars false

/-- The keepers, by the number of the owner on the circle. -/
def keepL (f : RS) (i : Int) : List Int := [cAt (circ f) i, cAt (circ f) (i + 1), cAt (circ f) (i + 2)]
/-- The keepers of a place. -/
def keepK (f : RS) (X : Int) : List Int := keepL f (idxI (circ f) (own f X))
section
variable {f : RS} (I : Inv f)
include I
theorem own_at (X : Int) : ∃ i : Nat, own f X = cAt (circ f) i := cAt_of I (owner_lives I X)
theorem keepK_eq {X i : Int} (h : own f X = cAt (circ f) i) : keepK f X = keepL f i := by
  unfold keepK keepL
  rw [h, cAt_idx I, cAt_mod I, cAt_mod I]
  have := cAt_mod I i 0
  rw [Int.add_zero, Int.add_zero] at this
  rw [this]
theorem keepL_ne (i : Int) {a b : Int} (h0 : 0 ≤ a) (h1 : a < b) (h2 : b < 4) : cAt (circ f) (i + a) ≠ cAt (circ f) (i + b) := fun e => by
  have h4 : 4 ≤ (circ f).length := by rw [circ_len]; exact live4 I
  have h := cAt_inj I e
  have h5 := Int.emod_emod_of_dvd (i + b - (i + a)) (Int.dvd_refl ((circ f).length : Int))
  have h6 : (i + b - (i + a)) % ((circ f).length : Int) = 0 := by
    rw [Int.sub_emod, h]; simp
  rw [show i + b - (i + a) = b - a by omega, Int.emod_eq_of_lt (by omega) (by omega)] at h6
  omega
theorem keepL_nodup (i : Int) : (keepL f i).Nodup := by
  have h1 := keepL_ne I i (a := 0) (b := 1) (by omega) (by omega) (by omega)
  have h2 := keepL_ne I i (a := 0) (b := 2) (by omega) (by omega) (by omega)
  have h3 := keepL_ne I i (a := 1) (b := 2) (by omega) (by omega) (by omega)
  rw [Int.add_zero] at h1 h2
  unfold keepL
  simp only [List.nodup_cons, List.mem_cons, List.not_mem_nil, or_false, not_false_eq_true, List.nodup_nil, and_true, not_or]
  exact ⟨⟨h1, h2⟩, h3⟩
theorem keepL_lives (i : Int) : ∀ n ∈ keepL f i, livesR f n = true := fun n hn => by
  unfold keepL at hn
  simp only [List.mem_cons, List.not_mem_nil, or_false] at hn
  rcases hn with rfl | rfl | rfl <;> exact cAt_lives I _
theorem keepK_len (X : Int) : (keepK f X).length = 3 := rfl
theorem keepK_nodup (X : Int) : (keepK f X).Nodup := keepL_nodup I _
theorem keepK_lives (X : Int) : ∀ n ∈ keepK f X, livesR f n = true := keepL_lives I _
end
/-- Wishes of a group go from a member to another one. -/
structure Mv where
  g : Str
  fr : Int
  to : Int
instance : Inhabited Mv := ⟨⟨[], 0, 0⟩⟩
/-- What goes where, of one group; X: its place. -/
def planG (f f' : RS) (X : Int) (g : Str) : List Mv := match (keepK f X).find? (livesR f') with
  | none => []
  | some o => ((keepK f' X).filter fun n => !(keepK f X).contains n).map fun n => ⟨g, o, n⟩
/-- Of all groups, in their order. -/
def planU (X : Str → Int) (f f' : RS) (gs : List Str) : List Mv := gs.flatMap fun g => planG f f' (X g) g
theorem planU_snoc (X : Str → Int) (f f' : RS) (gs : List Str) (g : Str) : planU X f f' (gs ++ [g]) = planU X f f' gs ++ planG f f' (X g) g := by unfold planU; rw [List.flatMap_append]; simp
theorem planG_len (f f' : RS) (X : Int) (g : Str) : (planG f f' X g).length ≤ 3 := by
  unfold planG
  split
  · simp
  · rw [List.length_map]
    exact List.length_filter_le _ _
theorem planU_len (X : Str → Int) (f f' : RS) (gs : List Str) : (planU X f f' gs).length ≤ 3 * gs.length := by
  induction gs with
  | nil => simp [planU]
  | cons g gs ih =>
    have := planG_len f f' (X g) g
    unfold planU at *
    rw [List.flatMap_cons, List.length_append, List.length_cons]
    omega
/-- Whoever is a keeper of a place in the same ring gets nothing. -/
theorem planG_same {f : RS} (I : Inv f) (X : Int) (g : Str) : planG f f X g = [] := by
  unfold planG
  split
  · rfl
  · rw [List.map_eq_nil_iff, List.filter_eq_nil_iff]
    intro n hn
    simp [hn]
theorem planU_same {f : RS} (I : Inv f) (X : Str → Int) (gs : List Str) : planU X f f gs = [] := by
  unfold planU
  rw [List.flatMap_eq_nil_iff]
  exact fun g _ => planG_same I (X g) g

/-! ### The keepers are the three that lie least far behind a place -/
section
variable {f : RS} (I : Inv f) {X : Int} (hX : isPlace X)
include I hX
end
end Go.Proofs.YtahiahjhpakeiaaGreatDoor
end
section
namespace Go.Proofs.YtahiahjhpakeiaaGreatDoor
open Go.RowKit Go.Maps Go.Sort Go.WideShapes Go.ChangeShapes Go.Deep
set_option linter.unusedVariables false
set_option linter.unusedSimpArgs false
attribute [local go_sem] later_cell later_frozen later_lt cell_set_off cell_set_block

theorem own_shapeK {w : World} {base e n k : Nat} {v : Value} {xs : List Value} (h : w.ownsRow base e k v n xs) : ∃ a c, v = .slice a n c := by
  rcases h.2 with ⟨rfl, rfl⟩ | ⟨g', cap', cur, rfl, _⟩
  · exact ⟨_, _, rfl⟩
  · exact ⟨_, _, rfl⟩
/-- What Keepers answers. -/
def KeepPost (w : World) (f : RS) (X : Int) (e : Ending) (w' : World) : Prop :=
  ∃ v : Value, e = .returned v ∧ SlAt w.heap.size (fun j => .int .i64 (nth (keepK f X) j)) 3 w' v ∧ Below w.heap.size w w'
set_option maxRecDepth 100000 in
set_option maxHeartbeats 4000000 in
theorem keep_any (w : World) (f : RS) (I : Inv f) (av iv : Value) (hc : SlAt 0 (fun i => .int .i64 (nth (circ f) i)) (circ f).length w av) (hi : SlAt 0 (fun i => .int .u64 (nth ((circ f).map (idR f)) i)) (circ f).length w iv) (nm : ByteArray) (hnm : nm.size ≤ 1000000) :
    Calls Tryz.prog 16 #[.agg #[av, iv], .string nm] w (KeepPost w f (keyH nm)) := by
  obtain ⟨i0, hi0, hz0, hz1, hz2⟩ : ∃ i0, Tryz.prog.info? 3 = some i0 ∧ i0.zero = some (Value.int .i64 0) ∧ i0.size = 1 ∧ i0.bytes = 8 := ⟨intI, intI_at, by kernel_rfl, by kernel_rfl, by kernel_rfl⟩
  have hcl : (circ f).length ≤ 32 := by rw [circ_len]; exact length_liveL f
  obtain ⟨i, hoi⟩ := own_at I (keyH nm)
  have hi2 : SlAt 0 (fun j => .int .u64 (nth ((circ f).map (idR f)) j)) ((circ f).map (idR f)).length w iv := by simpa using hi
  have CO := Lib.hid fun wr (hb : Below w.heap.size w wr) => cowner_at wr (circ f) ((circ f).map (idR f)) av iv (hc.below hb) (hi2.below hb) (by simp) (by omega) (circ_up I) (keyH nm)
  have CP := Lib.hid fun wr (hb : Below w.heap.size w wr) => (cpeer_at wr (circ f) ((circ f).map (idR f)) av iv (hc.below hb) (hi2.below hb) (by simp) (by omega) (cAt (circ f) i)).mono fun e w' h => know_at I (i : Int) h
  have CK := Lib.hid fun wr => key_any nm wr hnm
  have hkk : keepK f (keyH nm) = keepL f i := keepK_eq I hoi
  have HK : Hid (∀ v w', SlAt w.heap.size (fun j => .int .i64 (nth (keepL f i) j)) 3 w' v → Below w.heap.size w w' → KeepPost w f (keyH nm) (.returned v) w') := show ∀ v w', _ from fun v w' h1 h2 => by
    unfold KeepPost; rw [hkk]; exact ⟨v, rfl, h1, h2⟩
  have hne : cAt (circ f) i ≠ -1 := fun e => by
    have h := owner_lives I (keyH nm)
    rw [show cOwner (circ f) ((circ f).map (idR f)) (keyH nm) = cAt (circ f) i from hoi] at h
    have := livesR_dom I.dom h
    omega
  have hoi' : cOwner (circ f) ((circ f).map (idR f)) (keyH nm) = cAt (circ f) i := hoi
  rw [hoi'] at CO
  obtain ⟨aa, ac, rfl, _⟩ := hc.slice
  obtain ⟨ia, ic, rfl, _⟩ := hi.slice
  have HKL : Hid (keepL f i = [cAt (circ f) i, cAt (circ f) ((i : Int) + 1), cAt (circ f) ((i : Int) + 2)]) := show keepL f i = _ from rfl
  obtain ⟨kl, hkl⟩ : ∃ z, z = keepL f i := ⟨_, rfl⟩
  rw [← hkl] at HK HKL
  obtain ⟨id0, hid0⟩ : ∃ z, z = idR f (cAt (circ f) i) := ⟨_, rfl⟩
  obtain ⟨pr0, hpr0⟩ : ∃ z, z = cAt (circ f) ((i : Int) - 1) := ⟨_, rfl⟩
  obtain ⟨s0, hs0⟩ : ∃ z, z = cAt (circ f) ((i : Int) + 1) := ⟨_, rfl⟩
  obtain ⟨s1, hs1⟩ : ∃ z, z = cAt (circ f) ((i : Int) + 2) := ⟨_, rfl⟩
  obtain ⟨s2, hs2⟩ : ∃ z, z = cAt (circ f) ((i : Int) + 3) := ⟨_, rfl⟩
  obtain ⟨o, ho⟩ : ∃ z, z = cAt (circ f) i := ⟨_, rfl⟩
  rw [← hid0, ← hpr0, ← hs0, ← hs1, ← hs2, ← ho] at CP
  rw [← ho, ← hs0, ← hs1] at HKL
  rw [← ho] at CO hne
  obtain ⟨cl, hcle⟩ : ∃ z, z = (circ f).length := ⟨_, rfl⟩
  rw [← hcle] at CO CP ⊢
  have hob : (o == -1) = false := by simpa using hne
  clear hc hi hi2 hoi hoi' hne hkk hkl hid0 hpr0 hs0 hs1 hs2 ho hcl hcle
  go_enter Tryz.func16, Tryz.ntmps16
  go_wp2_with fail
  refine wp_region_calm (by kernel_rfl) (by kernel_rfl) ?_
  repeat (first | (go_big_quiet_step ((first | (go_at_call 22; exact calls_calm (CK.out _)) | (go_at_call 21; exact calls_calm (CO.out _ (by (repeat (first | exact Below.refl _ _ | (with_reducible assumption) | (with_reducible refine bel_later ?_ _) | (with_reducible refine bel_alloc ?_ _) | (with_reducible refine bel_drew ?_) | (with_reducible refine bel_drewN ?_ _) | (with_reducible refine bel_set ?_ (by first | (simp; done) | (simp; omega) | (dsimp only; omega)) _))))))))) | (refine wpQuiet_step (fun K hK => ?_); go_simp; first | (refine hK _ ?_; clear hK K) | (apply Exists.intro; refine ⟨fun _ => ?_, hK _ ?_⟩; (first | (go_at_call 22; exact calls_calm (CK.out _)) | (go_at_call 21; exact calls_calm (CO.out _ (by (repeat (first | exact Below.refl _ _ | (with_reducible assumption) | (with_reducible refine bel_later ?_ _) | (with_reducible refine bel_alloc ?_ _) | (with_reducible refine bel_drew ?_) | (with_reducible refine bel_drewN ?_ _) | (with_reducible refine bel_set ?_ (by first | (simp; done) | (simp; omega) | (dsimp only; omega)) _))))))); clear hK K)))
  refine wpQuiet_nil ?_
  intro _ hw'
  obtain ⟨xq, hw''⟩ := hw'
  subst hw''
  obtain ⟨w2, hb2⟩ := xq
  dsimp only
  obtain ⟨w1, hw1⟩ : ∃ z, z = w.alloc (.cells #[.slice aa cl ac, .slice ia cl ic] 38) := ⟨_, rfl⟩
  have b1 : Below w.heap.size w w1 := by rw [hw1]; exact bel_alloc (Below.refl _ _) _
  have y0 : w1.cell? ⟨w.heap.size, 0, none⟩ = some (.slice aa cl ac) := by rw [hw1]; simp [go_sem]
  have y1 : w1.cell? ⟨w.heap.size, 1, none⟩ = some (.slice ia cl ic) := by rw [hw1]; simp [go_sem]
  have yz : w.heap.size < w1.heap.size := by rw [hw1]; simp
  rw [← hw1] at hb2
  have y0 := (hb2.cell (p := ⟨w.heap.size, 0, none⟩) yz).trans y0
  have y1 := (hb2.cell (p := ⟨w.heap.size, 1, none⟩) yz).trans y1
  have yz := Nat.lt_of_lt_of_le yz hb2.size
  have B2 := Lib.hid (bel_below b1 hb2)
  have C2 := Lib.hid (CP.out w2 B2.out)
  clear hw1 b1 hb2 CP CO CK
  go_wp2_with fail
  refine C2.out.mono ?_
  rintro e w3 ⟨v3, l, rfl, _, _, rfl, hs3, hb3⟩
  obtain ⟨va, vc, rfl, hvc, hvm⟩ := hs3.slice
  have B3 := Lib.hid (bel_below B2.out hb3)
  have S3 := Lib.hid (hs3.take (m := 2) (by omega))
  have hv2 : 2 ≤ vc := by omega
  clear hs3 hb3 C2 B2 y0 y1 yz
  go_wp2_with (at_builtin; refine wpList_app rfl _ _ 36 rfl w.heap.size 3 i0 (.int .i64 0) 8 Tryz.underlying36 hi0 hz0 hz1 hz2 rfl _ 1 [.int .i64 o] rfl (own_lit _ [.int .i64 o] 3 _ _ 1 ?c7 rfl ?c0 ?c1) _ _ 2 _ rfl ((S3.out.base (B' := 0) (Nat.zero_le _)).below ?c2) ?c3 ?c4 ?c5 ?c6 ?_)
  case c7 => simp
  case c0 => have := B3.out.size; simp; omega
  case c1 => simp [maxLen]
  case c2 => exact bel_alloc (bel_alloc (Below.refl _ _) _) _
  case c3 => intro i; rfl
  case c4 => simp only [maxLen]; omega
  case c5 => omega
  case c6 => have := B3.out.size; simp; omega
  intro v5 w5 ho hg
  have B5 : Hid (Below w.heap.size w w5) := (bel_alloc (bel_alloc B3.out _) _).grown hg (by have := B3.out.size; simp; omega) (fun k hk => by simp [Value.ownBlock] at hk; have := B3.out.size; omega)
  have ho' : w5.ownsRow w.heap.size 3 1 v5 3 ([o, s0, s1].map (Value.int .i64)) := ho
  obtain ⟨a5, c5, rfl⟩ := own_shapeK ho'
  have S5 := Lib.hid (own_ints ho')
  clear ho ho' hg
  go_wp2_with fail
  go_ret
  exact HK.out _ _ (by rw [HKL.out]; exact S5.out) B5.out
end Go.Proofs.YtahiahjhpakeiaaGreatDoor
end
section
namespace Go.Proofs.YtahiahjhpakeiaaGreatDoor
open Go.RowKit
set_option linter.unusedVariables false
set_option linter.unusedSimpArgs false

theorem insc_none (w : World) (v fv : Value) : Calls Tryz.prog 148 #[v, .int .i64 0, .int .i64 0, fv] w fun e w' => e = .returned (.tuple #[]) ∧ w' = w := by
  go_enter Tryz.func148, Tryz.ntmps148
  go_wp2
  refine wp_loop_rounds 1 ?_
  rw [rounds_succ]
  go_wp2
  go_end0
  exact ⟨rfl, rfl⟩
theorem stb_none (w : World) (v fv : Value) : Calls Tryz.prog 113 #[v, .int .i64 0, fv] w fun e w' => e = .returned (.tuple #[]) ∧ w' = w := by
  go_enter Tryz.func113, Tryz.ntmps113
  go_wp2
  refine wp_loop_rounds 1 ?_
  rw [rounds_succ]
  go_wp2_with (go_at_call 148; refine (insc_none _ _ _).mono ?_; rintro e w' ⟨rfl, rfl⟩)
  refine wp_loop_rounds 1 ?_
  rw [rounds_succ]
  go_wp2
  go_end0
  exact ⟨rfl, rfl⟩
theorem ssf_none (w : World) (a : Option Addr) (c : Nat) (fv : Value) : Calls Tryz.prog 58 #[.slice a 0 c, fv] w fun e w' => e = .returned (.tuple #[]) ∧ w' = w := by
  go_enter Tryz.func58, Tryz.ntmps58
  go_wp2_with (go_at_call 113; refine (stb_none _ _ _).mono ?_; rintro e w' ⟨rfl, rfl⟩)
  go_end0
  exact ⟨rfl, rfl⟩
end Go.Proofs.YtahiahjhpakeiaaGreatDoor
namespace Go.Proofs.YtahiahjhpakeiaaGreatDoor
open Go.RowKit Go.Maps Go.Sort Go.WideShapes Go.ChangeShapes Go.Deep
set_option linter.unusedVariables false
set_option linter.unusedSimpArgs false
attribute [local go_sem] later_cell later_frozen later_lt cell_set_off cell_set_block

/-- The number of the first of which something is true; -1: of none. -/
def FirstI (p : Int → Bool) (l : List Int) (r : Int) : Prop := (r = -1 ∧ ∀ x ∈ l, p x = false) ∨ ∃ k : Nat, r = k ∧ k < l.length ∧ p (nth l k) = true ∧ ∀ j, j < k → p (nth l j) = false
theorem indexq_at (w : World) (v : Value) (l : List Int) (p : Int → Bool) (gf : Nat) (lb : Array Value) (hl : SlAt 0 (fun i => .int .i64 (nth l i)) l.length w v) (hlm : l.length ≤ 4000000000)
    (heg : ∀ args w, (callFunc gf args).run Tryz.prog w = .ok (.enter gf args) w)
    (hp : ∀ wr, RowKit.Below w.heap.size w wr → ∀ x ∈ l, Calls Tryz.prog gf (#[.int .i64 x] ++ lb) wr fun e w' => e = .returned (.bool (p x)) ∧ RowKit.Below wr.heap.size wr w') :
    Calls Tryz.prog 55 #[v, .func (.func gf) #[] lb] w fun e w' => ∃ r : Int, e = .returned (.int .i64 r) ∧ FirstI p l r ∧ RowKit.Below w.heap.size w w' := by
  have HL := Lib.hid hl
  have HPP := Lib.hid hp
  obtain ⟨a, cap, rfl, _⟩ := hl.slice
  clear hl hp
  go_enter Tryz.func55, Tryz.ntmps55
  go_wp2
  go_loopw [5, 8] (fun _ i wr => ∃ k : Nat, k ≤ l.length ∧ i = .int .i64 k ∧ RowKit.Below w.heap.size w wr ∧ Hid (∀ j, j < k → p (nth l j) = false)) (fun _ i _ => l.length - (intOf i).toNat)
  case atStart => exact ⟨0, Nat.zero_le _, rfl, RowKit.Below.refl _ _, fun j hj => absurd hj (by omega)⟩
  case round =>
    obtain ⟨k, hk, rfl, hB, hno⟩ := hrel
    by_cases hlt : k < l.length
    · obtain ⟨b, off, rfl, _, hb, hc⟩ := HL.out.at k hlt wr hB
      have hin : nth l k ∈ l := nth_mem.2 ⟨k, hlt, rfl⟩
      have CP := Lib.hid (HPP.out wr hB _ hin)
      cases hq : p (nth l k) with
      | true =>
        have HQ := Lib.hid hq
        rw [hq] at CP
        clear hq hin
        go_wp2_with fail
        refine CP.out.mono ?_
        rintro e w5 ⟨rfl, hB5⟩
        have B5 := Lib.hid (bel_below hB hB5)
        clear hB5
        go_wp2_with fail
        go_ret
        exact ⟨k, rfl, Or.inr ⟨k, rfl, hlt, HQ.out, hno.out⟩, B5.out⟩
      | false =>
        have HQ := Lib.hid hq
        rw [hq] at CP
        clear hq hin
        go_wp2_with fail
        refine CP.out.mono ?_
        rintro e w5 ⟨rfl, hB5⟩
        have B5 := Lib.hid (bel_below hB hB5)
        clear hB5
        go_wp2_with fail
        go_roundw
        case rel =>
          go_light
          refine ⟨k + 1, by omega, by go_num, B5.out, fun j hj => ?_⟩
          by_cases e : j = k
          · subst e; exact HQ.out
          · exact hno.out j (by omega)
        case measure => go_light; simp [intOf]; omega
    · obtain rfl : k = l.length := by omega
      go_wp2_with fail
      go_ret
      exact ⟨-1, rfl, Or.inl ⟨rfl, fun x hx => by
        obtain ⟨j, hj, rfl⟩ := nth_mem.1 hx
        exact hno.out j hj⟩, hB⟩
/-- Is a number among some? -/
theorem conti_any (w : World) (v : Value) (l : List Int) (h : SlAt 0 (fun i => .int .i64 (nth l i)) l.length w v) (hl : l.length ≤ 4000000000) (x : Int) :
    Calls Tryz.prog 57 #[v, .int .i64 x] w fun e w' => e = .returned (.bool (l.contains x)) ∧ RowKit.Below w.heap.size w w' := by
  have CX := Lib.hid (indexi_any w v l h hl x)
  obtain ⟨a, cap, rfl, _⟩ := h.slice
  have HC : Hid (decide (0 ≤ idxI l x) = l.contains x) := show _ = _ by
    rw [Bool.eq_iff_iff, decide_eq_true_eq, List.contains_iff_mem]
    constructor
    · intro h0
      rcases idxI_cases l x with h1 | ⟨i, h1, h2, h3⟩
      · omega
      · rw [← h3]; exact nth_mem.2 ⟨i, h1, rfl⟩
    · intro hm
      have := idxI_mem hm
      omega
  obtain ⟨r, hr⟩ : ∃ z, z = idxI l x := ⟨_, rfl⟩
  rw [← hr] at CX HC
  clear h hr
  go_enter Tryz.func57, Tryz.ntmps57
  go_wp2_with fail
  refine CX.out.mono ?_
  rintro e w1 ⟨rfl, rfl⟩
  go_wp2_with fail
  all_goals
    go_ret
    exact ⟨by rw [← HC.out]; first | done | rfl | simp_all, RowKit.Below.refl _ _⟩
/-- Is a member on the circle? -/
theorem plan1_any (w : World) (f : RS) (I : Inv f) (av iv : Value) (hc : SlAt 0 (fun i => .int .i64 (nth (circ f) i)) (circ f).length w av) (hi : SlAt 0 (fun i => .int .u64 (nth ((circ f).map (idR f)) i)) (circ f).length w iv)
    (b : Nat) (c0 : w.cell? ⟨b, 0, none⟩ = some av) (c1 : w.cell? ⟨b, 1, none⟩ = some iv) (bz : b < w.heap.size) (n : Int) :
    Calls Tryz.prog 56 #[.int .i64 n, .pointer (some ⟨b, 0, none⟩)] w fun e w' => e = .returned (.bool (livesR f n)) ∧ RowKit.Below w.heap.size w w' := by
  have hcl : (circ f).length ≤ 32 := by rw [circ_len]; exact length_liveL f
  have hi2 : SlAt 0 (fun j => .int .u64 (nth ((circ f).map (idR f)) j)) ((circ f).map (idR f)).length w iv := by simpa using hi
  have CP := cpeer_at w (circ f) ((circ f).map (idR f)) av iv hc hi2 (by simp) (by omega) n
  obtain ⟨aa, ac, rfl, _⟩ := hc.slice
  obtain ⟨ia, ic, rfl, _⟩ := hi.slice
  obtain ⟨cl, hcle⟩ : ∃ z, z = (circ f).length := ⟨_, rfl⟩
  cases hl : livesR f n with
  | true =>
    have hm : ¬ idxI (circ f) n < 0 := idxI_mem ((circ_mem I).2 hl)
    have CY := Lib.hid (CP.mono fun e w' h => h.yes hm)
    rw [← hcle] at c0 c1 CY
    clear hc hi hi2 CP hl hm hcle hcl
    go_enter Tryz.func56, Tryz.ntmps56
    go_wp2_with fail
    refine CY.out.mono ?_
    rintro e w1 ⟨v, rfl, hs, hb⟩
    obtain ⟨a1, q1, rfl, _⟩ := hs.slice
    have HB := Lib.hid hb
    clear hs hb CY c0 c1
    go_wp2_with fail
    go_ret
    exact ⟨rfl, bel_alloc HB.out _⟩
  | false =>
    have hm : idxI (circ f) n < 0 := by
      rcases idxI_cases (circ f) n with h1 | ⟨i, h1, h2, h3⟩
      · omega
      · exfalso
        have := (circ_mem I).1 (nth_mem.2 ⟨i, h1, rfl⟩)
        rw [h3, hl] at this; cases this
    have CY := Lib.hid (CP.mono fun e w' h => (by unfold KnowPost at h; rw [if_pos hm] at h; exact h : e = .returned (.tuple #[.agg #[.int .u64 0, .int .i64 0, .slice none 0 0], .bool false]) ∧ RowKit.Below w.heap.size w w'))
    rw [← hcle] at c0 c1 CY
    clear hc hi hi2 CP hl hm hcle hcl
    go_enter Tryz.func56, Tryz.ntmps56
    go_wp2_with fail
    refine CY.out.mono ?_
    rintro e w1 ⟨rfl, hb⟩
    have HB := Lib.hid hb
    clear hb CY c0 c1
    go_wp2_with fail
    go_ret
    exact ⟨rfl, bel_alloc HB.out _⟩
end Go.Proofs.YtahiahjhpakeiaaGreatDoor
end
