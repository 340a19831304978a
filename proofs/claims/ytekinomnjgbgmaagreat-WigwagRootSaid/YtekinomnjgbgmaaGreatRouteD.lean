
/-
  A map from whole numbers to values of one cell, in memory: what a look-up gives, what a store and a delete leave, how many entries, how a range goes over it. No program is named here.
  A region that draws its order, all of whose operations leave a world of a class: those that leave the very world are taken first, by number; the rest by hand, whichever is ready. No operation need wait for all others. No program is named here.
  Ways to the owner of a place: who is next, the way, the fingers; on a ring on which all is as it should be each way ends at the owner. No walk stands here.
  The fingers in memory; what New, Owns, Next of the ways answer.
  The way to a place; who one's fingers are; all of them.
  The statements' own look at ways: awake.
  A ring and its fingers, in blocks of their own, side by side: what a call of either leaves.
-/
import Derived.Test.YtekinomnjgbgmaaGreatBase
import Derived.Maps.OwnSet
import Derived.Test.YtekinomnjgbgmaaGreatIdealZ
import Derived.Test.YtekinomnjgbgmaaGreatChordS
import Derived.Test.YtekinomnjgbgmaaGreatInts
namespace Go.Proofs.YtekinomnjgbgmaaGreat
open Go.RowKit Go.Maps
set_option linter.unusedVariables false
set_option linter.unusedSimpArgs false

/-- How a value reads here: as itself. -/
def anyR (v : Value) : Option (DataW Value × List MemPlace) := some (.held v, [])
theorem anyR_inv {v u : Value} {ps : List MemPlace} (h : anyR v = some (.held u, ps)) : v = u := by unfold anyR at h; simpa using (Option.some.inj h |> congrArg Prod.fst)

section
variable {P : Program} {k : TypeId}
/-- Block mb holds a map of c entries, from numbers to values. -/
def MapX (P : Program) (k : TypeId) (w : World) (mb c : Nat) (f : Int → Option Value) : Prop :=
  ∃ D, w.ownsMap P k anyR mb c D ∧ Maps.size D = c ∧ (∀ i, okInt i → ∀ z, D.atKey (.int .i64 i) (.held z) = .held ((f i).getD z)) ∧ (∀ i, okInt i → has D (.int .i64 i) = (f i).isSome) ∧ ∀ i, ¬ okInt i → f i = none
theorem own_tight {R : Value → Option (DataW Value × List MemPlace)} {w : World} {mb n : Nat} {D : DataW Value} (h : w.ownsMap P k R mb n D) {c : Nat} (hc : Maps.size D = c) : w.ownsMap P k R mb c D := by
  obtain ⟨es, clock, hb, F, hs, rfl⟩ := h
  refine ⟨es, clock, hb, F, ?_, rfl⟩
  rw [← hc]
  simp [Maps.size, length_sorted]
theorem MapX.kept {w w' : World} {mb c : Nat} {f : Int → Option Value} {row : Option Nat} (h : MapX P k w mb c f) (hg : w.grownBy w' row) (hne : some mb ≠ row) : MapX P k w' mb c f := by
  obtain ⟨D, h1, h2⟩ := h
  exact ⟨D, h1.kept hg hne, h2⟩
theorem MapX.lt {w : World} {mb c : Nat} {f : Int → Option Value} (h : MapX P k w mb c f) : mb < w.heap.size := by
  obtain ⟨D, h1, _⟩ := h
  exact h1.lt
theorem MapX.block {w w' : World} {mb c : Nat} {f : Int → Option Value} (h : MapX P k w mb c f) (hb : w'.heap[mb]? = w.heap[mb]?) : MapX P k w' mb c f := by
  obtain ⟨D, ⟨es, clock, h1, h2⟩, h3⟩ := h
  exact ⟨D, ⟨es, clock, hb.trans h1, h2⟩, h3⟩
theorem mapX_new (w : World) : MapX P k (w.alloc (.map #[] 0)) w.heap.size 0 (fun _ => none) :=
  ⟨.map [], World.ownsMap_made w P k anyR, rfl, fun _ _ _ => rfl, fun _ _ => rfl, fun _ _ => rfl⟩
/-- 'm[i]'. -/
theorem MapX.look {w : World} {mb c : Nat} {f : Int → Option Value} {t e : TypeId} (h : MapX P k w mb c f) (K : Keyed P k) (hk : P.underlying k = some (.int .i64)) (ht : P.underlying t = some (.map k e)) {z : Value}
    (hz : (zeroValue e).run P w = .ok z w) (i : Int) (hi : okInt i) : (Instr.lookup t (.map (some mb)) (.int .i64 i) false).run P w = .ok ((f i).getD z) w := by
  obtain ⟨D, h1, _, h2, _⟩ := h
  obtain ⟨v, ps, hrun, hv⟩ := h1.lookup K ht hz (zd := .held z) (zp := []) rfl (keyOf_int_mk hk hi)
  rw [h2 i hi z] at hv
  rw [hrun, anyR_inv hv]
/-- 'm[i]', and whether it is there. -/
theorem MapX.look_ok {w : World} {mb c : Nat} {f : Int → Option Value} {t e : TypeId} (h : MapX P k w mb c f) (K : Keyed P k) (hk : P.underlying k = some (.int .i64)) (ht : P.underlying t = some (.map k e)) {z : Value}
    (hz : (zeroValue e).run P w = .ok z w) (i : Int) (hi : okInt i) : (Instr.lookup t (.map (some mb)) (.int .i64 i) true).run P w = .ok (.tuple #[(f i).getD z, .bool (f i).isSome]) w := by
  obtain ⟨D, h1, _, h2, h3, _⟩ := h
  obtain ⟨v, ps, hrun, hv⟩ := h1.look_ok K ht hz (zd := .held z) (zp := []) rfl (keyOf_int_mk hk hi)
  rw [h2 i hi z] at hv
  rw [hrun, anyR_inv hv, h3 i hi]
/-- 'len(m)'. -/
theorem MapX.len {w : World} {mb c : Nat} {f : Int → Option Value} {t e : TypeId} (h : MapX P k w mb c f) (ht : P.underlying t = some (.map k e)) (ty : TypeId) : (Builtin.len_ #[t] ty #[.map (some mb)]).run P w = .ok (.int .i64 c) w := by
  obtain ⟨D, h1, h2, _⟩ := h
  rw [h1.len ht ty, h2]

def setX (f : Int → Option Value) (i : Int) (v : Value) : Int → Option Value := fun j => if j = i then some v else f j
def delX (f : Int → Option Value) (i : Int) : Int → Option Value := fun j => if j = i then none else f j
theorem setX_same (f : Int → Option Value) (i : Int) (v : Value) : setX f i v i = some v := by simp [setX]
theorem setX_ne (f : Int → Option Value) {i j : Int} (v : Value) (h : j ≠ i) : setX f i v j = f j := by simp [setX, h]
/-- 'm[i] = v'. -/
theorem MapX.store {w : World} {mb c : Nat} {f : Int → Option Value} {t e : TypeId} (h : MapX P k w mb c f) (K : Keyed P k) (hk : P.underlying k = some (.int .i64)) (ht : P.underlying t = some (.map k e))
    (hN : c < maxLen) (i : Int) (hi : okInt i) (v : Value) : ∃ w', (Instr.mapUpdate t (.map (some mb)) (.int .i64 i) v).run P w = .ok () w' ∧ MapX P k w' mb (if (f i).isSome then c else c + 1) (setX f i v) ∧ w.mapTurned w' mb := by
  obtain ⟨D, h1, hs, h2, h3, h4⟩ := h
  obtain ⟨w', hrun, h5, h6⟩ := h1.store K ht hN (keyOf_int_mk hk hi) (d := .held v) (ps := []) rfl
  have hkey := isKey_int i hi K hk
  have hM := h1.isMap
  refine ⟨w', hrun, ⟨_, own_tight h5 ?_, ?_, fun j hj z => ?_, fun j hj => ?_, fun j hj => ?_⟩, h6⟩
  · rw [size_put (h1.tidy K), h3 i hi, hs]
  · rw [size_put (h1.tidy K), h3 i hi, hs]
  · unfold setX
    by_cases e : j = i
    · subst e; rw [if_pos rfl, atKey_put_same hM hkey]; rfl
    · rw [if_neg e, atKey_put_other (by simpa using e), h2 j hj]
  · unfold setX
    by_cases e : j = i
    · subst e; rw [if_pos rfl, has_put_same hM hkey]; rfl
    · rw [if_neg e, has_put_other (by simpa using e), h3 j hj]
  · unfold setX
    rw [if_neg (fun e : j = i => hj (by rw [e]; exact hi)), h4 j hj]
/-- 'delete(m, i)'. -/
theorem MapX.drop {w : World} {mb c : Nat} {f : Int → Option Value} {t e : TypeId} (h : MapX P k w mb c f) (K : Keyed P k) (hk : P.underlying k = some (.int .i64)) (ht : P.underlying t = some (.map k e)) (ty : TypeId)
    (i : Int) (hi : okInt i) : ∃ w', (Builtin.delete_ #[t, k] ty #[.map (some mb), .int .i64 i]).run P w = .ok (.tuple #[]) w' ∧ MapX P k w' mb (if (f i).isSome then c - 1 else c) (delX f i) ∧ w.mapTurned w' mb := by
  obtain ⟨D, h1, hs, h2, h3, h4⟩ := h
  obtain ⟨w', hrun, h5, h6⟩ := h1.drop K ht (keyOf_int_mk hk hi) ty
  have hsz := size_del (h1.tidy K) (k := .int .i64 i)
  rw [h3 i hi, hs] at hsz
  have e : Maps.size (D.del (.int .i64 i)) = if (f i).isSome then c - 1 else c := by split at hsz <;> simp_all <;> omega
  refine ⟨w', hrun, ⟨_, own_tight h5 e, e, fun j hj z => ?_, fun j hj => ?_, fun j hj => ?_⟩, h6⟩
  · unfold delX
    by_cases e : j = i
    · subst e; rw [if_pos rfl, atKey_del_same]; rfl
    · rw [if_neg e, atKey_del_other (by simpa using e), h2 j hj]
  · unfold delX
    by_cases e : j = i
    · subst e; rw [if_pos rfl, has_del_same]; rfl
    · rw [if_neg e, has_del_other (by simpa using e), h3 j hj]
  · unfold delX
    split
    · rfl
    · exact h4 j hj

/-- 'for i, v := range m' under way: 'left i': is i still to come? -/
def RangX (P : Program) (k : TypeId) (w : World) (mb r c : Nat) (f : Int → Option Value) (left : Int → Bool) (cnt : Nat) : Prop :=
  ∃ D lf, w.ranges P k anyR mb r c D lf cnt ∧ Maps.size D = c ∧ (∀ i, okInt i → ∀ z, D.atKey (.int .i64 i) (.held z) = .held ((f i).getD z)) ∧ (∀ i, okInt i → has D (.int .i64 i) = (f i).isSome) ∧ (∀ i, ¬ okInt i → f i = none) ∧
    (∀ i, okInt i → lf (.int .i64 i) = left i) ∧ (∀ i, left i = true → okInt i ∧ (f i).isSome = true)
theorem RangX.map {w : World} {mb r c : Nat} {f : Int → Option Value} {left : Int → Bool} {cnt : Nat} (h : RangX P k w mb r c f left cnt) : MapX P k w mb c f := by
  obtain ⟨D, lf, h1, hs, h2, h3, h4, _⟩ := h
  exact ⟨D, h1.owns, hs, h2, h3, h4⟩
theorem RangX.kept {w w' : World} {mb r c : Nat} {f : Int → Option Value} {left : Int → Bool} {cnt : Nat} {row : Option Nat} (h : RangX P k w mb r c f left cnt) (hg : w.grownBy w' row) (h1 : some mb ≠ row) (h2 : some r ≠ row) : RangX P k w' mb r c f left cnt := by
  obtain ⟨D, lf, h3, h4⟩ := h
  exact ⟨D, lf, h3.kept hg h1 h2, h4⟩
theorem RangX.left_eq {w : World} {mb r c : Nat} {f : Int → Option Value} {left : Int → Bool} {cnt : Nat} (h : RangX P k w mb r c f left cnt) : w.rangeLeft mb r = cnt := by
  obtain ⟨D, lf, h1, _⟩ := h
  exact h1.left_eq
theorem RangX.lt {w : World} {mb r c : Nat} {f : Int → Option Value} {left : Int → Bool} {cnt : Nat} (h : RangX P k w mb r c f left cnt) : r < w.heap.size := by
  obtain ⟨D, lf, h1, _⟩ := h
  exact h1.lt
end

section
variable {P : Program} (w : World) {ops : Array Oper} {rest : List Oper} {o : Oper} {a : Act} {Q : Exit → Act → World → Prop}
theorem wpList_range_x (hg : o.guard = none) (m : Operand) (t : TypeId) (hop : o.op = Op.range t m) (k e : TypeId) (K : Keyed P k) (ht : P.underlying t = some (.map k e)) (mb c : Nat) (f : Int → Option Value)
    (hm : a.eval m = .map (some mb)) (h : MapX P k w mb c f) (hk : P.underlying k = some (.int .i64))
    (hK : ∀ w' cnt, RangX P k w' mb w.heap.size c f (fun i => (f i).isSome) cnt → w.grownBy w' none → w'.heap.size = w.heap.size + 1 → wpList P ops Q rest (a.put o.dst (.pointer (some ⟨w.heap.size, 0, none⟩))) w') :
    wpList P ops Q (o :: rest) a w := by
  obtain ⟨D, h1, hs, h2, h3, h4⟩ := h
  refine wpList_range_own w hg m t hop k e K ht anyR mb c D hm h1 (fun w' hr hg hs' => hK w' _ ⟨D, _, hr, hs, h2, h3, h4, h3, fun i hi => ?_⟩ hg hs')
  refine ⟨Classical.byContradiction fun hn => ?_, hi⟩
  have hi' : (f i).isSome = true := hi
  rw [h4 i hn] at hi'
  cases hi'
theorem wpList_next_x (hg : o.guard = none) (it : Operand) (hop : o.op = Op.next it false) (k : TypeId) (K : Keyed P k) (hk : P.underlying k = some (.int .i64)) (mb r c : Nat) (f : Int → Option Value) (left : Int → Bool) (cnt : Nat)
    (hit : a.eval it = .pointer (some ⟨r, 0, none⟩)) (h : RangX P k w mb r c f left cnt)
    (hDone : cnt = 0 → (∀ i, left i = false) → wpList P ops Q rest (a.put o.dst (.tuple #[.bool false])) w)
    (hMore : ∀ (i : Int) (v : Value) (w' : World) (cnt' : Nat), okInt i → left i = true → f i = some v → RangX P k w' mb r c f (fun j => left j && !(j == i)) cnt' → cnt' < cnt → w.grownBy w' (some r) → w'.heap.size = w.heap.size →
      (Instr.entry (.pointer (some ⟨r, 0, none⟩))).run P w' = .ok (.tuple #[.int .i64 i, v]) w' → wpList P ops Q rest (a.put o.dst (.tuple #[.bool true, .int .i64 i, v])) w') :
    wpList P ops Q (o :: rest) a w := by
  obtain ⟨D, lf, h1, hs, h2, h3, h4, h5, h6⟩ := h
  refine wpList_next_ranges w hg it hop k K anyR (Value.int .i64) (fun v : Value => v) (fun key kl hkl => ?_) (fun v y hv => ⟨v, rfl⟩) mb r c D lf cnt hit h1 (fun h0 hall => ?_) ?_
  · obtain ⟨x, e, _⟩ := Maps.keyOf_int_inv hk hkl
    exact ⟨x, e⟩
  · refine hDone h0 fun i => ?_
    by_cases hi : okInt i
    · rw [← h5 i hi]; exact hall _
    · cases hl : left i
      · rfl
      · exact absurd (h6 i hl).1 hi
  · intro x c' kl y w' cnt' hkey hlk hR hat hr hlt hgr hsz hen
    obtain ⟨x', e1, e2, e3⟩ := Maps.keyOf_int_inv hk hkey
    injection e1 with _ e1
    subst e1 e2
    have hleft : left x = true := by rw [← h5 x e3]; exact hlk
    have hsome := (h6 x hleft).2
    obtain ⟨v, hv⟩ := Option.isSome_iff_exists.1 hsome
    have hc : c' = v := by
      have h7 := hat (.held undef)
      rw [h2 x e3 undef, hv] at h7
      unfold anyR at hR
      have h8 : y.1 = .held c' := by rw [← Option.some.inj hR]
      rw [h8] at h7
      injection h7 with h7
      simpa using h7.symm
    subst hc
    refine hMore x c' w' cnt' e3 hleft hv ⟨D, _, hr, hs, h2, h3, h4, fun j hj => ?_, fun j hj => ?_⟩ hlt hgr hsz hen
    · rw [h5 j hj]
      congr 1
      by_cases e : j = x
      · subst e; rw [WideAt.sameKey_self (isKey_int j hj K hk)]; simp
      · have : (Lit.int .i64 j).sameKey (Lit.int .i64 x) = false := by
          cases hs : (Lit.int .i64 j).sameKey (Lit.int .i64 x)
          · rfl
          · have := WideAt.sameKey_eq hs
            injection this with _ this
            exact absurd this e
        rw [this]; simp [e]
    · simp at hj
      exact h6 j hj.1
theorem wpList_len_x (hg : o.guard = none) (m : Operand) (t : TypeId) (hop : o.op = Op.call { callee := Callee.builtin Builtin.len, args := #[m], argTypes := #[t] }) (k e : TypeId) (ht : P.underlying t = some (.map k e)) (mb c : Nat) (f : Int → Option Value)
    (hm : a.eval m = .map (some mb)) (h : MapX P k w mb c f) (hK : wpList P ops Q rest (a.put o.dst (.int .i64 c)) w) : wpList P ops Q (o :: rest) a w := by
  obtain ⟨D, h1, hs, _⟩ := h
  refine wpList_len_own w hg m t hop k e ht anyR mb c D hm h1 ?_
  rw [hs]; exact hK
end
end Go.Proofs.YtekinomnjgbgmaaGreat
namespace Go.Proofs.YtekinomnjgbgmaaGreat
open Go
set_option linter.unusedVariables false
set_option linter.unusedSimpArgs false

section
variable {P : Program} {ops : Array Oper} {md : Region.Mode} {C : World → Prop} {Q' : Exit → Act → World → Prop}
theorem wpAnyC_firstA {i : Nat} {oi : Oper} {v : Value} (hi : ops[i]? = some oi) (hsel : ∀ (j : Nat) (o : Oper) cs b, ops[j]? = some o → o.op ≠ .select cs b) (hQ : ∀ c a w, Q' (.panic c) (a.put oi.dst v) w → Q' (.panic c) a w) :
    ∀ (f : Nat) (listed : Array Bool) (a : Act) (w : World), HeadInv md ops ops.size listed → C w →
      (∀ j oj, ops[j]? = some oj → j ≠ i → listed.getD j true = false → (∀ e ∈ oj.after, Region.binds md e = true → e.on ≠ i) → oi.apart ops oj = true) →
      i ∈ Region.ready md ops listed → StillIn P ops C oi v a →
      wpAnyC P md ops C ops.size Q' f (listed.setIfInBounds i true) (a.put oi.dst v) w → wpAnyC P md ops C ops.size Q' (f + 1) listed a w := by
  intro f
  induction f with
  | zero =>
    intro listed a w inv hC _ hr hy H
    have hun := (mem_ready.1 hr).1
    refine ⟨fun h => (by rw [h] at hr; cases hr), fun j hj => ?_⟩
    by_cases hji : j = i
    · subst hji; exact hy.wpOp hi hC ⟨fun _ => hC, H⟩
    · have := ready_mono hj hji
      rw [H.1] at this
      cases this
  | succ f ih =>
    intro listed a w inv hC hfree hr hy H
    have hun := (mem_ready.1 hr).1
    refine ⟨fun h => (by rw [h] at hr; cases hr), fun j hj => ?_⟩
    have hjn : j < ops.size := by
      obtain ⟨_, oj, hoj, _⟩ := mem_ready.1 hj
      exact (Array.getElem?_eq_some_iff.1 hoj).1
    by_cases hji : j = i
    · subst hji; exact hy.wpOp hi hC ⟨fun _ => hC, H⟩
    · have h1 := H.2 j (ready_mono hj hji)
      obtain ⟨hjun, oj, hoj, hall⟩ := mem_ready.1 hj
      have hnot : ∀ e ∈ oj.after, Region.binds md e = true → e.on ≠ i := fun e he hb heq => by
        have h1 := hall e he hb
        rw [heq, getD_both hun] at h1
        cases h1
      have h2 := wpOp_put_still hoj (hfree j oj hoj hji hjun hnot) (fun cs b => hsel i oi cs b hi) (fun cs b => hsel j oj cs b hoj) hQ hy h1
      have hfree' : ∀ k ok, ops[k]? = some ok → k ≠ i → (listed.setIfInBounds j true).getD k true = false →
          (∀ e ∈ ok.after, Region.binds md e = true → e.on ≠ i) → oi.apart ops ok = true := fun k ok hk hki hun hno => by
        refine hfree k ok hk hki ?_ hno
        by_cases hjk : j = k
        · subst hjk; exact hjun
        · rw [getD_set_ne true hjk] at hun; exact hun
      refine wpOp_mono (fun a' w' h3 => ⟨h3.2.1, ih (listed.setIfInBounds j true) a' w' (inv.set hj hjn) (h3.2.1 hjn) hfree' (ready_mono hr (Ne.symm hji)) h3.1 ?_⟩) h2
      rw [Array.setIfInBounds_comm _ _ hji]
      exact h3.2.2
theorem wpAnyC_headsA {g : Nat} {Lq : Act → Prop} {w : World} (hC : C w) (hsel : Region.noSelect ops = true) (hQ : ∀ (d : Option Tmp) v c a w, Q' (.panic c) (a.put d v) w → Q' (.panic c) a w) :
    ∀ (ks : List Nat) (listed : Array Bool) (a : Act), HeadInv md ops ops.size listed → headNums md ops ks listed = true →
    (∀ a', Lq a' → wpAnyC P md ops C ops.size Q' g (listAll ks listed) a' w) → wpTame P ops C Lq (headOps ops ks) a → wpAnyC P md ops C ops.size Q' (ks.length + g) listed a w
  | [], listed, a, _, _, hend, h => by rw [List.length_nil, Nat.zero_add]; exact hend a h
  | k :: ks, listed, a, inv, hB, hend, h => by
    simp only [headNums, Bool.and_eq_true] at hB
    obtain ⟨⟨hr, hf⟩, hB'⟩ := hB
    have hr' : k ∈ Region.ready md ops listed := by simpa using hr
    obtain ⟨_, o, h0, _⟩ := mem_ready.1 hr'
    have hk : k < ops.size := (Array.getElem?_eq_some_iff.1 h0).1
    unfold headOps at h
    rw [h0] at h
    obtain ⟨v, hy, hK⟩ := stillIn_of_tame h
    rw [List.length_cons, show ks.length + 1 + g = (ks.length + g) + 1 by omega]
    exact wpAnyC_firstA h0 (Region.noSelect_spec hsel) (fun c a w => hQ _ _ c a w) (ks.length + g) listed a w inv hC (Region.free_spec h0 hf) hr' hy
      (wpAnyC_headsA hC hsel hQ ks _ _ (inv.set hr' hk) hB' hend hK)
def allB (md : Region.Mode) (ops : Array Oper) (ks : List Nat) : Bool :=
  Region.noSelect ops && decide (ks.length ≤ ops.size) && headNums md ops ks (Array.replicate ops.size false)
theorem wp_region_all {id : Nat} {a : Act} {w : World} {l : List Oper} (ks : List Nat) (C : World → Prop) (hm : P.follows .mixedOrders = true) (hB : allB .any l.toArray ks = true) (hC : C { w with drawn := w.drawn + 1 })
    (hQ : ∀ (d : Option Tmp) v c a w, Q' (.panic c) (a.put d v) w → Q' (.panic c) a w)
    (hh : wpTame P l.toArray C (fun a' => wpAnyC P .any l.toArray C l.length Q' (l.length - ks.length) (listAll ks (Array.replicate l.length false)) a' { w with drawn := w.drawn + 1 }) (headOps l.toArray ks) a) : (Code.region id l.toArray true).wp P Q' a w := by
  simp only [allB, Bool.and_eq_true, decide_eq_true_eq] at hB
  obtain ⟨⟨hsel, hkl⟩, hnum⟩ := hB
  have inv0 : HeadInv .any l.toArray l.toArray.size (Array.replicate l.toArray.size false) :=
    ⟨by simp, fun j oj _ hl => (by rw [getD_replicate_false] at hl; cases hl), fun t ht ht2 => by omega⟩
  refine wp_region_any hm (wpAny_of_C (C := C) (n := l.toArray.size) _ _ _ _ ?_)
  have H := wpAnyC_headsA (md := .any) (ops := l.toArray) (P := P) (Q' := Q') (g := l.length - ks.length) hC hsel hQ ks (Array.replicate l.toArray.size false) a inv0 hnum (fun a' h => by simpa using h) hh
  have e : ks.length + (l.length - ks.length) = l.toArray.size := by simp at hkl ⊢; omega
  rwa [e] at H
theorem wpAnyC_done {n : Nat} {listed : Array Bool} {a : Act} {w : World} (hr : (Region.ready md ops listed == []) = true) (h : wpList P ops Q' [] a w) : wpAnyC P md ops C n Q' 0 listed a w :=
  ⟨by simpa using hr, h⟩
end
end Go.Proofs.YtekinomnjgbgmaaGreat
namespace Go.Proofs.YtekinomnjgbgmaaGreat
open Go.RowKit Go.Maps Go.Sort
set_option linter.unusedVariables false
set_option linter.unusedSimpArgs false

set_option linter.unusedSectionVars false
/-- The place ahead of place k, round the circle. -/
def prevK (n k : Nat) : Nat := if k = 0 then n - 1 else k - 1
theorem prevK_lt {n k : Nat} (h : k < n) : prevK n k < n := by unfold prevK; split <;> omega
theorem below_spec (s : List Int) (hs : Up s) (x : Int) : ∀ k, k < s.length → (nth s k < x ↔ k < below s x) := by
  induction s with
  | nil => intro k hk; simp at hk
  | cons y s ih =>
    have hp := List.pairwise_cons.1 hs
    intro k hk
    unfold below at *
    by_cases hy : y < x
    · rw [List.countP_cons_of_pos (by simpa using hy)]
      cases k with
      | zero => rw [nth_zero]; simp [hy]
      | succ k => rw [nth_succ, ih hp.2 k (by simpa using hk)]; omega
    · rw [List.countP_cons_of_neg (by simpa using hy)]
      have h0 : s.countP (fun z => decide (z < x)) = 0 := by
        rw [List.countP_eq_zero]
        intro z hz
        have := hp.1 z hz
        simp; omega
      rw [h0]
      cases k with
      | zero => rw [nth_zero]; simp [hy]
      | succ k =>
        rw [nth_succ]
        have hk' : k < s.length := by simpa using hk
        have := hp.1 _ (nth_mem.2 ⟨k, hk', rfl⟩)
        constructor
        · intro h; omega
        · intro h; omega
theorem ownerI_nat {s : List Int} (h : 0 < s.length) (x : Int) : ∃ i : Nat, i < s.length ∧ ownerI s x = i ∧ (i = if below s x = s.length then 0 else below s x) := by
  have := below_le s x
  refine ⟨if below s x = s.length then 0 else below s x, by split <;> omega, ?_, rfl⟩
  unfold ownerI
  rw [if_neg (by omega)]
  split <;> simp
/-- A place lies behind the one ahead of its owner, and of no other. -/
theorem parts_in {s : List Int} (hs : Up s) (hp : ∀ z ∈ s, isPlace z) {x : Int} (hx : isPlace x) {i : Nat} (ho : ownerI s x = i) (k : Nat) (hk : k < s.length) :
    inB x (nth s (prevK s.length k)) (nth s k) = decide (k = i) := by
  obtain ⟨i', hi', ho', hi2⟩ := ownerI_nat (s := s) (by omega) x
  have hii : i = i' := by omega
  subst hii
  have b := below_spec s hs x
  have hb := below_le s x
  have pk := hp _ (nth_mem.2 ⟨k, hk, rfl⟩)
  have pp := hp _ (nth_mem.2 ⟨_, prevK_lt hk, rfl⟩)
  have bk := b k hk
  have bp := b _ (prevK_lt hk)
  generalize hj : below s x = j at *
  by_cases h0 : k = 0
  · subst h0
    have hp0 : prevK s.length 0 = s.length - 1 := rfl
    rw [hp0] at bp pp ⊢
    by_cases h1 : s.length = 1
    · rw [h1]
      have : i = 0 := by omega
      subst this
      simp [inB]
    · have hlt := up_nth hs (i := 0) (j := s.length - 1) (by omega) (by omega)
      generalize nth s 0 = u at *
      generalize nth s (s.length - 1) = v at *
      rw [Bool.eq_iff_iff]
      unfold inB dist isPlace at *
      simp only [Bool.or_eq_true, Bool.and_eq_true, beq_iff_eq, bne_iff_ne, decide_eq_true_eq, ne_eq]
      split at hi2 <;> omega
  · have hp0 : prevK s.length k = k - 1 := by unfold prevK; rw [if_neg h0]
    rw [hp0] at bp pp ⊢
    have hlt := up_nth hs (i := k - 1) (j := k) (by omega) hk
    generalize nth s k = u at *
    generalize nth s (k - 1) = v at *
    rw [Bool.eq_iff_iff]
    unfold inB dist isPlace at *
    simp only [Bool.or_eq_true, Bool.and_eq_true, beq_iff_eq, bne_iff_ne, decide_eq_true_eq, ne_eq]
    split at hi2 <;> omega

/-- Which of the first k places is least far from x: -1: there is none. -/
def Best (s : List Int) (x : Int) (k : Nat) (b : Int) : Prop :=
  (k = 0 ∧ b = -1) ∨ ∃ j : Nat, j < k ∧ b = j ∧ (∀ i, i < j → dist x (nth s j) < dist x (nth s i)) ∧ ∀ i, i < k → dist x (nth s j) ≤ dist x (nth s i)
theorem best_first {s : List Int} {x : Int} {k : Nat} (h : Best s x k (-1)) : k = 0 := by
  rcases h with ⟨h, _⟩ | ⟨j, _, h, _⟩
  · exact h
  · omega
theorem best_start {s : List Int} {x : Int} {k : Nat} (h : k = 0) : Best s x (k + 1) k := by
  subst h
  refine Or.inr ⟨0, by omega, rfl, fun i hi => absurd hi (by omega), fun i hi => ?_⟩
  have : i = 0 := by omega
  subst this
  exact Int.le_refl _
theorem best_take {s : List Int} {x : Int} {k j : Nat} (h : Best s x k j) (hd : dist x (nth s k) < dist x (nth s j)) : Best s x (k + 1) k := by
  rcases h with ⟨_, h⟩ | ⟨j', h1, h2, h3, h4⟩
  · omega
  · have : j = j' := by omega
    subst this
    refine Or.inr ⟨k, by omega, rfl, fun i hi => ?_, fun i hi => ?_⟩
    · have := h4 i hi; omega
    · by_cases e : i = k
      · subst e; exact Int.le_refl _
      · have := h4 i (by omega); omega
theorem best_skip {s : List Int} {x : Int} {k j : Nat} (h : Best s x k j) (hd : ¬ dist x (nth s k) < dist x (nth s j)) : Best s x (k + 1) j := by
  rcases h with ⟨_, h⟩ | ⟨j', h1, h2, h3, h4⟩
  · omega
  · have : j = j' := by omega
    subst this
    refine Or.inr ⟨j, by omega, rfl, h3, fun i hi => ?_⟩
    by_cases e : i = k
    · subst e; omega
    · exact h4 i (by omega)
theorem best_all {s : List Int} (hs : Up s) (hp : ∀ z ∈ s, isPlace z) {x : Int} (hx : isPlace x) {b : Int} (h : Best s x s.length b) : b = ownerI s x := by
  rcases h with ⟨h, rfl⟩ | ⟨j, hj, rfl, h3, h4⟩
  · unfold ownerI; rw [if_pos h]
  · obtain ⟨i, hi, ho, hi2⟩ := ownerI_nat (s := s) (by omega) x
    rw [ho]
    have b := below_spec s hs x
    have hb := below_le s x
    have h1 := h4 i hi
    have hij : dist x (nth s i) ≤ dist x (nth s j) := by
      have pi := hp _ (nth_mem.2 ⟨i, hi, rfl⟩)
      have pj := hp _ (nth_mem.2 ⟨j, hj, rfl⟩)
      have bi := b i hi
      have bj := b j hj
      have hm : i ≤ j → nth s i ≤ nth s j := fun h => by
        rcases Nat.eq_or_lt_of_le h with rfl | h
        · exact Int.le_refl _
        · exact Int.le_of_lt (up_nth hs h hj)
      generalize hbe : below s x = c at *
      generalize nth s i = u at *
      generalize nth s j = v at *
      unfold dist isPlace at *
      split at hi2 <;> omega
    have hjj : ¬ i < j := fun h => by have := h3 i h; omega
    have hii : ¬ j < i := fun h => by
      have h5 := up_nth hs h hi
      have e : dist x (nth s i) = dist x (nth s j) := by omega
      have pi := hp _ (nth_mem.2 ⟨i, hi, rfl⟩)
      have pj := hp _ (nth_mem.2 ⟨j, hj, rfl⟩)
      generalize nth s i = u at *
      generalize nth s j = v at *
      unfold dist isPlace at *
      omega
    omega

section
variable {f : RS} (I : Inv f)
include I
theorem ids_place : ∀ z ∈ (circ f).map (idR f), isPlace z := fun z hz => by
  obtain ⟨n, _, rfl⟩ := List.mem_map.1 hz
  exact place_id I.dom n
theorem nth_ids {k : Nat} (hk : k < (circ f).length) : nth ((circ f).map (idR f)) k = idR f (nth (circ f) k) := by
  unfold nth; simp [hk]
/-- Who lives and is least far is the owner. -/
theorem owner_best {x : Int} (hx : isPlace x) {n : Int} (hn : livesR f n = true) (h : ∀ y, livesR f y = true → dist x (idR f n) ≤ dist x (idR f y)) : cOwner (circ f) ((circ f).map (idR f)) x = n := by
  obtain ⟨j, hj, rfl⟩ := nth_mem.1 ((circ_mem I).2 hn)
  have hb : Best ((circ f).map (idR f)) x ((circ f).map (idR f)).length j := by
    refine Or.inr ⟨j, by simpa using hj, rfl, fun i hi => ?_, fun i hi => ?_⟩
    · have hi2 : i < (circ f).length := by omega
      rw [nth_ids I hj, nth_ids I hi2]
      have h1 := h _ ((circ_mem I).1 (nth_mem.2 ⟨i, hi2, rfl⟩))
      have h2 := circ_mono I hi hj
      have p1 := place_id I.dom (nth (circ f) i)
      have p2 := place_id I.dom (nth (circ f) j)
      generalize idR f (nth (circ f) i) = u at *
      generalize idR f (nth (circ f) j) = v at *
      unfold dist isPlace at *
      omega
    · have hi2 : i < (circ f).length := by simpa using hi
      rw [nth_ids I hj, nth_ids I hi2]
      exact h _ ((circ_mem I).1 (nth_mem.2 ⟨i, hi2, rfl⟩))
  have hu : Up ((circ f).map (idR f)) := circ_up I
  have e := best_all hu (ids_place I) hx hb
  unfold cOwner
  rw [← e, if_neg (by omega)]
  rfl
/-- Which member of the circle it is. -/
theorem cAt_nat (x : Int) : ∃ i : Nat, i < (circ f).length ∧ cAt (circ f) x = nth (circ f) i ∧ cAt (circ f) (x + 1) = nth (circ f) ((i + 1) % (circ f).length) ∧ x % ((circ f).length : Int) = i := by
  have h4 : 4 ≤ (circ f).length := by rw [circ_len]; exact live4 I
  obtain ⟨i, hi⟩ : ∃ i : Nat, x % ((circ f).length : Int) = i := ⟨(x % ((circ f).length : Int)).toNat, by have := Int.emod_nonneg x (show ((circ f).length : Int) ≠ 0 by omega); omega⟩
  have hil : i < (circ f).length := by have := Int.emod_lt_of_pos x (show (0 : Int) < ((circ f).length : Int) by omega); omega
  have e1 : cAt (circ f) x = nth (circ f) i := by unfold cAt; rw [hi]; rfl
  have e2 : cAt (circ f) (x + 1) = nth (circ f) ((i + 1) % (circ f).length) := by
    unfold cAt
    rw [← Int.emod_add_emod, hi]
    congr 1
  exact ⟨i, hil, e1, e2, hi⟩
theorem cAt_lives (x : Int) : livesR f (cAt (circ f) x) = true := by
  obtain ⟨i, hi, e, _⟩ := cAt_nat I x
  rw [e]; exact (circ_mem I).1 (nth_mem.2 ⟨i, hi, rfl⟩)
theorem cAt_ne (x : Int) : cAt (circ f) (x + 1) ≠ cAt (circ f) x := fun e => by
  have h4 : 4 ≤ (circ f).length := by rw [circ_len]; exact live4 I
  obtain ⟨i, hi, e1, e2, _⟩ := cAt_nat I x
  rw [e1, e2] at e
  rcases Nat.lt_or_ge (i + 1) (circ f).length with h | h
  · rw [Nat.mod_eq_of_lt h] at e
    have := circ_mono I (Nat.lt_succ_self i) h
    rw [e] at this; omega
  · rw [show i + 1 = (circ f).length by omega, Nat.mod_self] at e
    have := circ_mono I (a := 0) (b := i) (by omega) hi
    rw [e] at this; omega
/-- Nobody is nearer behind a member than the next one. -/
theorem next_near (x : Int) {y : Int} (hy : livesR f y = true) (hne : y ≠ cAt (circ f) x) : dist (idR f (cAt (circ f) x)) (idR f (cAt (circ f) (x + 1))) ≤ dist (idR f (cAt (circ f) x)) (idR f y) := by
  have h4 : 4 ≤ (circ f).length := by rw [circ_len]; exact live4 I
  obtain ⟨i, hi, e1, e2, _⟩ := cAt_nat I x
  rw [e1] at hne ⊢
  rw [e2]
  obtain ⟨j, hj, rfl⟩ := nth_mem.1 ((circ_mem I).2 hy)
  have hij : j ≠ i := fun e => hne (by rw [e])
  have p1 := place_id I.dom (nth (circ f) i)
  have p2 := place_id I.dom (nth (circ f) j)
  have p3 := place_id I.dom (nth (circ f) ((i + 1) % (circ f).length))
  rcases Nat.lt_or_ge (i + 1) (circ f).length with h | h
  · rw [Nat.mod_eq_of_lt h] at p3 ⊢
    have m1 := circ_mono I (Nat.lt_succ_self i) h
    rcases Nat.lt_or_ge j i with h1 | h1
    · have m2 := circ_mono I h1 hi
      generalize idR f (nth (circ f) i) = u at *
      generalize idR f (nth (circ f) j) = v at *
      generalize idR f (nth (circ f) (i + 1)) = t at *
      unfold dist isPlace at *
      omega
    · have m2 : idR f (nth (circ f) (i + 1)) ≤ idR f (nth (circ f) j) := by
        rcases Nat.eq_or_lt_of_le (show i + 1 ≤ j by omega) with h2 | h2
        · rw [h2]; exact Int.le_refl _
        · exact Int.le_of_lt (circ_mono I h2 hj)
      generalize idR f (nth (circ f) i) = u at *
      generalize idR f (nth (circ f) j) = v at *
      generalize idR f (nth (circ f) (i + 1)) = t at *
      unfold dist isPlace at *
      omega
  · rw [show i + 1 = (circ f).length by omega, Nat.mod_self] at p3 ⊢
    have m1 := circ_mono I (a := j) (b := i) (by omega) hi
    have m2 : idR f (nth (circ f) 0) ≤ idR f (nth (circ f) j) := by
      rcases Nat.eq_or_lt_of_le (Nat.zero_le j) with h2 | h2
      · rw [← h2]; exact Int.le_refl _
      · exact Int.le_of_lt (circ_mono I h2 hj)
    generalize idR f (nth (circ f) i) = u at *
    generalize idR f (nth (circ f) j) = v at *
    generalize idR f (nth (circ f) 0) = t at *
    unfold dist isPlace at *
    omega
/-- The owner of the place behind a member is the next one. -/
theorem owner_next (x : Int) : cOwner (circ f) ((circ f).map (idR f)) ((idR f (cAt (circ f) x) + 1) % 18446744073709551616) = cAt (circ f) (x + 1) := by
  refine owner_best I (by unfold isPlace; omega) (cAt_lives I _) fun y hy => ?_
  have pn := place_id I.dom (cAt (circ f) x)
  have py := place_id I.dom y
  have ph := place_id I.dom (cAt (circ f) (x + 1))
  have hh : idR f (cAt (circ f) (x + 1)) ≠ idR f (cAt (circ f) x) := fun e => cAt_ne I x (I.uniq _ _ (cAt_lives I _) (cAt_lives I _) e)
  by_cases e : y = cAt (circ f) x
  · rw [e]
    generalize idR f (cAt (circ f) x) = u at *
    generalize idR f (cAt (circ f) (x + 1)) = t at *
    unfold dist isPlace at *
    omega
  · have h1 := next_near I x hy e
    have h2 : idR f y ≠ idR f (cAt (circ f) x) := fun e2 => e (I.uniq _ _ hy (cAt_lives I _) e2)
    generalize idR f (cAt (circ f) x) = u at *
    generalize idR f (cAt (circ f) (x + 1)) = t at *
    generalize idR f y = v at *
    unfold dist isPlace at *
    omega
/-- The owner of a member's own place is it. -/
theorem owner_self {n : Int} (hn : livesR f n = true) : cOwner (circ f) ((circ f).map (idR f)) (idR f n) = n := by
  refine owner_best I (place_id I.dom n) hn fun y hy => ?_
  have pn := place_id I.dom n
  have py := place_id I.dom y
  generalize idR f n = u at *
  generalize idR f y = v at *
  unfold dist isPlace at *
  omega
end

set_option linter.unusedSectionVars false
section
variable {f : RS} (I : Inv f)
include I
theorem circ_nodup : (circ f).Nodup := by
  refine List.pairwise_iff_getElem.2 fun i j hi hj hij e => ?_
  have := circ_mono I hij hj
  rw [nth_eq hj, nth_eq hi, e] at this
  omega
theorem cAt_idx (x : Int) : idxI (circ f) (cAt (circ f) x) = x % ((circ f).length : Int) := by
  obtain ⟨i, hi, e1, _, e2⟩ := cAt_nat I x
  rw [e1, idxI_at (circ_nodup I) hi, e2]
theorem cAt_mod (x y : Int) : cAt (circ f) (x % ((circ f).length : Int) + y) = cAt (circ f) (x + y) := by
  unfold cAt
  rw [Int.emod_add_emod]
theorem cAt_inj {x y : Int} (h : cAt (circ f) x = cAt (circ f) y) : x % ((circ f).length : Int) = y % ((circ f).length : Int) := by
  rw [← cAt_idx I, ← cAt_idx I, h]
theorem cAt_zero : ∃ i0 : Nat, i0 < (circ f).length ∧ cAt (circ f) i0 = 0 := by
  obtain ⟨i, hi, e⟩ := nth_mem.1 ((circ_mem I).2 (I.base 0 (by omega) (by omega)))
  refine ⟨i, hi, ?_⟩
  unfold cAt
  rw [show ((i : Int) % ((circ f).length : Int)).toNat = i by rw [Int.emod_eq_of_lt (by omega) (by omega)]; simp]
  exact e
/-- What a member of the circle is told. -/
theorem know_at (x : Int) {w w' : World} {e : Ending} (h : KnowPost w (circ f) ((circ f).map (idR f)) (cAt (circ f) x) e w') :
    ∃ (v : Value) (l : List Int), e = .returned (.tuple #[.agg #[.int .u64 (idR f (cAt (circ f) x)), .int .i64 (cAt (circ f) (x - 1)), v], .bool true]) ∧ l.length = 3 ∧ nth l 0 = cAt (circ f) (x + 1) ∧
      l = [cAt (circ f) (x + 1), cAt (circ f) (x + 2), cAt (circ f) (x + 3)] ∧ SlAt w.heap.size (fun i => .int .i64 (nth l i)) 3 w' v ∧ RowKit.Below w.heap.size w w' := by
  have h4 : 4 ≤ (circ f).length := by rw [circ_len]; exact live4 I
  have hge : ¬ idxI (circ f) (cAt (circ f) x) < 0 := by rw [cAt_idx I]; have := Int.emod_nonneg x (show ((circ f).length : Int) ≠ 0 by omega); omega
  obtain ⟨v, rfl, hs, hb⟩ := h.yes hge
  have hn : cNum (circ f) = 3 := by unfold cNum; omega
  rw [hn, cAt_idx I] at hs
  rw [cAt_idx I]
  obtain ⟨i, hi, e1, _, e2⟩ := cAt_nat I x
  have l0 : cSuc (circ f) (x % ((circ f).length : Int)) 3 = [cAt (circ f) (x + 1), cAt (circ f) (x + 2), cAt (circ f) (x + 3)] := by
    simp only [cSuc, List.range_succ, List.range_zero, List.nil_append, List.map_append, List.map_cons, List.map_nil, List.cons_append]
    rw [show x % ((circ f).length : Int) + 1 + ((0 : Nat) : Int) = x % ((circ f).length : Int) + 1 by omega, show x % ((circ f).length : Int) + 1 + ((1 : Nat) : Int) = x % ((circ f).length : Int) + 2 by omega, show x % ((circ f).length : Int) + 1 + ((2 : Nat) : Int) = x % ((circ f).length : Int) + 3 by omega, cAt_mod I, cAt_mod I, cAt_mod I]
  rw [l0] at hs
  refine ⟨v, _, ?_, rfl, rfl, rfl, hs, hb⟩
  rw [show x % ((circ f).length : Int) - 1 = x % ((circ f).length : Int) + (-1) by omega, cAt_mod I, show x + -1 = x - 1 by omega, e2, e1]
  rw [show ((i : Int)).toNat = i by simp, nth_ids I hi]
end

theorem cAt_of {f : RS} (I : Inv f) {n : Int} (h : livesR f n = true) : ∃ x : Nat, n = cAt (circ f) x := by
  obtain ⟨i, hi, rfl⟩ := nth_mem.1 ((circ_mem I).2 h)
  refine ⟨i, ?_⟩
  unfold cAt
  rw [Int.emod_eq_of_lt (by omega) (by omega)]; simp
theorem owner_lives {f : RS} (I : Inv f) (X : Int) : livesR f (cOwner (circ f) ((circ f).map (idR f)) X) = true := by
  have h4 : 4 ≤ (circ f).length := by rw [circ_len]; exact live4 I
  have hlen : ((circ f).map (idR f)).length = (circ f).length := by simp
  obtain ⟨i, hi, ho, _⟩ := ownerI_nat (s := (circ f).map (idR f)) (by omega) X
  unfold cOwner
  rw [ho, if_neg (by omega)]
  exact (circ_mem I).1 (nth_mem.2 ⟨i, by omega, rfl⟩)
/-- A place lies behind the one ahead of its owner, and of no other. -/
theorem owns_in {f : RS} (I : Inv f) {X : Int} (hX : isPlace X) (x : Int) : (cOwner (circ f) ((circ f).map (idR f)) X == cAt (circ f) x) = inB X (idR f (cAt (circ f) (x - 1))) (idR f (cAt (circ f) x)) := by
  have h4 : 4 ≤ (circ f).length := by rw [circ_len]; exact live4 I
  obtain ⟨k, hk, e1, _, e2⟩ := cAt_nat I x
  have hlen : ((circ f).map (idR f)).length = (circ f).length := by simp
  obtain ⟨i, hi, ho, _⟩ := ownerI_nat (s := (circ f).map (idR f)) (by omega) X
  have hin := parts_in (circ_up I) (ids_place I) hX ho k (by omega)
  rw [hlen] at hin hi
  have hpk := prevK_lt hk
  rw [nth_ids I hpk, nth_ids I hk] at hin
  have hprev : cAt (circ f) (x - 1) = nth (circ f) (prevK (circ f).length k) := by
    rw [show x - 1 = x + (-1) by omega, ← cAt_mod I, e2]
    unfold cAt prevK
    by_cases h0 : k = 0
    · rw [if_pos h0, h0, show ((0 : Nat) : Int) + -1 = ((circ f).length - 1 : Nat) - ((circ f).length : Int) by omega, Int.sub_emod_right, Int.emod_eq_of_lt (by omega) (by omega)]; simp
    · rw [if_neg h0, show (k : Int) + -1 = ((k - 1 : Nat) : Int) by omega, Int.emod_eq_of_lt (by omega) (by omega)]; simp
  have hlhs : (cOwner (circ f) ((circ f).map (idR f)) X == cAt (circ f) x) = decide (k = i) := by
    unfold cOwner
    rw [ho, if_neg (by omega), e1, show ((i : Int)).toNat = i by simp, Bool.eq_iff_iff, beq_iff_eq, decide_eq_true_eq]
    constructor
    · intro e
      rcases Nat.lt_trichotomy i k with h | h | h
      · have := circ_mono I h hk; rw [e] at this; omega
      · exact h.symm
      · have := circ_mono I h hi; rw [e] at this; omega
    · intro e; rw [e]
  rw [hlhs, ← hin, ← hprev, ← e1]

/-! ### Who is next -/
def ownsR (f : RS) (n x : Int) : Bool := predR f n != -1 && (livesR f (predR f n) && inB x (idR f (predR f n)) (idR f n))
def betterR (f : RS) (n x best q : Int) : Bool := nearR f q (idR f best) n && withinB (idR f q) (idR f best) x
def pickR (f : RS) (n x best q : Int) : Int := if betterR f n x best q then q else best
def nextR (f : RS) (F : Int → List Int) (n x : Int) : Int :=
  if (idR f n == x || ownsR f n x) = true then n
  else if inB x (idR f n) (idR f (headR f n)) = true then headR f n
  else (succR f n ++ F n).foldl (pickR f n x) (headR f n)
theorem pick_lives {f : RS} (n x : Int) {b : Int} (h : livesR f b = true) (q : Int) : livesR f (pickR f n x b q) = true := by
  unfold pickR
  split
  · rename_i h2
    unfold betterR nearR at h2
    simp only [Bool.and_eq_true] at h2
    exact h2.1.1.2
  · exact h
theorem picks_lives {f : RS} (n x : Int) : ∀ (l : List Int) {b : Int}, livesR f b = true → livesR f (l.foldl (pickR f n x) b) = true
  | [], _, h => h
  | q :: l, _, h => picks_lives n x l (pick_lives n x h q)
theorem next_lives {f : RS} (hh : Heads f) (F : Int → List Int) {n : Int} (hn : livesR f n = true) (x : Int) : livesR f (nextR f F n x) = true := by
  unfold nextR
  split
  · exact hn
  · split
    · exact hh n hn
    · exact picks_lives n x _ (hh n hn)

/-! ### The way -/
def pathR (nx : Int → Int) : Nat → Int → Option (List Int)
  | 0, _ => none
  | k + 1, n => if nx n = n then some [n] else (pathR nx k (nx n)).map (n :: ·)
theorem path_mono {nx : Int → Int} : ∀ (k : Nat) (n : Int) (l : List Int), pathR nx k n = some l → pathR nx (k + 1) n = some l
  | 0, n, l, h => by cases h
  | k + 1, n, l, h => by
    unfold pathR at h ⊢
    by_cases e : nx n = n
    · rw [if_pos e] at h ⊢; exact h
    · rw [if_neg e] at h ⊢
      cases hp : pathR nx k (nx n) with
      | none => rw [hp] at h; cases h
      | some m => rw [hp] at h; rw [path_mono k _ _ hp]; exact h
theorem path_more {nx : Int → Int} {k : Nat} {n : Int} {l : List Int} (h : pathR nx k n = some l) : ∀ (j : Nat), k ≤ j → pathR nx j n = some l := fun j hj => by
  induction j with
  | zero => rw [show k = 0 by omega] at h; exact h
  | succ j ih =>
    rcases Nat.lt_or_ge j k with h1 | h1
    · rw [show j + 1 = k by omega]; exact h
    · exact path_mono _ _ _ (ih h1)
/-- What a way is. -/
structure IsWay (nx : Int → Int) (n : Int) (l : List Int) : Prop where
  pos : 0 < l.length
  first : nth l 0 = n
  step : ∀ i, i + 1 < l.length → nx (nth l i) = nth l (i + 1)
  last : ∀ i, i + 1 = l.length → nx (nth l i) = nth l i
theorem path_way {nx : Int → Int} : ∀ (k : Nat) (n : Int) (l : List Int), pathR nx k n = some l → IsWay nx n l ∧ l.length ≤ k
  | 0, n, l, h => by cases h
  | k + 1, n, l, h => by
    unfold pathR at h
    by_cases e : nx n = n
    · rw [if_pos e] at h
      cases h
      refine ⟨⟨by simp, rfl, fun i hi => ?_, fun i hi => ?_⟩, by simp⟩
      · simp at hi
      · simp at hi; subst hi; exact e
    · rw [if_neg e] at h
      cases hp : pathR nx k (nx n) with
      | none => rw [hp] at h; cases h
      | some m =>
        rw [hp] at h
        cases h
        obtain ⟨W, hl⟩ := path_way k _ _ hp
        refine ⟨⟨by simp, rfl, fun i hi => ?_, fun i hi => ?_⟩, by simp; omega⟩
        · cases i with
          | zero => rw [nth_zero, nth_succ, W.first]
          | succ i => rw [nth_succ, nth_succ]; exact W.step i (by simpa using hi)
        · cases i with
          | zero => have := W.pos; simp at hi; simp [hi] at this
          | succ i => rw [nth_succ]; exact W.last i (by simpa using hi)
/-- Behind a member of the way the way goes on so. -/
theorem path_rest {nx : Int → Int} : ∀ (k : Nat) (n : Int) (l : List Int), pathR nx k n = some l → ∀ i, i < l.length → pathR nx k (nth l i) = some (l.drop i)
  | 0, n, l, h => by cases h
  | k + 1, n, l, h => fun i hi => by
    have h0 := h
    unfold pathR at h
    by_cases e : nx n = n
    · rw [if_pos e] at h
      cases h
      simp at hi
      subst hi
      exact h0
    · rw [if_neg e] at h
      cases hp : pathR nx k (nx n) with
      | none => rw [hp] at h; cases h
      | some m =>
        rw [hp] at h
        cases h
        cases i with
        | zero => exact h0
        | succ i => rw [nth_succ, List.drop_succ_cons]; exact path_mono _ _ _ (path_rest k _ _ hp i (by simpa using hi))
/-- The loop that finds it: what is told ahead, and where it is. -/
theorem path_loop {nx : Int → Int} {n0 : Int} {K : Nat} {pre : List Int} {n : Int} {j : Nat} (h : pathR nx K n0 = (pathR nx (j + 1) n).map (pre ++ ·)) :
    (nx n = n → pathR nx K n0 = some (pre ++ [n])) ∧ (nx n ≠ n → pathR nx K n0 = (pathR nx j (nx n)).map ((pre ++ [n]) ++ ·)) := by
  have hd : pathR nx (j + 1) n = if nx n = n then some [n] else (pathR nx j (nx n)).map (n :: ·) := rfl
  constructor
  · intro e
    rw [h, hd, if_pos e]; rfl
  · intro e
    rw [h, hd, if_neg e, Option.map_map]
    congr 1
    funext l
    simp
def lastL (l : List Int) : Int := nth l (l.length - 1)
/-- A finger more, unless it is the last one. -/
def addF (l : List Int) (o : Int) : List Int := if 0 < l.length ∧ lastL l = o then l else l ++ [o]
def startR (x : Int) (k : Nat) : Int := (x + 2 ^ k) % 18446744073709551616
theorem place_start (x : Int) (k : Nat) : isPlace (startR x k) := by unfold isPlace startR; omega
def fixS (f : RS) (F : Int → List Int) (n : Int) (l : List Int) (k : Nat) : List Int :=
  match pathR (fun m => nextR f F m (startR (idR f n) k)) 65 n with
  | some way => addF l (lastL way)
  | none => l
def fixN (f : RS) (F : Int → List Int) (n : Int) (k : Nat) : List Int := (List.range k).foldl (fixS f F n) []
def fixR (f : RS) (F : Int → List Int) (n : Int) : List Int := fixN f F n 64
theorem fixN_succ (f : RS) (F : Int → List Int) (n : Int) (k : Nat) : fixN f F n (k + 1) = fixS f F n (fixN f F n k) k := by unfold fixN; rw [List.range_succ, List.foldl_append]; rfl
def setL (F : Int → List Int) (n : Int) (l : List Int) : Int → List Int := fun j => if j = n then l else F j
def fix1 (f : RS) (F : Int → List Int) (n : Int) : Int → List Int := setL F n (fixR f F n)
def fixes (f : RS) (F : Int → List Int) (l : List Int) : Int → List Int := l.foldl (fix1 f) F
theorem fixes_snoc (f : RS) (F : Int → List Int) (l : List Int) (n : Int) : fixes f F (l ++ [n]) = fix1 f (fixes f F l) n := by unfold fixes; rw [List.foldl_append]; rfl
theorem addF_len (l : List Int) (o : Int) : (addF l o).length ≤ l.length + 1 := by unfold addF; split <;> simp
theorem fixN_len (f : RS) (F : Int → List Int) (n : Int) (k : Nat) : (fixN f F n k).length ≤ k := by
  induction k with
  | zero => simp [fixN]
  | succ k ih =>
    rw [fixN_succ]
    unfold fixS
    split
    · have := addF_len (fixN f F n k) (lastL ‹_›); omega
    · omega
theorem path_lives {f : RS} (hh : Heads f) (F : Int → List Int) (x : Int) : ∀ (k : Nat) (n : Int) (l : List Int), livesR f n = true → pathR (fun m => nextR f F m x) k n = some l → ∀ y ∈ l, livesR f y = true
  | 0, n, l, hn, h => by cases h
  | k + 1, n, l, hn, h => by
    unfold pathR at h
    by_cases e : nextR f F n x = n
    · rw [if_pos e] at h
      cases h
      intro y hy
      simp at hy; rw [hy]; exact hn
    · rw [if_neg e] at h
      cases hp : pathR (fun m => nextR f F m x) k (nextR f F n x) with
      | none => rw [hp] at h; cases h
      | some m =>
        rw [hp] at h
        cases h
        intro y hy
        rcases List.mem_cons.1 hy with rfl | hy
        · exact hn
        · exact path_lives hh F x k _ _ (next_lives hh F hn x) hp y hy
theorem lastL_mem {l : List Int} (h : 0 < l.length) : lastL l ∈ l := nth_mem.2 ⟨l.length - 1, by omega, rfl⟩
theorem fixN_lives {f : RS} (hh : Heads f) (F : Int → List Int) {n : Int} (hn : livesR f n = true) (k : Nat) : ∀ y ∈ fixN f F n k, livesR f y = true := by
  induction k with
  | zero => intro y hy; simp [fixN] at hy
  | succ k ih =>
    rw [fixN_succ]
    unfold fixS
    split
    · rename_i way hw
      have hl := path_lives hh F _ _ _ _ hn hw _ (lastL_mem (path_way _ _ _ hw).1.pos)
      intro y hy
      unfold addF at hy
      split at hy
      · exact ih y hy
      · rcases List.mem_append.1 hy with hy | hy
        · exact ih y hy
        · simp at hy; rw [hy]; exact hl
    · exact ih

/-! ### Where all is as it should be -/
structure Good (f : RS) : Prop where
  inv : Inv f
  hr : AllHr f
  pr : AllPr f
theorem good_rn {f : RS} (I : Inv f) {j : Nat} (h : 4 * (liveL f).length + 8 ≤ j) : Good (rn j f) := by
  refine ⟨inv_rn I _, ?_, ?_⟩
  · have := rn_hr I (j - 2 * (liveL f).length)
    rwa [show 2 * (liveL f).length + (j - 2 * (liveL f).length) = j by omega] at this
  · have := rn_pr I (j - 2 * (liveL f).length - 1)
    rwa [show 2 * (liveL f).length + (j - 2 * (liveL f).length - 1 + 1) = j by omega] at this
abbrev own (f : RS) (X : Int) : Int := cOwner (circ f) ((circ f).map (idR f)) X
theorem dist_step {n b X : Int} (pn : isPlace n) (pb : isPlace b) (pX : isPlace X) (h : dist n b < dist n X) (h0 : dist n b ≠ 0) : dist b X < dist n X := by
  unfold isPlace at *
  unfold dist at *
  omega
section
variable {f : RS} (G : Good f)
include G
theorem good_pred (x : Int) : predR f (cAt (circ f) x) = cAt (circ f) (x - 1) := by
  have h := head_cAt G.inv G.hr (x - 1)
  have h2 := G.pr _ h.2
  unfold Pr at h2
  rw [h.1, show x - 1 + 1 = x by omega] at h2
  exact h2
theorem good_owns {X : Int} (hX : isPlace X) {n : Int} (hn : livesR f n = true) : (idR f n == X || ownsR f n X) = (own f X == n) := by
  obtain ⟨x, rfl⟩ := cAt_of G.inv hn
  have hp := good_pred G x
  have hl := cAt_lives G.inv ((x : Int) - 1)
  have hne : cAt (circ f) ((x : Int) - 1) ≠ -1 := fun e => by rw [e, livesR_neg G.inv.dom] at hl; cases hl
  have ho : ownsR f (cAt (circ f) x) X = (own f X == cAt (circ f) x) := by
    unfold own
    rw [owns_in G.inv hX]
    unfold ownsR
    rw [hp, hl]
    simp [hne]
  rw [ho]
  by_cases e : idR f (cAt (circ f) x) = X
  · rw [← e]
    have := owner_self G.inv hn
    unfold own
    rw [this]; simp
  · simp [e]
theorem good_head {X : Int} (hX : isPlace X) {n : Int} (hn : livesR f n = true) : inB X (idR f n) (idR f (headR f n)) = (own f X == headR f n) := by
  obtain ⟨x, rfl⟩ := cAt_of G.inv hn
  have h := head_cAt G.inv G.hr x
  have := owns_in G.inv hX ((x : Int) + 1)
  rw [show (x : Int) + 1 - 1 = x by omega] at this
  rw [h.1]
  exact this.symm
theorem picks_near {X : Int} (hX : isPlace X) {n : Int} : ∀ (l : List Int) {b : Int}, (livesR f b = true ∧ dist (idR f n) (idR f b) < dist (idR f n) X ∧ dist (idR f n) (idR f b) ≠ 0) →
    (dist (idR f n) (idR f (l.foldl (pickR f n X) b)) < dist (idR f n) X ∧ dist (idR f n) (idR f (l.foldl (pickR f n X) b)) ≠ 0)
  | [], _, h => h.2
  | q :: l, b, h => by
    refine picks_near hX l ?_
    unfold pickR
    split
    · rename_i h2
      unfold betterR nearR at h2
      simp only [Bool.and_eq_true] at h2
      refine ⟨h2.1.1.2, ?_⟩
      have h3 := h2.2
      have pn := place_id G.inv.dom n
      have pb := place_id G.inv.dom b
      have pq := place_id G.inv.dom q
      have hh := h.2
      unfold withinB at h3
      generalize idR f n = u at *
      generalize idR f b = v at *
      generalize idR f q = t at *
      split at h3
      · rename_i e
        rw [beq_iff_eq] at e
        unfold dist at hh
        rw [e] at hh; omega
      · simp only [Bool.and_eq_true, bne_iff_ne, decide_eq_true_eq] at h3
        unfold isPlace at *
        unfold dist at *
        omega
    · exact h
/-- Who is next: the member itself if it is the owner; the owner; or one that lies nearer. -/
theorem good_next (F : Int → List Int) {X : Int} (hX : isPlace X) {n : Int} (hn : livesR f n = true) :
    (own f X = n ∧ nextR f F n X = n) ∨ (own f X ≠ n ∧ nextR f F n X = own f X) ∨ (own f X ≠ n ∧ nextR f F n X ≠ n ∧ livesR f (nextR f F n X) = true ∧ dist (idR f (nextR f F n X)) X < dist (idR f n) X) := by
  have h1 := good_owns G hX hn
  have h2 := good_head G hX hn
  by_cases e : own f X = n
  · refine Or.inl ⟨e, ?_⟩
    have ht : (idR f n == X || ownsR f n X) = true := by rw [h1, e]; simp
    unfold nextR; rw [if_pos ht]
  · have hf : ¬ (idR f n == X || ownsR f n X) = true := by rw [h1]; simpa using e
    refine Or.inr ?_
    by_cases e2 : own f X = headR f n
    · have ht : inB X (idR f n) (idR f (headR f n)) = true := by rw [h2, e2]; simp
      refine Or.inl ⟨e, ?_⟩
      unfold nextR; rw [if_neg hf, if_pos ht]; exact e2.symm
    · have hf2 : ¬ inB X (idR f n) (idR f (headR f n)) = true := by rw [h2]; simpa using e2
      have hl := next_lives G.inv.heads F hn X
      have pn := place_id G.inv.dom n
      have ph := place_id G.inv.dom (headR f n)
      have hhd := G.inv.head hn
      have hne : idR f n ≠ idR f (headR f n) := G.inv.head_ne hn
      have hnX : idR f n ≠ X := fun e3 => hf (by simp [e3])
      have hs : dist (idR f n) (idR f (headR f n)) < dist (idR f n) X ∧ dist (idR f n) (idR f (headR f n)) ≠ 0 := by
        unfold inB at hf2
        generalize idR f n = u at *
        generalize idR f (headR f n) = v at *
        simp only [Bool.or_eq_true, Bool.and_eq_true, beq_iff_eq, bne_iff_ne, decide_eq_true_eq, ne_eq, not_or, not_and] at hf2
        have h5 := hf2.2
        unfold isPlace at *
        unfold dist at *
        by_cases h0 : (X - u) % 18446744073709551616 = 0
        · omega
        · have := h5 h0; omega
      have hk := picks_near G hX (n := n) (succR f n ++ F n) ⟨hhd.2, hs⟩
      have hn' : nextR f F n X = (succR f n ++ F n).foldl (pickR f n X) (headR f n) := by unfold nextR; rw [if_neg hf, if_neg hf2]
      rw [← hn'] at hk
      refine Or.inr ⟨e, fun e3 => ?_, hl, dist_step pn (place_id G.inv.dom _) hX hk.1 hk.2⟩
      rw [e3] at hk
      exact hk.2 (by unfold dist; simp)
/-- The way to a place on such a ring. -/
structure GoodWay (f : RS) (X n : Int) (l : List Int) : Prop where
  lives : ∀ y ∈ l, livesR f y = true
  last : lastL l = own f X
  nodup : l.Nodup
  near : ∀ y ∈ l, y = own f X ∨ dist (idR f y) X ≤ dist (idR f n) X
  down : ∀ i, i + 2 < l.length → dist (idR f (nth l (i + 1))) X < dist (idR f (nth l i)) X
theorem good_way (F : Int → List Int) {X : Int} (hX : isPlace X) : ∀ (k : Nat) (n : Int), livesR f n = true → nearer f X n + 2 ≤ k → ∃ l, pathR (fun m => nextR f F m X) k n = some l ∧ GoodWay f X n l
  | 0, n, hn, hk => by omega
  | 1, n, hn, hk => by omega
  | k + 2, n, hn, hk => by
    have hol := owner_lives G.inv X
    rcases good_next G F hX hn with ⟨e1, e2⟩ | ⟨e1, e2⟩ | ⟨e1, e2, e3, e4⟩
    · refine ⟨[n], by unfold pathR; rw [if_pos e2], ⟨fun y hy => by simp at hy; rw [hy]; exact hn, e1.symm, by simp, fun y hy => by simp at hy; exact Or.inl (by rw [hy, e1]), fun i hi => by simp at hi⟩⟩
    · have hself : nextR f F (own f X) X = own f X := by
        rcases good_next G F hX hol with h | h | h
        · exact h.2
        · exact absurd rfl h.1
        · exact absurd rfl h.1
      refine ⟨[n, own f X], ?_, ⟨fun y hy => ?_, rfl, by simp; exact fun e => e1 e.symm, fun y hy => ?_, fun i hi => by have h2 : i + 2 < 2 := hi; omega⟩⟩
      · unfold pathR
        rw [if_neg (by rw [e2]; exact e1), e2]
        unfold pathR
        rw [if_pos hself]; rfl
      · simp at hy; rcases hy with rfl | rfl
        · exact hn
        · exact hol
      · simp at hy; rcases hy with rfl | rfl
        · exact Or.inr (Int.le_refl _)
        · exact Or.inl rfl
    · have hlt := nearer_lt G.inv.dom e3 e4
      obtain ⟨l, hl, W⟩ := good_way F hX (k + 1) _ e3 (by omega)
      have hway := (path_way _ _ _ hl).1
      refine ⟨n :: l, ?_, ⟨fun y hy => ?_, ?_, ?_, fun y hy => ?_, fun i hi => ?_⟩⟩
      · rw [pathR, if_neg e2, hl]; rfl
      · rcases List.mem_cons.1 hy with rfl | hy
        · exact hn
        · exact W.lives y hy
      · have := W.last
        unfold lastL at this ⊢
        have hp := hway.pos
        rw [List.length_cons, show l.length + 1 - 1 = (l.length - 1) + 1 by omega, nth_succ]; exact this
      · refine List.nodup_cons.2 ⟨fun hm => ?_, W.nodup⟩
        rcases W.near n hm with h | h
        · exact e1 h.symm
        · omega
      · rcases List.mem_cons.1 hy with rfl | hy
        · exact Or.inr (Int.le_refl _)
        · rcases W.near y hy with h | h
          · exact Or.inl h
          · exact Or.inr (by omega)
      · cases i with
        | zero => rw [nth_zero, nth_succ, hway.first]; exact e4
        | succ i => rw [nth_succ, nth_succ]; exact W.down i (by simp at hi; omega)
theorem good_path (F : Int → List Int) {X : Int} (hX : isPlace X) {n : Int} (hn : livesR f n = true) : ∃ l, pathR (fun m => nextR f F m X) 65 n = some l ∧ GoodWay f X n l :=
  good_way G F hX 65 n hn (by have := nearer_le f X n; omega)
theorem good_len {X n : Int} {l : List Int} (W : GoodWay f X n l) : l.length ≤ (liveL f).length := by
  have := up_sub_len (liveL_up f) (sort_up W.nodup) fun x hx => (mem_liveL G.inv.dom).2 (W.lives x (List.mem_mergeSort.1 hx))
  rwa [List.length_mergeSort] at this
/-- Its fingers are those that should be. -/
theorem good_fixN (F : Int → List Int) {n : Int} (hn : livesR f n = true) (k : Nat) : fixN f F n k = ((List.range k).map fun j => own f (startR (idR f n) j)).foldl addF [] := by
  induction k with
  | zero => rfl
  | succ k ih =>
    rw [fixN_succ, List.range_succ, List.map_append, List.foldl_append, ← ih]
    obtain ⟨l, hl, W⟩ := good_path G F (place_start (idR f n) k) hn
    unfold fixS
    rw [hl]
    show addF _ (lastL l) = addF _ _
    rw [W.last]
end
end Go.Proofs.YtekinomnjgbgmaaGreat
namespace Go.Proofs.YtekinomnjgbgmaaGreat
open Go.RowKit Go.Maps Go.Sort Go.WideShapes Go.ChangeShapes Go.Deep
set_option linter.unusedVariables false
set_option linter.unusedSimpArgs false
attribute [local go_sem] later_cell later_frozen later_lt cell_set_off cell_set_block

/-- How many addresses have fingers. -/
def cntX (h : Int → Option Value) : Nat := ((List.range 32).map Int.ofNat).countP fun n => (h n).isSome
theorem cntX_le (h : Int → Option Value) : cntX h ≤ 32 := Nat.le_trans List.countP_le_length (by simp)
theorem cntX_set (h : Int → Option Value) {n : Int} (v : Value) (h0 : 0 ≤ n) (h1 : n < 32) : cntX (setX h n v) = if (h n).isSome then cntX h else cntX h + 1 := by
  unfold cntX
  split
  · rename_i hs
    refine countP_eq_of fun x _ => ?_
    by_cases e : x = n
    · rw [e, setX_same, hs]; rfl
    · rw [setX_ne _ _ e]
  · rename_i hs
    refine countP_one (n := n) (by simp [setX]) (by simpa using hs) (fun x hx => by rw [setX_ne _ _ hx]) (by decide) ?_
    exact List.mem_map.2 ⟨n.toNat, List.mem_range.2 (by omega), by simp; omega⟩
/-- The fingers in memory: the ring, and the map of lists. -/
structure FinIs (Q : Nat → Prop) (w : World) (fb rb fm : Nat) (F : Int → List Int) : Prop where
  fbQ : Q fb
  fmQ : Q fm
  ne : fb ≠ fm
  fbz : fb < w.heap.size
  c0 : w.cell? ⟨fb, 0, none⟩ = some (.pointer (some ⟨rb, 0, none⟩))
  c1 : w.cell? ⟨fb, 1, none⟩ = some (.map (some fm))
  map : ∃ h : Int → Option Value, MapX Tryz.prog 3 w fm (cntX h) h ∧ (∀ n, (h n).isSome = true → 0 ≤ n ∧ n < 32) ∧ ∀ n, SlIn (fun b => Q b ∧ b ≠ fb ∧ b ≠ fm) (F n) w ((h n).getD (.slice none 0 0))
  len : ∀ n, (F n).length ≤ 64
  dom : ∀ n, ∀ x ∈ F n, 0 ≤ x ∧ x < 32
section
variable {Q : Nat → Prop} {w w' : World} {fb rb fm : Nat} {F : Int → List Int}
theorem FinIs.fmz (h : FinIs Q w fb rb fm F) : fm < w.heap.size := by obtain ⟨m, hm, _⟩ := h.map; exact hm.lt
theorem FinIs.same (h : FinIs Q w fb rb fm F) {Q' : Nat → Prop} (hs : w.heap.size ≤ w'.heap.size) (hb : ∀ b, b < w.heap.size → Q b → w'.heap[b]? = w.heap[b]?) (hQ : ∀ b, b < w.heap.size → Q b → Q' b) : FinIs Q' w' fb rb fm F where
  fbQ := hQ _ h.fbz h.fbQ
  fmQ := hQ _ h.fmz h.fmQ
  ne := h.ne
  fbz := Nat.lt_of_lt_of_le h.fbz hs
  c0 := (World.cell?_of_block (hb _ h.fbz h.fbQ)).trans h.c0
  c1 := (World.cell?_of_block (hb _ h.fbz h.fbQ)).trans h.c1
  map := by
    obtain ⟨m, hm, hd, hl⟩ := h.map
    exact ⟨m, hm.block (hb _ h.fmz h.fmQ), hd, fun n => (hl n).imp (fun b hb' hq => ⟨hQ b hb' hq.1, hq.2⟩) hs fun b hb' hq => hb b hb' hq.1⟩
  len := h.len
  dom := h.dom
theorem FinIs.below (h : FinIs Q w fb rb fm F) (hb : Below w.heap.size w w') : FinIs Q w' fb rb fm F := h.same hb.size (fun b hb' _ => hb.block b hb') fun _ _ h => h
/-- The fingers of one. -/
theorem FinIs.at (h : FinIs Q w fb rb fm F) (n : Int) (hn : okInt n) : ∃ a c, SlAt 0 (fun i => .int .i64 (nth (F n) i)) (F n).length w (.slice a (F n).length c) ∧
    (Instr.lookup 73 (.map (some fm)) (.int .i64 n) false).run Tryz.prog w = .ok (.slice a (F n).length c) w := by
  obtain ⟨m, hm, hd, hl⟩ := h.map
  have hs := (hl n).slAt
  have hk := hm.look keyInt Tryz.underlying3 Tryz.underlying73 (Tryz.zeroValue37 w) n hn
  obtain ⟨a, c, e, _⟩ := hs.slice
  rw [e] at hs hk
  exact ⟨a, c, hs, hk⟩
end

/-! ### New -/
def FinNew (w : World) (rb : Nat) (e : Ending) (w' : World) : Prop := ∃ fb fm, e = .returned (.pointer (some ⟨fb, 0, none⟩)) ∧ FinIs (fun b => w.heap.size ≤ b) w' fb rb fm (fun _ => []) ∧ RowKit.Below w.heap.size w w'
theorem newf_any (w : World) (rb : Nat) : Calls Tryz.prog 11 #[.pointer (some ⟨rb, 0, none⟩)] w (FinNew w rb) := by
  have hmk : ∀ (w : World), (Instr.makeMap 73 none).run Tryz.prog w = .ok (.map (some w.heap.size)) (w.alloc (.map #[] 0)) := fun w => run_makeMap 73 w
  go_enter Tryz.func11, Tryz.ntmps11
  go_wp2
  go_ret
  refine ⟨w.heap.size + 1, w.heap.size, by simp, ?_, by (repeat (first | exact Below.refl _ _ | (with_reducible assumption) | (with_reducible refine bel_later ?_ _) | (with_reducible refine bel_alloc ?_ _) | (with_reducible refine bel_drew ?_) | (with_reducible refine bel_drewN ?_ _) | (with_reducible refine bel_set ?_ (by first | (simp; done) | (simp; omega) | (dsimp only; omega)) _)))⟩
  refine { fbQ := by simp, fmQ := Nat.le_refl _, ne := by omega, fbz := by simp, c0 := by simp [go_sem], c1 := by simp [go_sem], map := ?_, len := by simp, dom := by simp }
  refine ⟨fun _ => none, ?_, by simp, fun n => ⟨none, 0, rfl, by simp, by simp, by simp, Or.inl rfl⟩⟩
  have h := mapX_new (P := Tryz.prog) (k := 3) w
  refine (show cntX (fun _ => none) = 0 by decide) ▸ h.block ?_
  exact Below.heap_alloc _ _ _ (by simp)

variable {S Q : Nat → Prop} {w : World} {rb mb : Nat} {g : Int → Nat} {f : RS} {fb fm : Nat} {F : Int → List Int}
theorem rfault_any (w : World) (c : Int) : Calls Tryz.prog 54 #[.int .i64 c] w fun e w' => ∃ v, e = .returned v ∧ IsErr w.heap.size w' v c ∧ RowKit.Below w.heap.size w w' := by
  go_enter Tryz.func54, Tryz.ntmps54
  go_wp2
  go_ret
  refine ⟨_, rfl, ⟨w.heap.size, rfl, Nat.le_refl _, by simp, by simp [go_sem]⟩, bel_alloc (RowKit.Below.refl _ _) _⟩

/-! ### Owns -/
def ownsV (f : RS) (id pred x : Int) : Bool := pred != -1 && (livesR f pred && inB x (idR f pred) id)
set_option maxRecDepth 100000 in
set_option maxHeartbeats 1000000 in
theorem owns_at (h : RAt S w rb mb g f) (id pred x : Int) (hp : okInt pred) (a : Option Addr) (ln cap : Nat) :
    Calls Tryz.prog 99 #[.agg #[.int .u64 id, .int .i64 pred, .slice a ln cap], .int .u64 x, .iface 23 (.pointer (some ⟨rb, 0, none⟩))] w fun e w' => e = .returned (.bool (ownsV f id pred x)) ∧ RowKit.Below w.heap.size w w' := by
  have hl := Lib.hid fun (wr : World) (hb : RowKit.Below w.heap.size w wr) => lives_at (h.below hb) pred hp
  have hd := Lib.hid fun (wr : World) (hb : RowKit.Below w.heap.size w wr) => id_at (h.below hb) pred hp
  have hm1 := method_lives
  have hm2 := method_id
  have hm3 := ahead_lives
  have hm4 := ahead_id
  have hc : (pred != -1) = false ∧ ownsV f id pred x = false ∨ (pred != -1) = true ∧ (livesR f pred = false ∧ ownsV f id pred x = false ∨ livesR f pred = true ∧ ownsV f id pred x = inB x (idR f pred) id) := by
    unfold ownsV
    cases h1 : pred != -1 <;> cases h2 : livesR f pred <;> simp
  clear h hp
  rcases hc with ⟨c1, E⟩ | ⟨c1, ⟨c2, E⟩ | ⟨c2, E⟩⟩
  all_goals
    have EE := Lib.hid E
    clear E
    go_enter Tryz.func99, Tryz.ntmps99
    go_wp2
    refine wp_region_calm (by kernel_rfl) (by kernel_rfl) ?_
    repeat (first | (go_big_quiet_step ((first | (go_at_call 25; exact calls_calm_same (hl.out _ (by (repeat (first | exact Below.refl _ _ | (with_reducible assumption) | (with_reducible refine bel_later ?_ _) | (with_reducible refine bel_alloc ?_ _) | (with_reducible refine bel_drew ?_) | (with_reducible refine bel_drewN ?_ _) | (with_reducible refine bel_set ?_ (by first | (simp; done) | (simp; omega) | (dsimp only; omega)) _)))))) | (go_at_call 26; exact calls_calm_same (hd.out _ (by (repeat (first | exact Below.refl _ _ | (with_reducible assumption) | (with_reducible refine bel_later ?_ _) | (with_reducible refine bel_alloc ?_ _) | (with_reducible refine bel_drew ?_) | (with_reducible refine bel_drewN ?_ _) | (with_reducible refine bel_set ?_ (by first | (simp; done) | (simp; omega) | (dsimp only; omega)) _)))))) | (go_at_call 100; exact calls_calm_same (in_any _ _ _ _))))) | (refine wpQuiet_step (fun K hK => ?_); go_simp; first | (refine hK _ ?_; clear hK K) | (apply Exists.intro; refine ⟨fun _ => ?_, hK _ ?_⟩; (first | (go_at_call 25; exact calls_calm_same (hl.out _ (by (repeat (first | exact Below.refl _ _ | (with_reducible assumption) | (with_reducible refine bel_later ?_ _) | (with_reducible refine bel_alloc ?_ _) | (with_reducible refine bel_drew ?_) | (with_reducible refine bel_drewN ?_ _) | (with_reducible refine bel_set ?_ (by first | (simp; done) | (simp; omega) | (dsimp only; omega)) _)))))) | (go_at_call 26; exact calls_calm_same (hd.out _ (by (repeat (first | exact Below.refl _ _ | (with_reducible assumption) | (with_reducible refine bel_later ?_ _) | (with_reducible refine bel_alloc ?_ _) | (with_reducible refine bel_drew ?_) | (with_reducible refine bel_drewN ?_ _) | (with_reducible refine bel_set ?_ (by first | (simp; done) | (simp; omega) | (dsimp only; omega)) _)))))) | (go_at_call 100; exact calls_calm_same (in_any _ _ _ _))); clear hK K)))
    refine wpQuiet_nil ?_
    intro _ hw'
    obtain ⟨xq, hw''⟩ := hw'
    subst hw''
    go_wp2
    go_ret
    exact ⟨by rw [EE.out]; first | done | rfl, by (repeat (first | exact Below.refl _ _ | (with_reducible assumption) | (with_reducible refine bel_later ?_ _) | (with_reducible refine bel_alloc ?_ _) | (with_reducible refine bel_drew ?_) | (with_reducible refine bel_drewN ?_ _) | (with_reducible refine bel_set ?_ (by first | (simp; done) | (simp; omega) | (dsimp only; omega)) _)))⟩

/-! ### Next -/
def NextPost (w : World) (f : RS) (F : Int → List Int) (n x : Int) (e : Ending) (w' : World) : Prop :=
  (if livesR f n = true then e = .returned (.tuple #[.int .i64 (nextR f F n x), .nilIface]) else ∃ v, e = .returned (.tuple #[.int .i64 (-1), v]) ∧ IsErr w.heap.size w' v 6) ∧ RowKit.Below w.heap.size w w'
/-- The two lists that are looked through. -/
def twoL (f : RS) (F : Int → List Int) (n : Int) (j : Nat) : List Int := if j = 0 then succR f n else F n
def bestK (f : RS) (F : Int → List Int) (n x : Int) (j : Nat) : Int := if j = 0 then headR f n else if j = 1 then (succR f n).foldl (pickR f n x) (headR f n) else (F n).foldl (pickR f n x) ((succR f n).foldl (pickR f n x) (headR f n))
theorem bestK_succ (f : RS) (F : Int → List Int) (n x : Int) {j : Nat} (hj : j < 2) : bestK f F n x (j + 1) = (twoL f F n j).foldl (pickR f n x) (bestK f F n x j) := by
  unfold bestK twoL
  rcases (show j = 0 ∨ j = 1 by omega) with rfl | rfl <;> simp
theorem picks_snoc (f : RS) (n x b : Int) (l : List Int) {k : Nat} (hk : k < l.length) : (l.take (k + 1)).foldl (pickR f n x) b = pickR f n x ((l.take k).foldl (pickR f n x) b) (nth l k) := by
  rw [List.take_succ_eq_append_getElem hk, List.foldl_append, nth_eq hk]; rfl
/-- An address that is -1 or a member. -/
def okB (x : Int) : Prop := -1 ≤ x ∧ x < 32
theorem pick_ok {f : RS} (hd : Dom f) (n x : Int) {b : Int} (h : okB b) (q : Int) : okB (pickR f n x b q) := by
  unfold pickR
  split
  · rename_i h2
    unfold betterR nearR at h2
    simp only [Bool.and_eq_true] at h2
    have := livesR_dom hd h2.1.1.2
    unfold okB; omega
  · exact h
theorem picks_ok {f : RS} (hd : Dom f) (n x : Int) : ∀ (l : List Int) {b : Int}, okB b → okB (l.foldl (pickR f n x) b)
  | [], _, h => h
  | q :: l, _, h => picks_ok hd n x l (pick_ok hd n x h q)
theorem head_ok {f : RS} (hd : Dom f) (n : Int) : okB (headR f n) := by
  rcases headL_or f (succR f n) with ⟨h, _⟩ | ⟨h, _⟩
  · have := livesR_dom hd h; unfold headR okB; omega
  · unfold headR okB; omega
theorem bestK_ok {f : RS} (hd : Dom f) (n x : Int) (j : Nat) : okB (bestK f F n x j) := by
  unfold bestK
  split
  · exact head_ok hd n
  · split
    · exact picks_ok hd n x _ (head_ok hd n)
    · exact picks_ok hd n x _ (picks_ok hd n x _ (head_ok hd n))
theorem okB_int {x : Int} (h : okB x) : okInt x := okInt_dom h.1 h.2
theorem two_dom (h : RAt S w rb mb g f) (hf : FinIs Q w fb rb fm F) (n : Int) (j : Nat) : (twoL f F n j).length ≤ 64 ∧ ∀ x ∈ twoL f F n j, 0 ≤ x ∧ x < 32 := by
  have hs := succR_dom h.dom n
  unfold twoL
  split
  · exact ⟨by omega, hs.2⟩
  · exact ⟨hf.len n, hf.dom n⟩
set_option maxRecDepth 100000 in
set_option maxHeartbeats 8000000 in
theorem next_at (h : RAt S w rb mb g f) (hf : FinIs Q w fb rb fm F) (n x : Int) (hn : okInt n) :
    Calls Tryz.prog 80 #[.pointer (some ⟨fb, 0, none⟩), .int .i64 n, .int .u64 x] w (NextPost w f F n x) := by
  have f0 := hf.c0
  have f1 := hf.c1
  have fz := hf.fbz
  have cp := Lib.hid (peer_at h n hn)
  have H := Lib.hid h
  have HF := Lib.hid hf
  unfold TellPost at cp
  unfold NextPost
  cases hlv : livesR f n with
  | false =>
    rw [hlv] at cp
    clear h hlv hf
    go_enter Tryz.func80, Tryz.ntmps80
    go_wp2_with fail
    refine cp.out.mono ?_
    intro e w1 hq
    rw [if_neg (by decide)] at hq
    obtain ⟨v, rfl, hE, hB⟩ := hq
    have HE := Lib.hid hE
    obtain ⟨b, rfl, _⟩ := hE
    go_wp2_with fail
    go_ret2
    exact ⟨⟨_, rfl, HE.out.below (by (repeat (first | exact Below.refl _ _ | (with_reducible assumption) | (with_reducible refine bel_later ?_ _) | (with_reducible refine bel_alloc ?_ _) | (with_reducible refine bel_drew ?_) | (with_reducible refine bel_drewN ?_ _) | (with_reducible refine bel_set ?_ (by first | (simp; done) | (simp; omega) | (dsimp only; omega)) _))))⟩, by (repeat (first | exact Below.refl _ _ | (with_reducible assumption) | (with_reducible refine bel_later ?_ _) | (with_reducible refine bel_alloc ?_ _) | (with_reducible refine bel_drew ?_) | (with_reducible refine bel_drewN ?_ _) | (with_reducible refine bel_set ?_ (by first | (simp; done) | (simp; omega) | (dsimp only; omega)) _)))⟩
  | true =>
    have hd := succR_dom h.dom n
    have hpd : okInt (predR f n) := by
      obtain ⟨m, hm, _⟩ := livesR_some hlv
      have := h.dom n m hm
      unfold predR; rw [hm]
      exact okInt_dom this.2.2.2.2.1.1 this.2.2.2.2.1.2
    rw [hlv] at cp
    have hbe : ownsR f n x = ownsV f (idR f n) (predR f n) x := rfl
    have HNX : Hid (nextR f F n x = if (idR f n == x || ownsR f n x) = true then n else if inB x (idR f n) (idR f (headR f n)) = true then headR f n else bestK f F n x 2) := show nextR f F n x = _ by
      unfold nextR bestK
      rw [List.foldl_append]; rfl
    have HBK := Lib.hid (fun j hj => bestK_succ f F n x (j := j) hj)
    have HBO := Lib.hid (fun j => bestK_ok (F := F) h.dom n x j)
    have HTD := Lib.hid (fun j => two_dom h hf n j)
    have hb0 : bestK f F n x 0 = headR f n := rfl
    have ht0 : twoL f F n 0 = succR f n := rfl
    have ht1 : twoL f F n 1 = F n := rfl
    have HPO := Lib.hid (fun (l : List Int) b hb => picks_ok h.dom n x l (b := b) hb)
    obtain ⟨nx, hnx⟩ : ∃ z, z = nextR f F n x := ⟨_, rfl⟩
    obtain ⟨ow, how⟩ : ∃ z, z = ownsR f n x := ⟨_, rfl⟩
    obtain ⟨id, hid⟩ : ∃ z, z = idR f n := ⟨_, rfl⟩
    obtain ⟨pr, hpr⟩ : ∃ z, z = predR f n := ⟨_, rfl⟩
    obtain ⟨hh, hhh⟩ : ∃ z, z = headR f n := ⟨_, rfl⟩
    obtain ⟨sl, hsl⟩ : ∃ z, z = succR f n := ⟨_, rfl⟩
    obtain ⟨fl, hfl⟩ : ∃ z, z = F n := ⟨_, rfl⟩
    have HHL : Hid (headL f sl = hh) := show headL f sl = hh by rw [hsl, hhh]; rfl
    rw [← hid, ← hpr, ← hsl] at cp
    rw [← hid, ← hpr, ← how] at hbe
    rw [← hnx, ← hid, ← how, ← hhh] at HNX
    rw [← hsl] at hd ht0
    rw [← hfl] at ht1
    rw [← hhh] at hb0
    rw [← hpr] at hpd
    rw [← hnx]
    have hl3 := hd.1
    have HD := Lib.hid hd.2
    have HBE := Lib.hid hbe
    have HT0 := Lib.hid ht0
    have HT1 := Lib.hid ht1
    have HB0 := Lib.hid hb0
    have hho : okB hh := by rw [hhh]; exact head_ok h.dom n
    have HFL := Lib.hid hfl
    clear hid hpr hsl hlv h hd hf hnx how hhh hfl hbe ht0 ht1 hb0
    go_enter Tryz.func80, Tryz.ntmps80
    go_wp2_with fail
    refine cp.out.mono ?_
    intro e w1 hq
    rw [if_pos trivial] at hq
    obtain ⟨v, rfl, hs, hB⟩ := hq
    obtain ⟨a1, q1, rfl, _⟩ := hs.slice
    have S1 := Lib.hid (hs.base (Nat.zero_le _))
    have B1 := Lib.hid hB
    clear hs hB f0 f1
    go_wp2_with fail
    obtain ⟨w2, hw2⟩ : ∃ z, z = w1.alloc (.cells #[.int .u64 id, .int .i64 pr, .slice a1 sl.length q1] 63) := ⟨_, rfl⟩
    obtain ⟨pb, hpb⟩ : ∃ z, z = w1.heap.size := ⟨_, rfl⟩
    have B12 : Hid (RowKit.Below w1.heap.size w1 w2) := by rw [hw2]; exact bel_alloc (RowKit.Below.refl _ _) _
    have B2 := Lib.hid (bel_below B1.out B12.out)
    have p0 : w2.cell? ⟨pb, 0, none⟩ = some (.int .u64 id) := by rw [hw2, hpb]; simp [go_sem]
    have p1 : w2.cell? ⟨pb, 1, none⟩ = some (.int .i64 pr) := by rw [hw2, hpb]; simp [go_sem]
    have p2 : w2.cell? ⟨pb, 2, none⟩ = some (.slice a1 sl.length q1) := by rw [hw2, hpb]; simp [go_sem]
    have pz : pb < w2.heap.size := by rw [hw2, hpb]; simp
    have f0 := (HF.out.below B2.out).c0
    have fz := (HF.out.below B2.out).fbz
    have S2 := Lib.hid (S1.out.below B12.out)
    rw [← hw2, ← hpb]
    clear hw2 hpb B1 B12 S1 cp
    have CO := Lib.hid fun wr (hb : RowKit.Below w2.heap.size w2 wr) => owns_at (H.out.below (bel_below B2.out hb)) id pr x hpd a1 sl.length q1
    rw [← HBE.out] at CO
    by_cases c1 : (id == x || ow) = true
    · rw [if_pos c1] at HNX
      have hc : (id == x) = true ∨ (id == x) = false ∧ ow = true := by
        cases h1 : id == x <;> simp_all
      clear c1
      rcases hc with c1 | ⟨c1, c2⟩
      · go_wp2_with fail
        refine wp_region_calm (by kernel_rfl) (by kernel_rfl) ?_
        repeat (first | (go_big_quiet_step ((first | (go_at_call 99; exact calls_calm (CO.out _ (by (repeat (first | exact Below.refl _ _ | (with_reducible assumption) | (with_reducible refine bel_later ?_ _) | (with_reducible refine bel_alloc ?_ _) | (with_reducible refine bel_drew ?_) | (with_reducible refine bel_drewN ?_ _) | (with_reducible refine bel_set ?_ (by first | (simp; done) | (simp; omega) | (dsimp only; omega)) _))))))))) | (refine wpQuiet_step (fun K hK => ?_); go_simp; first | (refine hK _ ?_; clear hK K) | (apply Exists.intro; refine ⟨fun _ => ?_, hK _ ?_⟩; (first | (go_at_call 99; exact calls_calm (CO.out _ (by (repeat (first | exact Below.refl _ _ | (with_reducible assumption) | (with_reducible refine bel_later ?_ _) | (with_reducible refine bel_alloc ?_ _) | (with_reducible refine bel_drew ?_) | (with_reducible refine bel_drewN ?_ _) | (with_reducible refine bel_set ?_ (by first | (simp; done) | (simp; omega) | (dsimp only; omega)) _))))))); clear hK K)))
        refine wpQuiet_nil ?_
        intro _ hw'
        obtain ⟨xq, hw''⟩ := hw'
        subst hw''
        go_wp2_with fail
        go_ret2
        exact ⟨by rw [HNX.out]; first | done | rfl, by have := B2.out; (repeat (first | exact Below.refl _ _ | (with_reducible assumption) | (with_reducible refine bel_later ?_ _) | (with_reducible refine bel_alloc ?_ _) | (with_reducible refine bel_drew ?_) | (with_reducible refine bel_drewN ?_ _) | (with_reducible refine bel_set ?_ (by first | (simp; done) | (simp; omega) | (dsimp only; omega)) _)))⟩
      · rw [c2] at CO
        go_wp2_with fail
        refine wp_region_calm (by kernel_rfl) (by kernel_rfl) ?_
        repeat (first | (go_big_quiet_step ((first | (go_at_call 99; exact calls_calm (CO.out _ (by (repeat (first | exact Below.refl _ _ | (with_reducible assumption) | (with_reducible refine bel_later ?_ _) | (with_reducible refine bel_alloc ?_ _) | (with_reducible refine bel_drew ?_) | (with_reducible refine bel_drewN ?_ _) | (with_reducible refine bel_set ?_ (by first | (simp; done) | (simp; omega) | (dsimp only; omega)) _))))))))) | (refine wpQuiet_step (fun K hK => ?_); go_simp; first | (refine hK _ ?_; clear hK K) | (apply Exists.intro; refine ⟨fun _ => ?_, hK _ ?_⟩; (first | (go_at_call 99; exact calls_calm (CO.out _ (by (repeat (first | exact Below.refl _ _ | (with_reducible assumption) | (with_reducible refine bel_later ?_ _) | (with_reducible refine bel_alloc ?_ _) | (with_reducible refine bel_drew ?_) | (with_reducible refine bel_drewN ?_ _) | (with_reducible refine bel_set ?_ (by first | (simp; done) | (simp; omega) | (dsimp only; omega)) _))))))); clear hK K)))
        refine wpQuiet_nil ?_
        intro _ hw'
        obtain ⟨xq, hw''⟩ := hw'
        subst hw''
        go_wp2_with fail
        go_ret2
        exact ⟨by rw [HNX.out]; first | done | rfl, by have := B2.out; (repeat (first | exact Below.refl _ _ | (with_reducible assumption) | (with_reducible refine bel_later ?_ _) | (with_reducible refine bel_alloc ?_ _) | (with_reducible refine bel_drew ?_) | (with_reducible refine bel_drewN ?_ _) | (with_reducible refine bel_set ?_ (by first | (simp; done) | (simp; omega) | (dsimp only; omega)) _)))⟩
    · rw [if_neg c1] at HNX
      have hc : (id == x) = false ∧ ow = false := by
        cases h1 : id == x <;> simp_all
      clear c1
      obtain ⟨c1, c2⟩ := hc
      rw [c2] at CO
      go_wp2_with fail
      refine wp_region_calm (by kernel_rfl) (by kernel_rfl) ?_
      repeat (first | (go_big_quiet_step ((first | (go_at_call 99; exact calls_calm (CO.out _ (by (repeat (first | exact Below.refl _ _ | (with_reducible assumption) | (with_reducible refine bel_later ?_ _) | (with_reducible refine bel_alloc ?_ _) | (with_reducible refine bel_drew ?_) | (with_reducible refine bel_drewN ?_ _) | (with_reducible refine bel_set ?_ (by first | (simp; done) | (simp; omega) | (dsimp only; omega)) _))))))))) | (refine wpQuiet_step (fun K hK => ?_); go_simp; first | (refine hK _ ?_; clear hK K) | (apply Exists.intro; refine ⟨fun _ => ?_, hK _ ?_⟩; (first | (go_at_call 99; exact calls_calm (CO.out _ (by (repeat (first | exact Below.refl _ _ | (with_reducible assumption) | (with_reducible refine bel_later ?_ _) | (with_reducible refine bel_alloc ?_ _) | (with_reducible refine bel_drew ?_) | (with_reducible refine bel_drewN ?_ _) | (with_reducible refine bel_set ?_ (by first | (simp; done) | (simp; omega) | (dsimp only; omega)) _))))))); clear hK K)))
      refine wpQuiet_nil ?_
      intro _ hw'
      obtain ⟨xq, hw''⟩ := hw'
      subst hw''
      obtain ⟨w3, hb3⟩ := xq
      dsimp only
      have p0 := (hb3.cell (p := ⟨pb, 0, none⟩) pz).trans p0
      have p1 := (hb3.cell (p := ⟨pb, 1, none⟩) pz).trans p1
      have p2 := (hb3.cell (p := ⟨pb, 2, none⟩) pz).trans p2
      have f0 := (hb3.cell (p := ⟨fb, 0, none⟩) fz).trans f0
      have pz := Nat.lt_of_lt_of_le pz hb3.size
      have fz := Nat.lt_of_lt_of_le fz hb3.size
      have B3 := Lib.hid (bel_below B2.out hb3)
      have S3 := Lib.hid (S2.out.below hb3)
      clear CO hb3 B2 S2 c1 c2
      have CH := Lib.hid fun wr (hb : RowKit.Below w3.heap.size w3 wr) => head_at (H.out.below (bel_below B3.out hb)) sl (by omega) (fun y hy => okInt_dom (by have := HD.out y hy; omega) (by have := HD.out y hy; omega)) (.slice a1 sl.length q1) (S3.out.below hb) id pr
      rw [HHL.out] at CH
      go_wp2_with fail
      refine wp_region_calm (by kernel_rfl) (by kernel_rfl) ?_
      repeat (first | (go_big_quiet_step ((first | (go_at_call 27; exact calls_calm (CH.out _ (by (repeat (first | exact Below.refl _ _ | (with_reducible assumption) | (with_reducible refine bel_later ?_ _) | (with_reducible refine bel_alloc ?_ _) | (with_reducible refine bel_drew ?_) | (with_reducible refine bel_drewN ?_ _) | (with_reducible refine bel_set ?_ (by first | (simp; done) | (simp; omega) | (dsimp only; omega)) _))))))))) | (refine wpQuiet_step (fun K hK => ?_); go_simp; first | (refine hK _ ?_; clear hK K) | (apply Exists.intro; refine ⟨fun _ => ?_, hK _ ?_⟩; (first | (go_at_call 27; exact calls_calm (CH.out _ (by (repeat (first | exact Below.refl _ _ | (with_reducible assumption) | (with_reducible refine bel_later ?_ _) | (with_reducible refine bel_alloc ?_ _) | (with_reducible refine bel_drew ?_) | (with_reducible refine bel_drewN ?_ _) | (with_reducible refine bel_set ?_ (by first | (simp; done) | (simp; omega) | (dsimp only; omega)) _))))))); clear hK K)))
      refine wpQuiet_nil ?_
      intro _ hw'
      obtain ⟨xq, hw''⟩ := hw'
      subst hw''
      obtain ⟨w4, hb4⟩ := xq
      dsimp only
      have p0 := (hb4.cell (p := ⟨pb, 0, none⟩) pz).trans p0
      have p2 := (hb4.cell (p := ⟨pb, 2, none⟩) pz).trans p2
      have f0 := (hb4.cell (p := ⟨fb, 0, none⟩) fz).trans f0
      have pz := Nat.lt_of_lt_of_le pz hb4.size
      have fz := Nat.lt_of_lt_of_le fz hb4.size
      have B4 := Lib.hid (bel_below B3.out hb4)
      have S4 := Lib.hid (S3.out.below hb4)
      clear CH hb4 B3 S3 p1
      have CD := Lib.hid fun wr (hb : RowKit.Below w4.heap.size w4 wr) => id_at (H.out.below (bel_below B4.out hb)) hh (okB_int hho)
      obtain ⟨b4, hb4⟩ : ∃ z, z = inB x id (idR f hh) := ⟨_, rfl⟩
      have CI : Hid (∀ w', Calls Tryz.prog 100 #[.int .u64 x, .int .u64 id, .int .u64 (idR f hh)] w' fun e w'' => e = .returned (.bool b4) ∧ w' = w'') := fun w' => hb4 ▸ in_any _ _ _ _
      rw [← hb4] at HNX
      clear hb4
      cases b4 with
      | true =>
        rw [if_pos rfl] at HNX
        go_wp2_with fail
        refine wp_region_calm (by kernel_rfl) (by kernel_rfl) ?_
        repeat (first | (go_big_quiet_step ((first | (go_at_call 26; exact calls_calm_same (CD.out _ (by (repeat (first | exact Below.refl _ _ | (with_reducible assumption) | (with_reducible refine bel_later ?_ _) | (with_reducible refine bel_alloc ?_ _) | (with_reducible refine bel_drew ?_) | (with_reducible refine bel_drewN ?_ _) | (with_reducible refine bel_set ?_ (by first | (simp; done) | (simp; omega) | (dsimp only; omega)) _)))))) | (go_at_call 100; exact calls_calm_same (CI.out _))))) | (refine wpQuiet_step (fun K hK => ?_); go_simp; first | (refine hK _ ?_; clear hK K) | (apply Exists.intro; refine ⟨fun _ => ?_, hK _ ?_⟩; (first | (go_at_call 26; exact calls_calm_same (CD.out _ (by (repeat (first | exact Below.refl _ _ | (with_reducible assumption) | (with_reducible refine bel_later ?_ _) | (with_reducible refine bel_alloc ?_ _) | (with_reducible refine bel_drew ?_) | (with_reducible refine bel_drewN ?_ _) | (with_reducible refine bel_set ?_ (by first | (simp; done) | (simp; omega) | (dsimp only; omega)) _)))))) | (go_at_call 100; exact calls_calm_same (CI.out _))); clear hK K)))
        refine wpQuiet_nil ?_
        intro _ hw'
        obtain ⟨xq, hw''⟩ := hw'
        subst hw''
        go_wp2_with fail
        go_ret2
        exact ⟨by rw [HNX.out]; first | done | rfl, by have := B4.out; (repeat (first | exact Below.refl _ _ | (with_reducible assumption) | (with_reducible refine bel_later ?_ _) | (with_reducible refine bel_alloc ?_ _) | (with_reducible refine bel_drew ?_) | (with_reducible refine bel_drewN ?_ _) | (with_reducible refine bel_set ?_ (by first | (simp; done) | (simp; omega) | (dsimp only; omega)) _)))⟩
      | false =>
        rw [if_neg (by decide)] at HNX
        go_wp2_with fail
        refine wp_region_calm (by kernel_rfl) (by kernel_rfl) ?_
        repeat (first | (go_big_quiet_step ((first | (go_at_call 26; exact calls_calm_same (CD.out _ (by (repeat (first | exact Below.refl _ _ | (with_reducible assumption) | (with_reducible refine bel_later ?_ _) | (with_reducible refine bel_alloc ?_ _) | (with_reducible refine bel_drew ?_) | (with_reducible refine bel_drewN ?_ _) | (with_reducible refine bel_set ?_ (by first | (simp; done) | (simp; omega) | (dsimp only; omega)) _)))))) | (go_at_call 100; exact calls_calm_same (CI.out _))))) | (refine wpQuiet_step (fun K hK => ?_); go_simp; first | (refine hK _ ?_; clear hK K) | (apply Exists.intro; refine ⟨fun _ => ?_, hK _ ?_⟩; (first | (go_at_call 26; exact calls_calm_same (CD.out _ (by (repeat (first | exact Below.refl _ _ | (with_reducible assumption) | (with_reducible refine bel_later ?_ _) | (with_reducible refine bel_alloc ?_ _) | (with_reducible refine bel_drew ?_) | (with_reducible refine bel_drewN ?_ _) | (with_reducible refine bel_set ?_ (by first | (simp; done) | (simp; omega) | (dsimp only; omega)) _)))))) | (go_at_call 100; exact calls_calm_same (CI.out _))); clear hK K)))
        refine wpQuiet_nil ?_
        intro _ hw'
        obtain ⟨xq, hw''⟩ := hw'
        subst hw''
        obtain ⟨w5, hb5⟩ := xq
        dsimp only
        have p2 := (hb5.cell (p := ⟨pb, 2, none⟩) pz).trans p2
        have pz := Nat.lt_of_lt_of_le pz hb5.size
        have B5 := Lib.hid (bel_below B4.out hb5)
        have S5 := Lib.hid (S4.out.below hb5)
        have HF5 := Lib.hid (HF.out.below B5.out)
        have f0 := HF5.out.c0
        have f1 := HF5.out.c1
        have fz := HF5.out.fbz
        have fz2 := HF5.out.fmz
        obtain ⟨a2, q2, hs2, hlk⟩ := HF5.out.at n hn
        rw [← HFL.out] at hs2 hlk
        have T5 := Lib.hid hs2
        have LK : ∀ y : Later w5, (Instr.lookup 73 (.map (some fm)) (.int .i64 n) false).run Tryz.prog y.world = .ok (.slice a2 fl.length q2) y.world := fun y => by
          obtain ⟨a3, q3, hs3, hlk3⟩ := (HF5.out.below y.below).at n hn
          obtain ⟨m, hm, _, _⟩ := HF5.out.map
          have k1 := hm.look keyInt Tryz.underlying3 Tryz.underlying73 (Tryz.zeroValue37 w5) n hn
          have k2 := (hm.block (y.below.block _ fz2)).look keyInt Tryz.underlying3 Tryz.underlying73 (Tryz.zeroValue37 y.world) n hn
          rw [hlk] at k1
          injection k1 with k1
          rw [k2, ← k1]
        clear hs2 CD CI hb5 B4 S4
        go_wp2_with fail
        refine wp_region_all [0, 1, 2, 3, 4, 5, 6, 7, 10] (fun w' => ∃ y : Later w5, w' = y.world) (by kernel_rfl) (by kernel_rfl) ⟨⟨{ w5 with drawn := w5.drawn + 1 }, (RowKit.Below.refl _ _).drew⟩, rfl⟩ (fun d v c a w h => by cases d <;> exact h) ?_
        simp only [headOps]
        repeat (refine wpTame_step (fun K hK => ?_); go_simp; refine hK _ ?_; clear hK K)
        refine wpTame_nil ?_
        refine wpAnyC_step (f := 1) [8] (by kernel_rfl) rfl rfl (fun i hi => ?_)
        simp only [List.mem_cons, List.not_mem_nil, or_false] at hi
        subst hi
        refine ⟨_, rfl, fun R hR => ?_⟩
        go_wp2_with fail
        obtain ⟨w7, hw7⟩ : ∃ z, z = (w5.alloc (.cells #[.slice a1 sl.length q1, .slice a2 fl.length q2] 37)).drew := ⟨_, rfl⟩
        obtain ⟨LB, hLB⟩ : ∃ z, z = w5.heap.size := ⟨_, rfl⟩
        have B57 : Hid (RowKit.Below w5.heap.size w5 w7) := by rw [hw7]; exact bel_drew (bel_alloc (RowKit.Below.refl _ _) _)
        have l0 : w7.cell? ⟨LB, 0, none⟩ = some (.slice a1 sl.length q1) := by rw [hw7, hLB]; simp [go_sem]
        have l1 : w7.cell? ⟨LB, 1, none⟩ = some (.slice a2 fl.length q2) := by rw [hw7, hLB]; simp [go_sem]
        have lz : LB < w7.heap.size := by rw [hw7, hLB]; simp
        have HTW : Hid (∀ j, j < 2 → ∃ a c, w7.cell? ⟨LB, j, none⟩ = some (.slice a (twoL f F n j).length c) ∧ SlAt 0 (fun i => .int .i64 (nth (twoL f F n j) i)) (twoL f F n j).length w7 (.slice a (twoL f F n j).length c)) := show ∀ j, _ → _ from fun j hj => by
          rcases (show j = 0 ∨ j = 1 by omega) with rfl | rfl
          · rw [HT0.out]; exact ⟨_, _, l0, S5.out.below B57.out⟩
          · rw [HT1.out]; exact ⟨_, _, l1, T5.out.below B57.out⟩
        have B7 := Lib.hid (bel_below B5.out B57.out)
        rw [← hw7, ← hLB]
        refine hR _ _ ⟨⟨w7, B57.out⟩, rfl⟩ ?_
        clear hR R hw7 hLB l0 l1 B5 S5 T5 LK p2 pz f0 f1 fz fz2 hlk HF5
        refine wpAnyC_step (f := 0) [9] (by kernel_rfl) rfl rfl (fun i hi => ?_)
        simp only [List.mem_cons, List.not_mem_nil, or_false] at hi
        subst hi
        refine ⟨_, rfl, fun R hR => ?_⟩
        go_wp2_with fail
        refine hR _ _ ⟨⟨w7, B57.out⟩, rfl⟩ ?_
        clear hR R B57
        refine wpAnyC_done (by kernel_rfl) ?_
        go_wp2_with fail
        go_loopw [10, 70] (fun b i wr => ∃ j : Nat, j ≤ 2 ∧ i = .int .i64 j ∧ Hid (b = .int .i64 (bestK f F n x j)) ∧ Hid (RowKit.Below w7.heap.size w7 wr)) (fun _ i _ => 2 - (intOf i).toNat)
        case atStart => exact ⟨0, by omega, rfl, (show _ = _ by rw [HB0.out]), RowKit.Below.refl _ _⟩
        case round =>
          obtain ⟨j, hj, rfl, hb, hB⟩ := hrel
          obtain ⟨b0, hb0⟩ : ∃ z, z = bestK f F n x j := ⟨_, rfl⟩
          have hbv := hb.out
          rw [← hb0] at hbv
          subst hbv
          have HB00 := Lib.hid hb0
          have hbo : Hid (okB b0) := show okB b0 by rw [hb0]; exact HBO.out j
          clear hb hb0
          by_cases hlt : j < 2
          · obtain ⟨a, c, hcl, hsl⟩ := HTW.out j hlt
            have hnext := Lib.hid (HBK.out j hlt)
            rw [← HB00.out] at hnext
            have hdl := HTD.out j
            obtain ⟨l, hl⟩ : ∃ z, z = twoL f F n j := ⟨_, rfl⟩
            rw [← hl] at hcl hsl hnext hdl
            have hl64 := hdl.1
            have HDL := Lib.hid hdl.2
            have hcl := (hB.out.cell (p := ⟨LB, j, none⟩) lz).trans hcl
            have lz := Nat.lt_of_lt_of_le lz hB.out.size
            have SL := Lib.hid (hsl.below hB.out)
            have hjI : ((j : Nat) : Int) < 2 := by omega
            clear hl hdl hsl
            obtain ⟨wo, rfl⟩ : ∃ wo : World, wo = wr := ⟨_, rfl⟩
            go_wp2_with fail
            go_loopw [10, 76] (fun b i wr => ∃ k : Nat, k ≤ l.length ∧ i = .int .i64 k ∧ Hid (b = .int .i64 ((l.take k).foldl (pickR f n x) b0)) ∧ Hid (RowKit.Below wo.heap.size wo wr)) (fun _ i _ => l.length - (intOf i).toNat)
            case atStart => exact ⟨0, by omega, rfl, (show _ = _ from rfl), RowKit.Below.refl _ _⟩
            case round =>
              obtain ⟨k, hk, rfl, hb, hBi⟩ := hrel
              obtain ⟨bk, hbk⟩ : ∃ z, z = (l.take k).foldl (pickR f n x) b0 := ⟨_, rfl⟩
              have hbv := hb.out
              rw [← hbk] at hbv
              subst hbv
              have hbko : okB bk := by rw [hbk]; exact HPO.out _ _ hbo.out
              have HBK2 := Lib.hid hbk
              have BR := Lib.hid (bel_below B7.out (bel_below hB.out hBi.out))
              clear hb hbk
              by_cases hlk : k < l.length
              · obtain ⟨vb, vo, rfl, _, hvz, hv⟩ := SL.out.at k hlk wr hBi.out
                have hqd := HDL.out _ (nth_mem.2 ⟨k, hlk, rfl⟩)
                have hsn := picks_snoc f n x b0 l hlk
                rw [← HBK2.out] at hsn
                obtain ⟨q, hq⟩ : ∃ z, z = nth l k := ⟨_, rfl⟩
                rw [← hq] at hv hqd hsn
                clear hq
                have HFr := HF.out.below BR.out
                have f0 := HFr.c0
                have fz := HFr.fbz
                have CQ := Lib.hid fun wr' (hb : RowKit.Below wr.heap.size wr wr') => id_at (H.out.below (bel_below BR.out hb)) q (okInt_dom (by omega) (by omega))
                have CB := Lib.hid fun wr' (hb : RowKit.Below wr.heap.size wr wr') => id_at (H.out.below (bel_below BR.out hb)) bk (okB_int hbko)
                have CN := Lib.hid fun wr' (hb : RowKit.Below wr.heap.size wr wr') => near_at (H.out.below (bel_below BR.out hb)) q (idR f bk) n (okInt_dom (by omega) (by omega)) hn
                obtain ⟨nb, hnb⟩ : ∃ z, z = nearR f q (idR f bk) n := ⟨_, rfl⟩
                obtain ⟨wb, hwb⟩ : ∃ z, z = withinB (idR f q) (idR f bk) x := ⟨_, rfl⟩
                have CW : Hid (∀ w', Calls Tryz.prog 28 #[.int .u64 (idR f q), .int .u64 (idR f bk), .int .u64 x] w' fun e w'' => e = .returned (.bool wb) ∧ w' = w'') := fun w' => hwb ▸ within_any _ _ _ _
                have hpk : pickR f n x bk q = if (nb && wb) = true then q else bk := by unfold pickR betterR; rw [← hnb, ← hwb]
                rw [← hnb] at CN
                rw [hpk] at hsn
                have HSN := Lib.hid hsn
                clear hnb hwb hsn HFr hqd hpk
                cases nb with
                | false =>
                  go_wp2_with fail
                  refine wp_region_calm (by kernel_rfl) (by kernel_rfl) ?_
                  repeat (first | (go_big_quiet_step ((first | (go_at_call_of 26 (Value.int .i64 bk); exact calls_calm_same (CB.out _ (by (repeat (first | exact Below.refl _ _ | (with_reducible assumption) | (with_reducible refine bel_later ?_ _) | (with_reducible refine bel_alloc ?_ _) | (with_reducible refine bel_drew ?_) | (with_reducible refine bel_drewN ?_ _) | (with_reducible refine bel_set ?_ (by first | (simp; done) | (simp; omega) | (dsimp only; omega)) _)))))) | (go_at_call 50; exact calls_calm (CN.out _ (by (repeat (first | exact Below.refl _ _ | (with_reducible assumption) | (with_reducible refine bel_later ?_ _) | (with_reducible refine bel_alloc ?_ _) | (with_reducible refine bel_drew ?_) | (with_reducible refine bel_drewN ?_ _) | (with_reducible refine bel_set ?_ (by first | (simp; done) | (simp; omega) | (dsimp only; omega)) _))))))))) | (refine wpQuiet_step (fun K hK => ?_); go_simp; first | (refine hK _ ?_; clear hK K) | (apply Exists.intro; refine ⟨fun _ => ?_, hK _ ?_⟩; (first | (go_at_call_of 26 (Value.int .i64 bk); exact calls_calm_same (CB.out _ (by (repeat (first | exact Below.refl _ _ | (with_reducible assumption) | (with_reducible refine bel_later ?_ _) | (with_reducible refine bel_alloc ?_ _) | (with_reducible refine bel_drew ?_) | (with_reducible refine bel_drewN ?_ _) | (with_reducible refine bel_set ?_ (by first | (simp; done) | (simp; omega) | (dsimp only; omega)) _)))))) | (go_at_call 50; exact calls_calm (CN.out _ (by (repeat (first | exact Below.refl _ _ | (with_reducible assumption) | (with_reducible refine bel_later ?_ _) | (with_reducible refine bel_alloc ?_ _) | (with_reducible refine bel_drew ?_) | (with_reducible refine bel_drewN ?_ _) | (with_reducible refine bel_set ?_ (by first | (simp; done) | (simp; omega) | (dsimp only; omega)) _))))))); clear hK K)))
                  refine wpQuiet_nil ?_
                  intro _ hw'
                  obtain ⟨xq, hw''⟩ := hw'
                  subst hw''
                  obtain ⟨wy, hby⟩ := xq
                  dsimp only
                  have BY := Lib.hid (bel_below hBi.out hby)
                  clear hby f0 fz CQ CB CN CW hv hvz
                  go_wp2_with fail
                  go_roundw
                  case rel => go_light; exact ⟨k + 1, by omega, by go_num, (show _ = _ by rw [HSN.out]; rfl), BY⟩
                  case measure => go_light; simp [intOf]; omega
                | true =>
                  cases wb with
                  | false =>
                    go_wp2_with fail
                    refine wp_region_calm (by kernel_rfl) (by kernel_rfl) ?_
                    repeat (first | (go_big_quiet_step ((first | (go_at_call_of 26 (Value.int .i64 bk); exact calls_calm_same (CB.out _ (by (repeat (first | exact Below.refl _ _ | (with_reducible assumption) | (with_reducible refine bel_later ?_ _) | (with_reducible refine bel_alloc ?_ _) | (with_reducible refine bel_drew ?_) | (with_reducible refine bel_drewN ?_ _) | (with_reducible refine bel_set ?_ (by first | (simp; done) | (simp; omega) | (dsimp only; omega)) _)))))) | (go_at_call_of 26 (Value.int .i64 q); exact calls_calm_same (CQ.out _ (by (repeat (first | exact Below.refl _ _ | (with_reducible assumption) | (with_reducible refine bel_later ?_ _) | (with_reducible refine bel_alloc ?_ _) | (with_reducible refine bel_drew ?_) | (with_reducible refine bel_drewN ?_ _) | (with_reducible refine bel_set ?_ (by first | (simp; done) | (simp; omega) | (dsimp only; omega)) _)))))) | (go_at_call 50; exact calls_calm (CN.out _ (by (repeat (first | exact Below.refl _ _ | (with_reducible assumption) | (with_reducible refine bel_later ?_ _) | (with_reducible refine bel_alloc ?_ _) | (with_reducible refine bel_drew ?_) | (with_reducible refine bel_drewN ?_ _) | (with_reducible refine bel_set ?_ (by first | (simp; done) | (simp; omega) | (dsimp only; omega)) _)))))) | (go_at_call 28; exact calls_calm_same (CW.out _))))) | (refine wpQuiet_step (fun K hK => ?_); go_simp; first | (refine hK _ ?_; clear hK K) | (apply Exists.intro; refine ⟨fun _ => ?_, hK _ ?_⟩; (first | (go_at_call_of 26 (Value.int .i64 bk); exact calls_calm_same (CB.out _ (by (repeat (first | exact Below.refl _ _ | (with_reducible assumption) | (with_reducible refine bel_later ?_ _) | (with_reducible refine bel_alloc ?_ _) | (with_reducible refine bel_drew ?_) | (with_reducible refine bel_drewN ?_ _) | (with_reducible refine bel_set ?_ (by first | (simp; done) | (simp; omega) | (dsimp only; omega)) _)))))) | (go_at_call_of 26 (Value.int .i64 q); exact calls_calm_same (CQ.out _ (by (repeat (first | exact Below.refl _ _ | (with_reducible assumption) | (with_reducible refine bel_later ?_ _) | (with_reducible refine bel_alloc ?_ _) | (with_reducible refine bel_drew ?_) | (with_reducible refine bel_drewN ?_ _) | (with_reducible refine bel_set ?_ (by first | (simp; done) | (simp; omega) | (dsimp only; omega)) _)))))) | (go_at_call 50; exact calls_calm (CN.out _ (by (repeat (first | exact Below.refl _ _ | (with_reducible assumption) | (with_reducible refine bel_later ?_ _) | (with_reducible refine bel_alloc ?_ _) | (with_reducible refine bel_drew ?_) | (with_reducible refine bel_drewN ?_ _) | (with_reducible refine bel_set ?_ (by first | (simp; done) | (simp; omega) | (dsimp only; omega)) _)))))) | (go_at_call 28; exact calls_calm_same (CW.out _))); clear hK K)))
                    refine wpQuiet_nil ?_
                    intro _ hw'
                    obtain ⟨xq, hw''⟩ := hw'
                    subst hw''
                    obtain ⟨wy, hby⟩ := xq
                    dsimp only
                    have BY := Lib.hid (bel_below hBi.out hby)
                    clear hby f0 fz CQ CB CN CW hv hvz
                    go_wp2_with fail
                    go_roundw
                    case rel => go_light; exact ⟨k + 1, by omega, by go_num, (show _ = _ by rw [HSN.out]; rfl), BY⟩
                    case measure => go_light; simp [intOf]; omega
                  | true =>
                    go_wp2_with fail
                    refine wp_region_calm (by kernel_rfl) (by kernel_rfl) ?_
                    repeat (first | (go_big_quiet_step ((first | (go_at_call_of 26 (Value.int .i64 bk); exact calls_calm_same (CB.out _ (by (repeat (first | exact Below.refl _ _ | (with_reducible assumption) | (with_reducible refine bel_later ?_ _) | (with_reducible refine bel_alloc ?_ _) | (with_reducible refine bel_drew ?_) | (with_reducible refine bel_drewN ?_ _) | (with_reducible refine bel_set ?_ (by first | (simp; done) | (simp; omega) | (dsimp only; omega)) _)))))) | (go_at_call_of 26 (Value.int .i64 q); exact calls_calm_same (CQ.out _ (by (repeat (first | exact Below.refl _ _ | (with_reducible assumption) | (with_reducible refine bel_later ?_ _) | (with_reducible refine bel_alloc ?_ _) | (with_reducible refine bel_drew ?_) | (with_reducible refine bel_drewN ?_ _) | (with_reducible refine bel_set ?_ (by first | (simp; done) | (simp; omega) | (dsimp only; omega)) _)))))) | (go_at_call 50; exact calls_calm (CN.out _ (by (repeat (first | exact Below.refl _ _ | (with_reducible assumption) | (with_reducible refine bel_later ?_ _) | (with_reducible refine bel_alloc ?_ _) | (with_reducible refine bel_drew ?_) | (with_reducible refine bel_drewN ?_ _) | (with_reducible refine bel_set ?_ (by first | (simp; done) | (simp; omega) | (dsimp only; omega)) _)))))) | (go_at_call 28; exact calls_calm_same (CW.out _))))) | (refine wpQuiet_step (fun K hK => ?_); go_simp; first | (refine hK _ ?_; clear hK K) | (apply Exists.intro; refine ⟨fun _ => ?_, hK _ ?_⟩; (first | (go_at_call_of 26 (Value.int .i64 bk); exact calls_calm_same (CB.out _ (by (repeat (first | exact Below.refl _ _ | (with_reducible assumption) | (with_reducible refine bel_later ?_ _) | (with_reducible refine bel_alloc ?_ _) | (with_reducible refine bel_drew ?_) | (with_reducible refine bel_drewN ?_ _) | (with_reducible refine bel_set ?_ (by first | (simp; done) | (simp; omega) | (dsimp only; omega)) _)))))) | (go_at_call_of 26 (Value.int .i64 q); exact calls_calm_same (CQ.out _ (by (repeat (first | exact Below.refl _ _ | (with_reducible assumption) | (with_reducible refine bel_later ?_ _) | (with_reducible refine bel_alloc ?_ _) | (with_reducible refine bel_drew ?_) | (with_reducible refine bel_drewN ?_ _) | (with_reducible refine bel_set ?_ (by first | (simp; done) | (simp; omega) | (dsimp only; omega)) _)))))) | (go_at_call 50; exact calls_calm (CN.out _ (by (repeat (first | exact Below.refl _ _ | (with_reducible assumption) | (with_reducible refine bel_later ?_ _) | (with_reducible refine bel_alloc ?_ _) | (with_reducible refine bel_drew ?_) | (with_reducible refine bel_drewN ?_ _) | (with_reducible refine bel_set ?_ (by first | (simp; done) | (simp; omega) | (dsimp only; omega)) _)))))) | (go_at_call 28; exact calls_calm_same (CW.out _))); clear hK K)))
                    refine wpQuiet_nil ?_
                    intro _ hw'
                    obtain ⟨xq, hw''⟩ := hw'
                    subst hw''
                    obtain ⟨wy, hby⟩ := xq
                    dsimp only
                    have BY := Lib.hid (bel_below hBi.out hby)
                    clear hby f0 fz CQ CB CN CW hv hvz
                    go_wp2_with fail
                    go_roundw
                    case rel => go_light; exact ⟨k + 1, by omega, by go_num, (show _ = _ by rw [HSN.out]; rfl), BY⟩
                    case measure => go_light; simp [intOf]; omega
              · obtain rfl : k = l.length := by omega
                rw [List.take_length] at HBK2
                go_wp2_with fail
                go_roundw
                case rel => go_light; exact ⟨j + 1, by omega, by go_num, (show _ = _ by rw [hnext.out, HBK2.out]), bel_below hB.out hBi.out⟩
                case measure => go_light; simp [intOf]; omega
          · obtain rfl : j = 2 := by omega
            have hjI : ¬ ((2 : Nat) : Int) < 2 := by omega
            go_wp2_with fail
            go_ret2
            exact ⟨by rw [HNX.out, HB00.out]; first | done | rfl, bel_below B7.out hB.out⟩
theorem next_live (h : RAt S w rb mb g f) (hf : FinIs Q w fb rb fm F) (n x : Int) (hn : okInt n) (hl : livesR f n = true) :
    Calls Tryz.prog 80 #[.pointer (some ⟨fb, 0, none⟩), .int .i64 n, .int .u64 x] w fun e w' => e = .returned (.tuple #[.int .i64 (nextR f F n x), .nilIface]) ∧ RowKit.Below w.heap.size w w' :=
  (next_at h hf n x hn).mono fun e w' hp => by unfold NextPost at hp; rw [if_pos hl] at hp; exact hp
theorem next_dead (h : RAt S w rb mb g f) (hf : FinIs Q w fb rb fm F) (n x : Int) (hn : okInt n) (hl : livesR f n = false) :
    Calls Tryz.prog 80 #[.pointer (some ⟨fb, 0, none⟩), .int .i64 n, .int .u64 x] w fun e w' => (∃ v, e = .returned (.tuple #[.int .i64 (-1), v]) ∧ IsErr w.heap.size w' v 6) ∧ RowKit.Below w.heap.size w w' :=
  (next_at h hf n x hn).mono fun e w' hp => by unfold NextPost at hp; rw [hl, if_neg (by decide)] at hp; exact hp
end Go.Proofs.YtekinomnjgbgmaaGreat
namespace Go.Proofs.YtekinomnjgbgmaaGreat
open Go.RowKit Go.Maps Go.Sort Go.WideShapes Go.ChangeShapes Go.Deep
set_option linter.unusedVariables false
set_option linter.unusedSimpArgs false
attribute [local go_sem] later_cell later_frozen later_lt cell_set_off cell_set_block
variable {S Q : Nat → Prop} {w : World} {rb mb : Nat} {g : Int → Nat} {f : RS} {fb fm : Nat} {F : Int → List Int}

/-- What Path answers. -/
def PathPost (w : World) (f : RS) (F : Int → List Int) (n x : Int) (e : Ending) (w' : World) : Prop :=
  if livesR f n = true then
    match pathR (fun m => nextR f F m x) 65 n with
    | some l => ∃ v, e = .returned (.tuple #[v, .nilIface]) ∧ SlAt w.heap.size (fun i => .int .i64 (nth l i)) l.length w' v ∧ RowKit.Below w.heap.size w w'
    | none => ∃ v, e = .returned (.tuple #[.slice none 0 0, v]) ∧ IsErr w.heap.size w' v 13 ∧ RowKit.Below w.heap.size w w'
  else ∃ v, e = .returned (.tuple #[.slice none 0 0, v]) ∧ IsErr w.heap.size w' v 6 ∧ RowKit.Below w.heap.size w w'
/-- How far the way is found: what lies behind, where it is. -/
def OnWay (f : RS) (F : Int → List Int) (n x : Int) (k : Nat) (pre : List Int) (m : Int) : Prop :=
  livesR f m = true ∧ pre.length = k ∧ pathR (fun m => nextR f F m x) 65 n = (pathR (fun m => nextR f F m x) (65 - k) m).map (pre ++ ·)
set_option maxRecDepth 100000 in
set_option maxHeartbeats 8000000 in
theorem path_at (h : RAt S w rb mb g f) (hf : FinIs Q w fb rb fm F) (hh : Heads f) (n x : Int) (hn : okInt n) :
    Calls Tryz.prog 55 #[.pointer (some ⟨fb, 0, none⟩), .int .i64 n, .int .u64 x] w (PathPost w f F n x) := by
  obtain ⟨i0, hi, hz0, hz1, hz2⟩ : ∃ i0, Tryz.prog.info? 3 = some i0 ∧ i0.zero = some (Value.int .i64 0) ∧ i0.size = 1 ∧ i0.bytes = 8 := ⟨intI, intI_at, by kernel_rfl, by kernel_rfl, by kernel_rfl⟩
  have f0 := hf.c0
  have f1 := hf.c1
  have fz := hf.fbz
  have cl := Lib.hid (lives_at h n hn)
  have H := Lib.hid h
  have HF := Lib.hid hf
  cases hlv : livesR f n with
  | false =>
    rw [hlv] at cl
    have HP : Hid (∀ v w', IsErr w.heap.size w' v 6 → RowKit.Below w.heap.size w w' → PathPost w f F n x (.returned (.tuple #[.slice none 0 0, v])) w') := show ∀ v w', _ from fun v w' h1 h2 => by
      unfold PathPost; rw [hlv, if_neg (by decide)]; exact ⟨v, rfl, h1, h2⟩
    clear h hlv hf
    go_enter Tryz.func55, Tryz.ntmps55
    go_wp2_with (go_at_call 25; refine cl.out.mono ?_; rintro e w' ⟨rfl, rfl⟩)
    refine (rfault_any _ _).mono ?_
    rintro e w1 ⟨v, rfl, hE, hB⟩
    have HE := Lib.hid hE
    obtain ⟨b, rfl, _⟩ := hE
    go_wp2_with fail
    go_ret2
    exact HP.out _ _ HE.out hB
  | true =>
    rw [hlv] at cl
    have H0 : Hid (OnWay f F n x 0 [] n) := show OnWay f F n x 0 [] n from ⟨hlv, rfl, by simp⟩
    have HH := Lib.hid hh
    obtain ⟨PR, hPR⟩ : ∃ z, z = pathR (fun m => nextR f F m x) 65 n := ⟨_, rfl⟩
    have HPS : Hid (∀ l v w', PR = some l → SlAt w.heap.size (fun i => .int .i64 (nth l i)) l.length w' v → RowKit.Below w.heap.size w w' → PathPost w f F n x (.returned (.tuple #[v, .nilIface])) w') := show ∀ l v w', _ from fun l v w' h0 h1 h2 => by
      unfold PathPost; rw [if_pos hlv, ← hPR, h0]; exact ⟨v, rfl, h1, h2⟩
    have HPN : Hid (∀ v w', PR = none → IsErr w.heap.size w' v 13 → RowKit.Below w.heap.size w w' → PathPost w f F n x (.returned (.tuple #[.slice none 0 0, v])) w') := show ∀ v w', _ from fun v w' h0 h1 h2 => by
      unfold PathPost; rw [if_pos hlv, ← hPR, h0]; exact ⟨v, rfl, h1, h2⟩
    have HPR := Lib.hid hPR
    clear h hlv hf hPR hh f1
    go_enter Tryz.func55, Tryz.ntmps55
    go_wp2_with (go_at_call 25; refine cl.out.mono ?_; rintro e w' ⟨rfl, rfl⟩)
    have O0 : Hid ((w.alloc (.cells #[.int .i64 n] 3)).ownsRow w.heap.size 3 1 (.slice (some ⟨w.heap.size, 0, none⟩) 1 1) 1 (([] ++ [n]).map (Value.int .i64))) := own_lit w [.int .i64 n] 3 _ _ 1 rfl rfl (Nat.le_refl _) (by simp [maxLen])
    have B0 : Hid (RowKit.Below w.heap.size w (w.alloc (.cells #[.int .i64 n] 3))) := bel_alloc (RowKit.Below.refl _ _) _
    go_loopw [1, 8, 21] (fun m v i wr => ∃ (k : Nat) (pre : List Int) (y : Int), k ≤ 65 ∧ i = .int .i64 k ∧ m = .int .i64 y ∧ Hid (OnWay f F n x k pre y) ∧ Hid (wr.ownsRow w.heap.size 3 1 v (k + 1) ((pre ++ [y]).map (Value.int .i64))) ∧ Hid (RowKit.Below w.heap.size w wr))
      (fun _ _ i _ => 65 - (intOf i).toNat)
    case atStart => exact ⟨0, [], n, by omega, rfl, rfl, H0, O0, B0⟩
    case round =>
      obtain ⟨k, pre, y, hk, rfl, rfl, hW, hO, hB⟩ := hrel
      by_cases hlt : k < 65
      · have hkI : ((k : Nat) : Int) < 65 := by omega
        have oky : okInt y := okInt_dom (by have := livesR_dom H.out.dom hW.out.1; omega) (by have := livesR_dom H.out.dom hW.out.1; omega)
        have CN := Lib.hid (next_live (H.out.below hB.out) (HF.out.below hB.out) y x oky hW.out.1)
        have HNL := Lib.hid (next_lives HH.out F hW.out.1 x)
        have hst : Hid ((nextR f F y x = y → PR = some (pre ++ [y])) ∧ (nextR f F y x ≠ y → PR = (pathR (fun m => nextR f F m x) (65 - (k + 1)) (nextR f F y x)).map ((pre ++ [y]) ++ ·))) := by
          have h3 := hW.out.2.2
          rw [show 65 - k = (65 - (k + 1)) + 1 by omega] at h3
          rw [HPR.out]
          exact path_loop h3
        obtain ⟨z, hz⟩ : ∃ z, z = nextR f F y x := ⟨_, rfl⟩
        rw [← hz] at CN HNL hst
        clear hz oky
        go_wp2_with fail
        refine CN.out.mono ?_
        rintro e w1 ⟨rfl, hb1⟩
        have hO1 := Lib.hid (owns_below hO.out hb1)
        have B1 := Lib.hid (bel_below hB.out hb1)
        clear hb1 CN hB hO
        by_cases hzy : z = y
        · have hzb : (z == y) = true := by simpa using hzy
          have hE := Lib.hid (hst.out.1 hzy)
          clear hst hzy
          go_wp2_with fail
          go_ret2
          exact HPS.out _ _ _ hE.out (own_ints hO1.out) B1.out
        · have hzb : (z == y) = false := by simpa using hzy
          have hE := Lib.hid (hst.out.2 hzy)
          have hpl : pre.length = k := hW.out.2.1
          clear hst hzy
          go_wp2_with (at_builtin; refine wpList_app rfl _ _ 37 rfl w.heap.size 3 i0 (.int .i64 0) 8 Tryz.underlying37 hi hz0 hz1 hz2 rfl _ (k + 1) _ rfl (hO1.out.alloc _) 0 _ 1 _ rfl (sl_new _ .i64 [z] 3 _ 1 rfl rfl (by simp [maxLen])) (fun _ => rfl) ?qc1 ?qc2 ?qc3 ?_)
          case qc1 => simp only [maxLen]; omega
          case qc2 => omega
          case qc3 => have := B1.out.size; simp; omega
          intro v' w3 ho3 hg3
          have B3 : Hid (RowKit.Below w.heap.size w w3) := (bel_alloc B1.out _).grown hg3 (by have := B1.out.size; simp; omega) (fun q hq => (hO1.out.lt q hq).1)
          have HO3 := Lib.hid ho3
          have HPL := Lib.hid hpl
          clear ho3 hg3 hO1 B1 hpl
          go_wp2_with fail
          go_roundw
          case rel =>
            go_light
            refine ⟨k + 1, pre ++ [y], z, by omega, by go_num, rfl, ⟨HNL.out, by rw [List.length_append, HPL.out]; rfl, by rw [← HPR.out]; exact hE.out⟩, ?_, B3⟩
            have := HO3.out
            show World.ownsRow _ _ _ _ _ _ _
            simpa [nth] using this
          case measure => go_light; simp [intOf]; omega
      · obtain rfl : k = 65 := by omega
        have hN : Hid (PR = none) := show PR = none by
          have := hW.out.2.2
          rw [HPR.out, this]; rfl
        have hkI : ¬ ((65 : Nat) : Int) < 65 := by omega
        go_wp2_with fail
        refine (rfault_any _ _).mono ?_
        rintro e w1 ⟨v, rfl, hE, hB1⟩
        have HE := Lib.hid (hE.base hB.out.size)
        obtain ⟨b, rfl, _⟩ := hE
        go_wp2_with fail
        go_ret2
        exact HPN.out _ _ hN.out HE.out (bel_below hB.out hB1)

theorem path_some (h : RAt S w rb mb g f) (hf : FinIs Q w fb rb fm F) (hh : Heads f) (n x : Int) (hn : okInt n) (hl : livesR f n = true) {l : List Int} (hp : pathR (fun m => nextR f F m x) 65 n = some l) :
    Calls Tryz.prog 55 #[.pointer (some ⟨fb, 0, none⟩), .int .i64 n, .int .u64 x] w fun e w' => ∃ v, e = .returned (.tuple #[v, .nilIface]) ∧ SlAt w.heap.size (fun i => .int .i64 (nth l i)) l.length w' v ∧ RowKit.Below w.heap.size w w' :=
  (path_at h hf hh n x hn).mono fun e w' hq => by unfold PathPost at hq; rw [if_pos hl, hp] at hq; exact hq
theorem path_none (h : RAt S w rb mb g f) (hf : FinIs Q w fb rb fm F) (hh : Heads f) (n x : Int) (hn : okInt n) (hl : livesR f n = true) (hp : pathR (fun m => nextR f F m x) 65 n = none) :
    Calls Tryz.prog 55 #[.pointer (some ⟨fb, 0, none⟩), .int .i64 n, .int .u64 x] w fun e w' => ∃ v, e = .returned (.tuple #[.slice none 0 0, v]) ∧ IsErr w.heap.size w' v 13 ∧ RowKit.Below w.heap.size w w' :=
  (path_at h hf hh n x hn).mono fun e w' hq => by unfold PathPost at hq; rw [if_pos hl, hp] at hq; exact hq
theorem path_dead (h : RAt S w rb mb g f) (hf : FinIs Q w fb rb fm F) (hh : Heads f) (n x : Int) (hn : okInt n) (hl : livesR f n = false) :
    Calls Tryz.prog 55 #[.pointer (some ⟨fb, 0, none⟩), .int .i64 n, .int .u64 x] w fun e w' => ∃ v, e = .returned (.tuple #[.slice none 0 0, v]) ∧ IsErr w.heap.size w' v 6 ∧ RowKit.Below w.heap.size w w' :=
  (path_at h hf hh n x hn).mono fun e w' hq => by unfold PathPost at hq; rw [hl, if_neg (by decide)] at hq; exact hq

/-! ### Fix -/
def lastV (l : List Int) : Int := if 0 < l.length then lastL l else -1
theorem addF_same {l : List Int} {o : Int} (h : o = lastV l) (h0 : o ≠ -1) : addF l o = l := by
  unfold lastV at h
  unfold addF
  split at h
  · rename_i h1; rw [if_pos ⟨h1, h.symm⟩]
  · exact absurd h h0
theorem addF_new {l : List Int} {o : Int} (h : o ≠ lastV l) (h0 : o ≠ -1) : addF l o = l ++ [o] ∧ lastV (l ++ [o]) = o := by
  constructor
  · unfold addF
    rw [if_neg]
    rintro ⟨h1, h2⟩
    unfold lastV at h
    rw [if_pos h1] at h
    exact h h2.symm
  · unfold lastV lastL
    rw [if_pos (by simp)]
    unfold nth
    simp
def FixPost (w : World) (Q : Nat → Prop) (fb rb fm : Nat) (f : RS) (F : Int → List Int) (n : Int) (e : Ending) (w' : World) : Prop :=
  if livesR f n = true then e = .returned .nilIface ∧ FinIs (fun b => Q b ∨ w.heap.size ≤ b) w' fb rb fm (fix1 f F n) ∧ Kept (fun b => b = fm) w w'
  else ∃ v, e = .returned v ∧ IsErr w.heap.size w' v 6 ∧ RowKit.Below w.heap.size w w'
/-- Fingers are put into the map. -/
theorem FinIs.put (h : FinIs Q w fb rb fm F) {n : Int} (h0 : 0 ≤ n) (h1 : n < 32) {l : List Int} {v : Value} {w3 : World} (hb : RowKit.Below w.heap.size w w3) (hv : SlAt w.heap.size (fun i => .int .i64 (nth l i)) l.length w3 v)
    (hl : l.length ≤ 64) (hd : ∀ x ∈ l, 0 ≤ x ∧ x < 32) : ∃ w', (Instr.mapUpdate 73 (.map (some fm)) (.int .i64 n) v).run Tryz.prog w3 = .ok () w' ∧ FinIs (fun b => Q b ∨ w.heap.size ≤ b) w' fb rb fm (setL F n l) ∧ Kept (fun b => b = fm) w w' := by
  have h3 := h.below hb
  obtain ⟨m, hm, hdm, hls⟩ := h3.map
  obtain ⟨w', hrun, hm', ht⟩ := hm.store keyInt Tryz.underlying3 Tryz.underlying73 (by have := cntX_le m; simp only [maxLen]; omega) n (okInt_dom (by omega) h1) v
  have hg := ht.grown
  have hfm := h.fmz
  have hfb := h.fbz
  have hblk : ∀ b, b < w3.heap.size → b ≠ fm → w'.heap[b]? = w3.heap[b]? := fun b hb' hne => hg.block b hb' (fun e => hne (by cases e; rfl))
  refine ⟨w', hrun, ?_, ((Kept.refl _ w).below hb).trans ⟨hg.os, hg.tape, hg.output, hg.size, hblk⟩⟩
  refine { fbQ := Or.inl h.fbQ, fmQ := Or.inl h.fmQ, ne := h.ne, fbz := Nat.lt_of_lt_of_le h3.fbz hg.size, c0 := (World.cell?_of_block (hblk _ h3.fbz h.ne)).trans h3.c0, c1 := (World.cell?_of_block (hblk _ h3.fbz h.ne)).trans h3.c1, map := ?_, len := ?_, dom := ?_ }
  · refine ⟨setX m n v, ?_, fun j hj => ?_, fun j => ?_⟩
    · rw [cntX_set m v h0 h1]; exact hm'
    · by_cases e : j = n
      · rw [e]; exact ⟨h0, h1⟩
      · rw [setX_ne _ _ e] at hj; exact hdm j hj
    · by_cases e : j = n
      · rw [e, setX_same]
        show SlIn _ (setL F n l n) w' v
        rw [show setL F n l n = l by simp [setL]]
        refine (SlIn.of_slAt (Q := fun b => (Q b ∨ w.heap.size ≤ b) ∧ b ≠ fb ∧ b ≠ fm) hv fun b hb' => ⟨Or.inr hb', by omega, by omega⟩).imp (fun _ _ h => h) hg.size fun b hb' hq => hblk b hb' hq.2.2
      · rw [setX_ne _ _ e, show setL F n l j = F j by simp [setL, e]]
        exact (hls j).imp (fun b _ hq => ⟨Or.inl hq.1, hq.2⟩) hg.size fun b hb' hq => hblk b hb' hq.2.2
  · intro j
    unfold setL; split
    · exact hl
    · exact h.len j
  · intro j
    unfold setL; split
    · exact hd
    · exact h.dom j
set_option maxRecDepth 100000 in
set_option maxHeartbeats 8000000 in
theorem fix_at (h : RAt S w rb mb g f) (hf : FinIs Q w fb rb fm F) (hh : Heads f) (n : Int) (hn : okInt n) :
    Calls Tryz.prog 32 #[.pointer (some ⟨fb, 0, none⟩), .int .i64 n] w (FixPost w Q fb rb fm f F n) := by
  obtain ⟨i0, hi, hz0, hz1, hz2⟩ : ∃ i0, Tryz.prog.info? 3 = some i0 ∧ i0.zero = some (Value.int .i64 0) ∧ i0.size = 1 ∧ i0.bytes = 8 := ⟨intI, intI_at, by kernel_rfl, by kernel_rfl, by kernel_rfl⟩
  have f0 := hf.c0
  have fz := hf.fbz
  have cl := Lib.hid (lives_at h n hn)
  have H := Lib.hid h
  have HF := Lib.hid hf
  cases hlv : livesR f n with
  | false =>
    rw [hlv] at cl
    have HP : Hid (∀ v w', IsErr w.heap.size w' v 6 → RowKit.Below w.heap.size w w' → FixPost w Q fb rb fm f F n (.returned v) w') := show ∀ v w', _ from fun v w' h1 h2 => by
      unfold FixPost; rw [hlv, if_neg (by decide)]; exact ⟨v, rfl, h1, h2⟩
    clear h hlv hf
    go_enter Tryz.func32, Tryz.ntmps32
    go_wp2_with (go_at_call 25; refine cl.out.mono ?_; rintro e w' ⟨rfl, rfl⟩)
    refine (rfault_any _ _).mono ?_
    rintro e w1 ⟨v, rfl, hE, hB⟩
    have HE := Lib.hid hE
    obtain ⟨b, rfl, _⟩ := hE
    go_wp2_with fail
    go_ret
    exact HP.out _ _ HE.out hB
  | true =>
    rw [hlv] at cl
    have HP : Hid (∀ w', FinIs (fun b => Q b ∨ w.heap.size ≤ b) w' fb rb fm (fix1 f F n) → Kept (fun b => b = fm) w w' → FixPost w Q fb rb fm f F n (.returned .nilIface) w') := show ∀ w', _ from fun w' h1 h2 => by
      unfold FixPost; rw [if_pos hlv]; exact ⟨rfl, h1, h2⟩
    have HL := Lib.hid hlv
    have HH := Lib.hid hh
    have HR := Lib.hid (livesR_dom h.dom hlv)
    have HS := Lib.hid fun k => fixN_succ f F n k
    have HLN := Lib.hid fun k => fixN_len f F n k
    have HLV := Lib.hid fun k => fixN_lives hh F hlv k
    have hfx : Hid (fix1 f F n = setL F n (fixN f F n 64)) := show fix1 f F n = _ from rfl
    obtain ⟨fx, hfx'⟩ : ∃ z, z = fix1 f F n := ⟨_, rfl⟩
    rw [← hfx'] at hfx HP
    obtain ⟨fn, hfn⟩ : ∃ z : Nat → List Int, z = fixN f F n := ⟨_, rfl⟩
    have HF0 : Hid (fn 0 = []) := show fn 0 = [] by rw [hfn]; rfl
    rw [← hfn] at HS HLN HLV hfx
    clear h hlv hf hh hfx' hfn
    go_enter Tryz.func32, Tryz.ntmps32
    go_wp2_with (go_at_call 25; refine cl.out.mono ?_; rintro e w' ⟨rfl, rfl⟩)
    go_loopw [5, 6, 19] (fun v la i wr => ∃ k : Nat, k ≤ 64 ∧ i = .int .i64 k ∧ Hid (la = .int .i64 (lastV (fn k))) ∧ Hid (wr.ownsRow w.heap.size 3 1 v (fn k).length ((fn k).map (Value.int .i64))) ∧ Hid (RowKit.Below w.heap.size w wr))
      (fun _ _ i _ => 64 - (intOf i).toNat)
    case atStart => exact ⟨0, by omega, rfl, (show _ = _ by rw [HF0.out]; rfl), (show World.ownsRow _ _ _ _ _ _ _ by rw [HF0.out]; exact World.ownsRow_nil _ _ _ _), RowKit.Below.refl _ _⟩
    case round =>
      obtain ⟨k, hk, rfl, hla, hO, hB⟩ := hrel
      obtain ⟨lv, hlv⟩ : ∃ z, z = lastV (fn k) := ⟨_, rfl⟩
      rw [← hlv] at hla
      have HLV2 := Lib.hid hlv
      have hla2 := hla.out
      clear hla hlv
      subst hla2
      have f0 := (hB.out.cell (p := ⟨fb, 0, none⟩) fz).trans f0
      have fz := Nat.lt_of_lt_of_le fz hB.out.size
      by_cases hlt : k < 64
      · have hkI : ((k : Nat) : Int) < 64 := by omega
        have CD := Lib.hid (id_at (H.out.below hB.out) n hn)
        obtain ⟨id, hid⟩ : ∃ z, z = idR f n := ⟨_, rfl⟩
        obtain ⟨sx, hsx⟩ : ∃ z, z = startR (idR f n) k := ⟨_, rfl⟩
        have CS : Hid (∀ w', Calls Tryz.prog 56 #[.int .u64 id, .int .i64 k] w' fun e w'' => e = .returned (.int .u64 sx) ∧ w' = w'') := fun w' => by
          have := start_in0 id k (by omega) (by omega) w'
          rw [hsx, ← hid]
          unfold startR
          rw [show ((k : Nat) : Int).toNat = k by simp] at this
          exact this
        have CPS := Lib.hid fun l (hl : pathR (fun m => nextR f F m sx) 65 n = some l) => path_some (H.out.below hB.out) (HF.out.below hB.out) HH.out n sx hn HL.out hl
        have CPN := Lib.hid fun (hl : pathR (fun m => nextR f F m sx) 65 n = none) => path_none (H.out.below hB.out) (HF.out.below hB.out) HH.out n sx hn HL.out hl
        have hs := HS.out k
        rw [← hid] at CD
        unfold fixS at hs
        rw [← hsx] at hs
        have HSX := Lib.hid hsx
        have HPL := Lib.hid fun l (hl : pathR (fun m => nextR f F m sx) 65 n = some l) => And.intro (path_way _ _ _ hl).1.pos (And.intro (path_lives HH.out F sx _ _ _ HL.out hl _ (lastL_mem (path_way _ _ _ hl).1.pos)) (path_way _ _ _ hl).2)
        clear hid hsx
        obtain ⟨P, hP⟩ : ∃ z, z = pathR (fun m => nextR f F m sx) 65 n := ⟨_, rfl⟩
        rw [← hP] at CPS CPN hs HPL
        clear hP
        have hs1 := HLN.out k
        cases P with
        | none =>
          have hs' : fn (k + 1) = fn k := hs
          have HSS := Lib.hid hs'
          have CP := Lib.hid (CPN.out rfl)
          clear hs hs' CPS CPN
          go_wp2_with (first | (go_at_call 26; refine CD.out.mono ?_; rintro e w' ⟨rfl, rfl⟩) | (go_at_call 56; refine (CS.out _).mono ?_; rintro e w' ⟨rfl, rfl⟩))
          refine CP.out.mono ?_
          rintro e w1 ⟨v, rfl, ⟨b, rfl, _⟩, hb1⟩
          have O1 := Lib.hid (owns_below hO.out hb1)
          have B1 := Lib.hid (bel_below hB.out hb1)
          clear hb1 hO hB
          go_wp2_with fail
          go_roundw
          case rel =>
            go_light
            refine ⟨k + 1, by omega, by go_num, ?_, ?_, B1⟩
            · show _ = _
              rw [HSS.out, ← HLV2.out]
            · show World.ownsRow _ _ _ _ _ _ _
              rw [HSS.out]; exact O1.out
          case measure => go_light; simp [intOf]; omega
        | some l =>
          have hs' : fn (k + 1) = addF (fn k) (lastL l) := hs
          have HSS := Lib.hid hs'
          obtain ⟨hl0, hll, hl65⟩ := HPL.out l rfl
          have hlr := livesR_dom H.out.dom hll
          obtain ⟨o, ho⟩ : ∃ z, z = lastL l := ⟨_, rfl⟩
          have HO0 := Lib.hid (show nth l (l.length - 1) = o from ho.symm)
          rw [← ho] at HSS hlr
          have HSM := Lib.hid fun h => addF_same (l := fn k) (o := o) h (by omega)
          have HSN := Lib.hid fun h => addF_new (l := fn k) (o := o) h (by omega)
          rw [← HLV2.out] at HSM HSN
          have CP := Lib.hid (CPS.out l rfl)
          clear hs hs' hll ho CPS CPN
          go_wp2_with (first | (go_at_call 26; refine CD.out.mono ?_; rintro e w' ⟨rfl, rfl⟩) | (go_at_call 56; refine (CS.out _).mono ?_; rintro e w' ⟨rfl, rfl⟩))
          refine CP.out.mono ?_
          rintro e w1 ⟨v, rfl, hsl, hb1⟩
          obtain ⟨va, vc, rfl, _⟩ := hsl.slice
          obtain ⟨vb, vo, rfl, _, hvz, hv⟩ := hsl.at (l.length - 1) (by omega) w1 (RowKit.Below.refl _ _)
          rw [HO0.out] at hv
          have O1 := Lib.hid (owns_below hO.out hb1)
          have B1 := Lib.hid (bel_below hB.out hb1)
          have hcast : ((l.length : Nat) : Int) - 1 = ((l.length - 1 : Nat) : Int) := by omega
          clear hb1 hO hB hsl
          by_cases hol : o = lv
          · have hob : (o != lv) = false := by simpa using hol
            have hE := Lib.hid (HSM.out hol)
            clear hol
            go_wp2_with fail
            go_roundw
            case rel =>
              go_light
              refine ⟨k + 1, by omega, by go_num, ?_, ?_, B1⟩
              · show _ = _
                rw [HSS.out, hE.out, ← HLV2.out]
              · show World.ownsRow _ _ _ _ _ _ _
                rw [HSS.out, hE.out]; exact O1.out
            case measure => go_light; simp [intOf]; omega
          · have hob : (o != lv) = true := by simpa using hol
            have hE := Lib.hid (HSN.out hol)
            clear hol
            go_wp2_with (at_builtin; refine wpList_app rfl _ _ 37 rfl w.heap.size 3 i0 (.int .i64 0) 8 Tryz.underlying37 hi hz0 hz1 hz2 rfl _ (fn k).length _ rfl (O1.out.alloc _) 0 _ 1 _ rfl (sl_new _ .i64 [o] 3 _ 1 rfl rfl (by simp [maxLen])) (fun _ => rfl) ?qc1 ?qc2 ?qc3 ?_)
            case qc1 => simp only [maxLen]; omega
            case qc2 => omega
            case qc3 => have := B1.out.size; simp; omega
            intro v' w3 ho3 hg3
            have B3 : Hid (RowKit.Below w.heap.size w w3) := (bel_alloc B1.out _).grown hg3 (by have := B1.out.size; simp; omega) (fun q hq => (O1.out.lt q hq).1)
            have HO3 := Lib.hid ho3
            clear ho3 hg3 O1 B1
            go_wp2_with fail
            go_roundw
            case rel =>
              go_light
              refine ⟨k + 1, by omega, by go_num, ?_, ?_, B3⟩
              · show _ = _
                rw [HSS.out, hE.out.1, hE.out.2]
              · have := HO3.out
                show World.ownsRow _ _ _ _ _ _ _
                rw [HSS.out, hE.out.1]
                simpa [nth] using this
            case measure => go_light; simp [intOf]; omega
      · obtain rfl : k = 64 := by omega
        have hkI : ¬ ((64 : Nat) : Int) < 64 := by omega
        have f1 := (HF.out.below hB.out).c1
        obtain ⟨w', hrun, hfi, hkp⟩ := HF.out.put HR.out.1 HR.out.2 hB.out (own_ints hO.out) (HLN.out 64) (fun x hx => livesR_dom H.out.dom (HLV.out 64 x hx))
        rw [← hfx.out] at hfi
        have HFI := Lib.hid hfi
        have HKP := Lib.hid hkp
        clear hfi hkp
        go_wp2_with fail
        go_ret
        exact HP.out _ HFI.out HKP.out

theorem fix_live (h : RAt S w rb mb g f) (hf : FinIs Q w fb rb fm F) (hh : Heads f) (n : Int) (hn : okInt n) (hl : livesR f n = true) :
    Calls Tryz.prog 32 #[.pointer (some ⟨fb, 0, none⟩), .int .i64 n] w fun e w' => e = .returned .nilIface ∧ FinIs (fun b => Q b ∨ w.heap.size ≤ b) w' fb rb fm (fix1 f F n) ∧ Kept (fun b => b = fm) w w' :=
  (fix_at h hf hh n hn).mono fun e w' hp => by unfold FixPost at hp; rw [if_pos hl] at hp; exact hp
/-! ### Round, Of -/
/-- What Round leaves of the fingers. -/
def AllPost (w : World) (Q : Nat → Prop) (fb rb fm : Nat) (F' : Int → List Int) (e : Ending) (w' : World) : Prop :=
  e = .returned (.tuple #[]) ∧ FinIs (fun b => Q b ∨ w.heap.size ≤ b) w' fb rb fm F' ∧ Kept (fun b => b = fm) w w'
/-- The ring stays as it is where only the fingers' map turns. -/
theorem RingIs.off (h : RAt S w rb mb g f) {w' : World} (hk : Kept (fun b => b = fm) w w') (hS : ¬ S fm) : RAt (fun b => (S b ∧ b < w.heap.size) ∨ w'.heap.size ≤ b) w' rb mb g f :=
  h.aside hk fun b _ hb e => hS (e ▸ hb)
set_option maxRecDepth 100000 in
set_option maxHeartbeats 8000000 in
theorem roundf_at (h : RAt S w rb mb g f) (hf : FinIs Q w fb rb fm F) (hh : Heads f) (hS : ¬ S fm) :
    Calls Tryz.prog 12 #[.pointer (some ⟨fb, 0, none⟩)] w (AllPost w Q fb rb fm (fixes f F (liveL f))) := by
  have f0 := hf.c0
  have fz := hf.fbz
  have cl := Lib.hid (live_at h)
  have H := Lib.hid h
  have HF := Lib.hid hf
  have HH := Lib.hid hh
  have HS := Lib.hid hS
  have hmem := Lib.hid (fun x (hx : x ∈ liveL f) => (mem_liveL h.dom).1 hx)
  have hll := length_liveL f
  have hF0 : fixes f F ((liveL f).take 0) = F := rfl
  have hFs := Lib.hid fun k (hk : k < (liveL f).length) => (show fixes f F ((liveL f).take (k + 1)) = fix1 f (fixes f F ((liveL f).take k)) (nth (liveL f) k) by
    rw [List.take_succ_eq_append_getElem hk, fixes_snoc, nth_eq hk])
  have hFe : fixes f F (liveL f) = fixes f F ((liveL f).take (liveL f).length) := by rw [List.take_length]
  rw [hFe]
  obtain ⟨G, hG⟩ : ∃ z : Nat → Int → List Int, z = fun k => fixes f F ((liveL f).take k) := ⟨_, rfl⟩
  have hFs2 : Hid (∀ k, k < (liveL f).length → G (k + 1) = fix1 f (G k) (nth (liveL f) k)) := show ∀ k, _ → _ from fun k hk => by rw [hG]; exact hFs.out k hk
  have hG0 : Hid (G 0 = F) := show G 0 = F by rw [hG]; rfl
  rw [show fixes f F ((liveL f).take (liveL f).length) = G (liveL f).length by rw [hG]]
  clear hG hFs hFe hF0 h hf hh hS
  obtain ⟨L, hL⟩ : ∃ L, L = liveL f := ⟨_, rfl⟩
  rw [← hL] at cl hmem hll hFs2 ⊢
  clear hL
  go_enter Tryz.func12, Tryz.ntmps12
  go_wp2_with fail
  refine cl.out.mono ?_
  rintro e w1 ⟨v, rfl, hs, hb⟩
  obtain ⟨a, c, rfl, _⟩ := hs.slice
  have S1 := Lib.hid (hs.base (Nat.zero_le _))
  have B1 := Lib.hid hb
  have f0 := (hb.cell (p := ⟨fb, 0, none⟩) fz).trans f0
  have fz := Nat.lt_of_lt_of_le fz hb.size
  clear hs hb
  have HF1 : Hid (FinIs (fun b => Q b ∨ w.heap.size ≤ b) w1 fb rb fm (G 0)) := show FinIs _ _ _ _ _ _ by
    rw [hG0.out]
    exact HF.out.same B1.out.size (fun b hb _ => B1.out.block b hb) fun b _ hq => Or.inl hq
  have HR1 : Hid (RAt S w1 rb mb g f) := H.out.below B1.out
  have hfm1 : fm < w1.heap.size := HF1.out.fmz
  have hfne : fb ≠ fm := HF1.out.ne
  go_wp2_with fail
  go_loopw [10] (fun i wr => ∃ k : Nat, k ≤ L.length ∧ i = .int .i64 k ∧ Hid (FinIs (fun b => Q b ∨ w.heap.size ≤ b) wr fb rb fm (G k)) ∧ Hid (Kept (fun b => b = fm) w1 wr))
    (fun i _ => L.length - (intOf i).toNat)
  case atStart => exact ⟨0, Nat.zero_le _, rfl, HF1, Kept.refl _ _⟩
  case round =>
    obtain ⟨k, hk, rfl, hFk, hK⟩ := hrel
    have f0 := hFk.out.c0
    have fz := hFk.out.fbz
    by_cases hlt : k < L.length
    · obtain ⟨b, off, rfl, _, hbz, hc0⟩ := S1.out.at k hlt w1 (RowKit.Below.refl _ _)
      have hne : b ≠ fm := fun e => by
        obtain ⟨m, hm, _⟩ := HF1.out.map
        obtain ⟨D, ⟨es, clock, hq, _⟩, _⟩ := hm
        rw [e] at hc0
        unfold World.cell? at hc0
        rw [show (⟨fm, off + k, none⟩ : Addr).block = fm from rfl, hq] at hc0
        simp at hc0
      have hck : wr.cell? ⟨b, off + k, none⟩ = some (.int .i64 (nth L k)) := (World.cell?_of_block (hK.out.block b hbz hne)).trans hc0
      have hbz' : b < wr.heap.size := Nat.lt_of_lt_of_le hbz hK.out.size
      have hlk := hmem.out _ (nth_mem.2 ⟨k, hlt, rfl⟩)
      have hdk := livesR_dom H.out.dom hlk
      have CF := Lib.hid (fix_live (HR1.out.off hK.out HS.out) hFk.out HH.out (nth L k) (okInt_dom (by omega) (by omega)) hlk)
      rw [← hFs2.out k hlt] at CF
      obtain ⟨n, hn⟩ : ∃ n, n = nth L k := ⟨_, rfl⟩
      rw [← hn] at hck CF
      clear hn hlk hdk hc0
      go_wp2_with fail
      refine CF.out.mono ?_
      rintro e w2 ⟨rfl, hf2, hk2⟩
      have F2 : Hid (FinIs (fun b => Q b ∨ w.heap.size ≤ b) w2 fb rb fm (G (k + 1))) := hf2.same (Nat.le_refl _) (fun _ _ _ => rfl) fun b _ hq => by
        rcases hq with hq | hq
        · exact hq
        · have := B1.out.size; have := hK.out.size; exact Or.inr (by omega)
      have K2 : Hid (Kept (fun b => b = fm) w1 w2) := hK.out.trans hk2
      clear hf2 hk2 CF hck hbz'
      go_wp2_with fail
      go_roundw
      case rel => go_light; exact ⟨k + 1, by omega, by go_num, F2, K2⟩
      case measure => go_light; simp [intOf]; omega
    · obtain rfl : k = L.length := by omega
      go_wp2_with fail
      go_end0
      exact ⟨rfl, hFk.out, ((Kept.refl _ w).below B1.out).trans hK.out⟩
end Go.Proofs.YtekinomnjgbgmaaGreat
namespace Go.Proofs.YtekinomnjgbgmaaGreat
open Go.RowKit Go.Maps Go.Sort Go.WideShapes Go.ChangeShapes Go.Deep
set_option linter.unusedVariables false
set_option linter.unusedSimpArgs false
attribute [local go_sem] later_cell later_frozen later_lt cell_set_off cell_set_block

theorem way0 : pathR (fun m => nextR F0 (fun _ => []) m 35) 65 0 = some [0, 2, 3] ∧ pathR (fun m => nextR F0 (fun _ => []) m 15) 65 1 = some [1] ∧ livesR F0 0 = true ∧ livesR F0 1 = true := by decide +kernel
end Go.Proofs.YtekinomnjgbgmaaGreat
namespace Go.Proofs.YtekinomnjgbgmaaGreat
open Go.RowKit Go.Maps Go.Sort Go.WideShapes Go.ChangeShapes Go.Deep
set_option linter.unusedVariables false
set_option linter.unusedSimpArgs false

/-- The ring in blocks of S, the fingers in blocks of Q. -/
structure JointIn (S Q : Nat → Prop) (W w : World) (rb mb fb fm : Nat) (g : Int → Nat) (f : RS) (F : Int → List Int) : Prop where
  ring : RAt S w rb mb g f
  fin : FinIs Q w fb rb fm F
  off : ∀ b, b < w.heap.size → S b → ¬ Q b
  lowS : ∀ b, S b → W.heap.size ≤ b
  lowQ : ∀ b, Q b → W.heap.size ≤ b
  below : RowKit.Below W.heap.size W w
def Joint (W w : World) (rb mb fb fm : Nat) (f : RS) (F : Int → List Int) : Prop := ∃ S Q g, JointIn S Q W w rb mb fb fm g f F
variable {S Q : Nat → Prop} {W w w' : World} {rb mb fb fm : Nat} {g : Int → Nat} {f : RS} {F : Int → List Int}
theorem JointIn.fmS (h : JointIn S Q W w rb mb fb fm g f F) : ¬ S fm := fun hs => h.off _ h.fin.fmz hs h.fin.fmQ
theorem JointIn.below' (h : JointIn S Q W w rb mb fb fm g f F) (hb : RowKit.Below w.heap.size w w') : JointIn S (fun b => Q b ∧ b < w.heap.size) W w' rb mb fb fm g f F where
  ring := h.ring.below hb
  fin := h.fin.same hb.size (fun b hb' _ => hb.block b hb') fun b hb' hq => ⟨hq, hb'⟩
  off := fun b _ hs hq => h.off b hq.2 hs hq.1
  lowS := h.lowS
  lowQ := fun b hq => h.lowQ b hq.1
  below := h.below.trans (hb.mono h.below.size)
theorem JointIn.ringStep (h : JointIn S Q W w rb mb fb fm g f F) {f' : RS} {g' : Int → Nat} (hr : RAt S w' rb mb g' f') (hk : Kept S w w') : JointIn S (fun b => Q b ∧ b < w.heap.size) W w' rb mb fb fm g' f' F where
  ring := hr
  fin := h.fin.same hk.size (fun b hb' hq => hk.block b hb' fun hs => h.off b hb' hs hq) fun b hb' hq => ⟨hq, hb'⟩
  off := fun b _ hs hq => h.off b hq.2 hs hq.1
  lowS := h.lowS
  lowQ := fun b hq => h.lowQ b hq.1
  below := h.below.trans (hk.toBelow h.below.size fun b hb hs => by have := h.lowS b hs; omega)
theorem JointIn.finStep (h : JointIn S Q W w rb mb fb fm g f F) {F' : Int → List Int} (hf : FinIs (fun b => Q b ∨ w.heap.size ≤ b) w' fb rb fm F') (hk : Kept (fun b => b = fm) w w') :
    JointIn (fun b => (S b ∧ b < w.heap.size) ∨ w'.heap.size ≤ b) (fun b => (Q b ∨ w.heap.size ≤ b) ∧ b < w'.heap.size) W w' rb mb fb fm g f F' where
  ring := h.ring.off hk h.fmS
  fin := hf.same (Nat.le_refl _) (fun _ _ _ => rfl) fun b hb hq => ⟨hq, hb⟩
  off := fun b hb hs hq => by
    rcases hs with ⟨hs, hb2⟩ | hs
    · rcases hq.1 with hq | hq
      · exact h.off b hb2 hs hq
      · omega
    · omega
  lowS := fun b hs => by
    rcases hs with ⟨hs, _⟩ | hs
    · exact h.lowS b hs
    · have := h.below.size; have := hk.size; omega
  lowQ := fun b hq => by
    rcases hq.1 with hq | hq
    · exact h.lowQ b hq
    · have := h.below.size; omega
  below := h.below.trans (hk.toBelow h.below.size fun b hb e => by have := h.lowQ _ h.fin.fmQ; omega)
/-- New fingers of a ring. -/
theorem joint_new (hr : RingOk W.heap.size W w rb mb f) (hf : FinIs (fun b => w.heap.size ≤ b) w' fb rb fm F) (hb : RowKit.Below w.heap.size w w') : Joint W w' rb mb fb fm f F := by
  obtain ⟨g, hg⟩ := hr.ring
  refine ⟨_, fun b => w.heap.size ≤ b ∧ b < w'.heap.size, g, hg.now hb, hf.same (Nat.le_refl _) (fun _ _ _ => rfl) fun b hb hq => ⟨hq, hb⟩, fun b hb hs hq => ?_, fun b hs => ?_, fun b hq => ?_, hr.below.trans (hb.mono hr.below.size)⟩
  · rcases hs with ⟨_, h⟩ | h <;> omega
  · rcases hs with ⟨h, _⟩ | h
    · exact h
    · have := hr.below.size; have := hb.size; omega
  · have := hr.below.size; omega
theorem Joint.later (h : Joint W w rb mb fb fm f F) (hb : RowKit.Below w.heap.size w w') : Joint W w' rb mb fb fm f F := by
  obtain ⟨S, Q, g, h⟩ := h
  exact ⟨_, _, _, h.below' hb⟩
theorem Joint.bel (h : Joint W w rb mb fb fm f F) : RowKit.Below W.heap.size W w := by
  obtain ⟨S, Q, g, h⟩ := h
  exact h.below
/-- All ask who their fingers are. -/
theorem joint_round (h : Joint W w rb mb fb fm f F) (hh : Heads f) : Calls Tryz.prog 12 #[.pointer (some ⟨fb, 0, none⟩)] w fun e w' => e = .returned (.tuple #[]) ∧ Joint W w' rb mb fb fm (f) (fixes f F (liveL f)) := by
  obtain ⟨S, Q, g, h⟩ := h
  refine (roundf_at h.ring h.fin hh h.fmS).mono ?_
  rintro e w' ⟨rfl, hf, hk⟩
  exact ⟨rfl, _, _, _, h.finStep hf hk⟩
end Go.Proofs.YtekinomnjgbgmaaGreat
