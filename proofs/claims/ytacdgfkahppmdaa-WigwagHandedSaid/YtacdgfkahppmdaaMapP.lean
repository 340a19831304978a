/-
  A map from whole numbers to pointers, in memory: what a look-up gives, what a store leaves, how a range goes over it. No program is named here.
-/
import Derived.Test.YtacdgfkahppmdaaBase
import Derived.Maps.RangeWalk
import Derived.Maps.OwnSet
namespace Go.Proofs.Ytacdgfkahppmdaa
open Go.RowKit Go.Maps
set_option linter.unusedVariables false
set_option linter.unusedSimpArgs false

/-- A pointer to a block's head, or none. -/
def ptrV : Option Nat → Value
  | none => .pointer none
  | some b => .pointer (some ⟨b, 0, none⟩)
def ptrD : Option Nat → DataW Unit
  | none => .lit (.int .i64 (-1))
  | some b => .lit (.int .i64 b)
/-- How a pointer reads here: as its block's number. -/
def ptrR (v : Value) : Option (DataW Unit × List MemPlace) :=
  match v with
  | .pointer none => some (ptrD none, [])
  | .pointer (some ⟨b, 0, none⟩) => some (ptrD (some b), [])
  | _ => none
theorem ptrR_mk (o : Option Nat) : ptrR (ptrV o) = some (ptrD o, []) := by cases o <;> rfl
theorem ptrR_inv {v : Value} {y : DataW Unit × List MemPlace} (h : ptrR v = some y) : ∃ o, v = ptrV o ∧ y = (ptrD o, []) := by
  unfold ptrR at h
  split at h
  · exact ⟨none, rfl, by simpa using h.symm⟩
  · rename_i b; exact ⟨some b, rfl, by simpa using h.symm⟩
  · cases h
theorem ptrD_inj {o o' : Option Nat} (h : ptrD o = ptrD o') : o = o' := by
  have e : ∀ o, ∃ z : Int, ptrD o = .lit (.int .i64 z) ∧ (o = none ∧ z = -1 ∨ ∃ b : Nat, o = some b ∧ z = b) := by
    intro o
    cases o with
    | none => exact ⟨-1, rfl, Or.inl ⟨rfl, rfl⟩⟩
    | some b => exact ⟨b, rfl, Or.inr ⟨b, rfl, rfl⟩⟩
  obtain ⟨z, e1, e2⟩ := e o
  obtain ⟨z', e1', e2'⟩ := e o'
  rw [e1, e1'] at h
  injection h with h
  injection h with _ h
  subst h
  rcases e2 with ⟨rfl, e2⟩ | ⟨b, rfl, e2⟩ <;> rcases e2' with ⟨rfl, e2'⟩ | ⟨b', rfl, e2'⟩
  · rfl
  · omega
  · omega
  · rw [show b = b' by omega]

section
variable {P : Program} {k : TypeId}

def okInt (i : Int) : Prop := (Lit.int .i64 i).wf = true
/-- Block mb holds a map of at most N entries, from numbers to pointers. -/
def MapAt (P : Program) (k : TypeId) (w : World) (mb N : Nat) (f : Int → Option Nat) : Prop :=
  ∃ D, w.ownsMap P k ptrR mb N D ∧ (∀ i, okInt i → D.atKey (.int .i64 i) (ptrD none) = ptrD (f i)) ∧ (∀ i, okInt i → has D (.int .i64 i) = (f i).isSome) ∧ ∀ i, ¬ okInt i → f i = none

theorem MapAt.kept {w w' : World} {mb N : Nat} {f : Int → Option Nat} {row : Option Nat} (h : MapAt P k w mb N f) (hg : w.grownBy w' row) (hne : some mb ≠ row) : MapAt P k w' mb N f := by
  obtain ⟨D, h1, h2⟩ := h
  exact ⟨D, h1.kept hg hne, h2⟩
theorem MapAt.lt {w : World} {mb N : Nat} {f : Int → Option Nat} (h : MapAt P k w mb N f) : mb < w.heap.size := by
  obtain ⟨D, h1, _⟩ := h
  exact h1.lt
theorem MapAt.block {w w' : World} {mb N : Nat} {f : Int → Option Nat} (h : MapAt P k w mb N f) (hb : w'.heap[mb]? = w.heap[mb]?) : MapAt P k w' mb N f := by
  obtain ⟨D, ⟨es, clock, h1, h2⟩, h3⟩ := h
  exact ⟨D, ⟨es, clock, hb.trans h1, h2⟩, h3⟩
theorem mapAt_new (w : World) : MapAt P k (w.alloc (.map #[] 0)) w.heap.size 0 (fun _ => none) :=
  ⟨.map [], World.ownsMap_made w P k ptrR, fun _ _ => rfl, fun _ _ => rfl, fun _ _ => rfl⟩

/-- 'm[i]'. -/
theorem MapAt.look {w : World} {mb N : Nat} {f : Int → Option Nat} {t e : TypeId} (h : MapAt P k w mb N f) (K : Keyed P k) (hk : P.underlying k = some (.int .i64)) (ht : P.underlying t = some (.map k e))
    (hz : (zeroValue e).run P w = .ok (.pointer none) w) (i : Int) (hi : okInt i) : (Instr.lookup t (.map (some mb)) (.int .i64 i) false).run P w = .ok (ptrV (f i)) w := by
  obtain ⟨D, h1, h2, _⟩ := h
  obtain ⟨v, ps, hrun, hv⟩ := h1.lookup K ht hz (zd := ptrD none) (zp := []) rfl (keyOf_int_mk hk hi)
  obtain ⟨o, rfl, e1⟩ := ptrR_inv hv
  rw [h2 i hi] at e1
  simp only [Prod.mk.injEq] at e1
  rw [hrun, ptrD_inj e1.1]

def setF (f : Int → Option Nat) (i : Int) (b : Nat) : Int → Option Nat := fun j => if j = i then some b else f j
theorem isKey_int (i : Int) (hi : okInt i) (K : Keyed P k) (hk : P.underlying k = some (.int .i64)) : WideAt.IsKeyLit (.int .i64 i) := K.key (keyOf_int_mk hk hi)
/-- 'm[i] = p'. -/
theorem MapAt.store {w : World} {mb N : Nat} {f : Int → Option Nat} {t e : TypeId} (h : MapAt P k w mb N f) (K : Keyed P k) (hk : P.underlying k = some (.int .i64)) (ht : P.underlying t = some (.map k e))
    (hN : N < maxLen) (i : Int) (hi : okInt i) (b : Nat) : ∃ w', (Instr.mapUpdate t (.map (some mb)) (.int .i64 i) (ptrV (some b))).run P w = .ok () w' ∧ MapAt P k w' mb (N + 1) (setF f i b) ∧ w.grownBy w' (some mb) := by
  obtain ⟨D, h1, h2, h3, h4⟩ := h
  obtain ⟨w', hrun, h5, h6⟩ := h1.update K ht hN (keyOf_int_mk hk hi) (ptrR_mk (some b))
  have hkey := isKey_int i hi K hk
  have hM := h1.isMap
  refine ⟨w', hrun, ⟨_, h5, fun j hj => ?_, fun j hj => ?_, fun j hj => ?_⟩, h6⟩
  · unfold setF
    by_cases e : j = i
    · subst e; rw [if_pos rfl, atKey_put_same hM hkey]
    · rw [if_neg e, atKey_put_other (by simpa using e), h2 j hj]
  · unfold setF
    by_cases e : j = i
    · subst e; rw [if_pos rfl, has_put_same hM hkey]; rfl
    · rw [if_neg e, has_put_other (by simpa using e), h3 j hj]
  · unfold setF
    rw [if_neg (fun e : j = i => hj (by rw [e]; exact hi)), h4 j hj]

/-- 'for i, p := range m' under way: 'left i': is i still to come? -/
def Ranging (P : Program) (k : TypeId) (w : World) (mb r N : Nat) (f : Int → Option Nat) (left : Int → Bool) (cnt : Nat) : Prop :=
  ∃ D lf, w.ranges P k ptrR mb r N D lf cnt ∧ (∀ i, okInt i → D.atKey (.int .i64 i) (ptrD none) = ptrD (f i)) ∧ (∀ i, okInt i → has D (.int .i64 i) = (f i).isSome) ∧ (∀ i, ¬ okInt i → f i = none) ∧
    (∀ i, okInt i → lf (.int .i64 i) = left i) ∧ (∀ i, left i = true → okInt i ∧ (f i).isSome = true)
theorem Ranging.map {w : World} {mb r N : Nat} {f : Int → Option Nat} {left : Int → Bool} {cnt : Nat} (h : Ranging P k w mb r N f left cnt) : MapAt P k w mb N f := by
  obtain ⟨D, lf, h1, h2, h3, h4, _⟩ := h
  exact ⟨D, h1.owns, h2, h3, h4⟩
theorem Ranging.kept {w w' : World} {mb r N : Nat} {f : Int → Option Nat} {left : Int → Bool} {cnt : Nat} {row : Option Nat} (h : Ranging P k w mb r N f left cnt) (hg : w.grownBy w' row) (h1 : some mb ≠ row) (h2 : some r ≠ row) : Ranging P k w' mb r N f left cnt := by
  obtain ⟨D, lf, h3, h4⟩ := h
  exact ⟨D, lf, h3.kept hg h1 h2, h4⟩
theorem Ranging.left_eq {w : World} {mb r N : Nat} {f : Int → Option Nat} {left : Int → Bool} {cnt : Nat} (h : Ranging P k w mb r N f left cnt) : w.rangeLeft mb r = cnt := by
  obtain ⟨D, lf, h1, _⟩ := h
  exact h1.left_eq
theorem Ranging.lt {w : World} {mb r N : Nat} {f : Int → Option Nat} {left : Int → Bool} {cnt : Nat} (h : Ranging P k w mb r N f left cnt) : r < w.heap.size := by
  obtain ⟨D, lf, h1, _⟩ := h
  exact h1.lt
end

section
variable {P : Program} (w : World) {ops : Array Oper} {rest : List Oper} {o : Oper} {a : Act} {Q : Exit → Act → World → Prop}
theorem wpList_range_ptr (hg : o.guard = none) (m : Operand) (t : TypeId) (hop : o.op = Op.range t m) (k e : TypeId) (K : Keyed P k) (ht : P.underlying t = some (.map k e)) (mb N : Nat) (f : Int → Option Nat)
    (hm : a.eval m = .map (some mb)) (h : MapAt P k w mb N f) (hk : P.underlying k = some (.int .i64))
    (hK : ∀ w' cnt, Ranging P k w' mb w.heap.size N f (fun i => (f i).isSome) cnt → w.grownBy w' none → w'.heap.size = w.heap.size + 1 → wpList P ops Q rest (a.put o.dst (.pointer (some ⟨w.heap.size, 0, none⟩))) w') :
    wpList P ops Q (o :: rest) a w := by
  obtain ⟨D, h1, h2, h3, h4⟩ := h
  refine wpList_range_own w hg m t hop k e K ht ptrR mb N D hm h1 (fun w' hr hg hs => hK w' _ ⟨D, _, hr, h2, h3, h4, h3, fun i hi => ?_⟩ hg hs)
  refine ⟨Classical.byContradiction fun hn => ?_, hi⟩
  have hi' : (f i).isSome = true := hi
  rw [h4 i hn] at hi'
  cases hi'
theorem wpList_next_ptr (hg : o.guard = none) (it : Operand) (hop : o.op = Op.next it false) (k : TypeId) (K : Keyed P k) (hk : P.underlying k = some (.int .i64)) (mb r N : Nat) (f : Int → Option Nat) (left : Int → Bool) (cnt : Nat)
    (hit : a.eval it = .pointer (some ⟨r, 0, none⟩)) (h : Ranging P k w mb r N f left cnt)
    (hDone : cnt = 0 → (∀ i, left i = false) → wpList P ops Q rest (a.put o.dst (.tuple #[.bool false])) w)
    (hMore : ∀ (i : Int) (b : Nat) (w' : World) (cnt' : Nat), okInt i → left i = true → f i = some b → Ranging P k w' mb r N f (fun j => left j && !(j == i)) cnt' → cnt' < cnt → w.grownBy w' (some r) → w'.heap.size = w.heap.size →
      (Instr.entry (.pointer (some ⟨r, 0, none⟩))).run P w' = .ok (.tuple #[.int .i64 i, .pointer (some ⟨b, 0, none⟩)]) w' → wpList P ops Q rest (a.put o.dst (.tuple #[.bool true, .int .i64 i, .pointer (some ⟨b, 0, none⟩)])) w') :
    wpList P ops Q (o :: rest) a w := by
  obtain ⟨D, lf, h1, h2, h3, h4, h5, h6⟩ := h
  refine wpList_next_ranges w hg it hop k K ptrR (Value.int .i64) ptrV (fun key kl hkl => ?_) (fun v y hv => ?_) mb r N D lf cnt hit h1 (fun h0 hall => ?_) ?_
  · obtain ⟨x, e, _⟩ := Maps.keyOf_int_inv hk hkl
    exact ⟨x, e⟩
  · obtain ⟨o, e, _⟩ := ptrR_inv hv
    exact ⟨o, e⟩
  · refine hDone h0 fun i => ?_
    by_cases hi : okInt i
    · rw [← h5 i hi]; exact hall _
    · cases hl : left i
      · rfl
      · exact absurd (h6 i hl).1 hi
  · intro x c kl y w' cnt' hkey hlk hR hat hr hlt hgr hsz hen
    obtain ⟨x', e1, e2, e3⟩ := Maps.keyOf_int_inv hk hkey
    injection e1 with _ e1
    subst e1 e2
    have hleft : left x = true := by rw [← h5 x e3]; exact hlk
    have hsome := (h6 x hleft).2
    rw [ptrR_mk] at hR
    have hc : ptrD c = ptrD (f x) := by rw [← h2 x e3, hat (ptrD none)]; injection hR with hR; rw [← hR]
    have hcf := ptrD_inj hc
    obtain ⟨b, hb⟩ := Option.isSome_iff_exists.1 hsome
    rw [hcf, hb] at hen ⊢
    refine hMore x b w' cnt' e3 hleft hb ⟨D, _, hr, h2, h3, h4, fun j hj => ?_, fun j hj => ?_⟩ hlt hgr hsz hen
    · rw [h5 j hj]
      congr 1
      by_cases e : j = x
      · subst e; rw [WideAt.sameKey_self (isKey_int j hj K hk)]; simp
      · have : (Lit.int .i64 j).sameKey (Lit.int .i64 x) = false := by
          cases hs : (Lit.int .i64 j).sameKey (Lit.int .i64 x)
          · rfl
          · have := WideAt.sameKey_eq hs
            injection this with _ this
            exact absurd this e
        rw [this]; simp [e]
    · simp at hj
      exact h6 j hj.1
end
end Go.Proofs.Ytacdgfkahppmdaa
