/-
  What a slice of numbers, bools or texts reads as, in whatever memory; how an argument's reading gives it; small facts on worlds. No program is named here.
-/
import Derived.WalkKit
import Derived.WalkLawsBesides
import Derived.Below
import Derived.Carry
import Derived.Deep.Slices
import Derived.Deep.Strs
import Derived.Lib.SmallJoins
import Derived.Lib.Hide
import Derived.SizedLaws
import Derived.Laws.AppendOwnNone
namespace Go.Proofs.Ytacdgfkahppmdaa
open Go.RowKit Go.ChangeShapes Go.WideShapes Go.Deep
set_option linter.unusedVariables false
set_option linter.unusedSimpArgs false

/-- A slice of n elements of one cell each, element i being g i, in a block from B on. -/
def SlAt (B : Nat) (g : Nat → Value) (n : Nat) (w : World) (v : Value) : Prop :=
  ∃ (a : Option Addr) (cap : Nat), v = .slice a n cap ∧ n ≤ cap ∧ cap ≤ maxLen ∧ (a = none → cap = 0) ∧
    (n = 0 ∨ ∃ b off : Nat, a = some ⟨b, off, none⟩ ∧ B ≤ b ∧ b < w.heap.size ∧ ∀ i, i < n → w.cell? ⟨b, off + i, none⟩ = some (g i))

theorem SlAt.parts {B : Nat} {g : Nat → Value} {n : Nat} {w : World} {v : Value} (h : SlAt B g n w v) :
    (n = 0 ∧ ∃ a cap, v = .slice a 0 cap ∧ cap ≤ maxLen) ∨
    (0 < n ∧ ∃ b off cap, v = .slice (some ⟨b, off, none⟩) n cap ∧ n ≤ cap ∧ cap ≤ maxLen ∧ B ≤ b ∧ b < w.heap.size ∧ ∀ i, i < n → w.cell? ⟨b, off + i, none⟩ = some (g i)) := by
  obtain ⟨a, cap, rfl, h1, h2, _, h3⟩ := h
  by_cases h0 : n = 0
  · subst h0; exact Or.inl ⟨rfl, a, cap, rfl, h2⟩
  · obtain ⟨b, off, rfl, h7, h4, h5⟩ := h3.resolve_left h0
    exact Or.inr ⟨by omega, b, off, cap, rfl, h1, h2, h7, h4, h5⟩
theorem SlAt.below {B : Nat} {g : Nat → Value} {n : Nat} {w w' : World} {v : Value} (h : SlAt B g n w v) (hb : Below w.heap.size w w') : SlAt B g n w' v := by
  obtain ⟨a, cap, rfl, h1, h2, h6, h3⟩ := h
  refine ⟨a, cap, rfl, h1, h2, h6, h3.imp id ?_⟩
  rintro ⟨b, off, rfl, h7, h4, h5⟩
  exact ⟨b, off, rfl, h7, Nat.lt_of_lt_of_le h4 hb.size, fun i hi => (hb.cell (p := ⟨b, off + i, none⟩) h4).trans (h5 i hi)⟩
theorem SlAt.base {B B' : Nat} {g : Nat → Value} {n : Nat} {w : World} {v : Value} (h : SlAt B g n w v) (hb : B' ≤ B) : SlAt B' g n w v := by
  obtain ⟨a, cap, rfl, h1, h2, h6, h3⟩ := h
  refine ⟨a, cap, rfl, h1, h2, h6, h3.imp id ?_⟩
  rintro ⟨b, off, rfl, h7, h4, h5⟩
  exact ⟨b, off, rfl, Nat.le_trans hb h7, h4, h5⟩

theorem SlAt.set {B : Nat} {g : Nat → Value} {n : Nat} {w : World} {v : Value} (h : SlAt B g n w v) {p : Addr} (hp : p.block < B) (u : Value) : SlAt B g n (w.setCell p u) v := by
  obtain ⟨a, cap, rfl, h1, h2, h6, h3⟩ := h
  refine ⟨a, cap, rfl, h1, h2, h6, h3.imp id ?_⟩
  rintro ⟨b, off, rfl, h7, h4, h5⟩
  refine ⟨b, off, rfl, h7, by simpa [World.setCell] using h4, fun i hi => ?_⟩
  rw [← h5 i hi]
  exact World.cell?_of_block (Below.heap_setCell _ _ _ _ (by dsimp only; omega))
theorem SlAt.take {B : Nat} {g : Nat → Value} {n m : Nat} {w : World} {a : Option Addr} {cap : Nat} (h : SlAt B g n w (.slice a n cap)) (hm : m ≤ n) : SlAt B g m w (.slice a m cap) := by
  obtain ⟨a, cap, e, h1, h2, h6, h3⟩ := h
  injection e with e1 e2 e3
  subst e1 e3
  refine ⟨_, _, rfl, Nat.le_trans hm h1, h2, h6, ?_⟩
  by_cases h0 : m = 0
  · exact Or.inl h0
  · obtain ⟨b, off, rfl, h7, h4, h5⟩ := h3.resolve_left (by omega)
    exact Or.inr ⟨b, off, rfl, h7, h4, fun i hi => h5 i (by omega)⟩
/-- Element k of a list of numbers. -/
def nth (l : List Int) (k : Nat) : Int := l.getD k 0
theorem nth_eq {l : List Int} {k : Nat} (h : k < l.length) : nth l k = l[k] := by unfold nth; simp [h]
theorem nth_zero (y : Int) (l : List Int) : nth (y :: l) 0 = y := rfl
theorem nth_succ (y : Int) (l : List Int) (k : Nat) : nth (y :: l) (k + 1) = nth l k := rfl
/-- Element k of a list of bools. -/
def nthB (l : List Bool) (k : Nat) : Bool := l.getD k false
/-- Element k of a list of texts. -/
def nthS (l : List ByteArray) (k : Nat) : ByteArray := l.getD k ByteArray.empty

section
variable {H : Type} {enc : TypeId × Value → H} {P : Program} {w : World} {held : Bool}

theorem add_spot (a : Addr) (i : Nat) (h : a.spot = none) : a.add i = ⟨a.block, a.off + i, none⟩ := by
  unfold Addr.add
  by_cases hi : i = 0
  · subst hi; cases a; simp at h; subst h; rfl
  · rw [if_neg hi]

/-- A slice whose elements are one cell each, opened: its elements' values and readings. -/
theorem slAt_of_trod {t e : TypeId} {fuel : Nat} {c : Value} {x : DataW H × List MemPlace} (ht : P.underlying t = some (.slice e)) (hc : P.cellsOf e = 1)
    (h : DataW.trod enc P w 0 (fun _ => true) held fuel t [c] = some x) :
    ∃ (n m : Nat) (V : Nat → Value), SlAt 0 V n w c ∧ ∀ i, i < n → ∃ y, DataW.trod enc P w 0 (fun _ => true) held m e [V i] = some y := by
  rcases open_slice1 ht hc h with ⟨hcs, _⟩ | ⟨a, len, cap, m, n, V, D, Pl, hcs, hb, hl, hm, hmm, hx, hV⟩
  · refine ⟨0, 0, fun _ => undef, ?_, fun i hi => absurd hi (by omega)⟩
    simp at hcs; subst hcs
    exact ⟨none, 0, rfl, Nat.le_refl _, Nat.zero_le _, fun _ => rfl, Or.inl rfl⟩
  · simp at hcs; subst hcs
    simp only [if_true] at hmm; subst hmm
    refine ⟨len, n, V, ⟨some a, m, rfl, hl, hm, fun h => by simp at h, ?_⟩, fun i hi => ⟨_, (hV i (by omega)).2⟩⟩
    by_cases h0 : len = 0
    · exact Or.inl h0
    · right
      have h1 := (hV 0 (by omega)).1
      have hs : a.spot = none := by
        have : a.add 0 = a := by simp [Addr.add]
        rw [this] at h1
        unfold World.cell? at h1
        cases hsp : a.spot with
        | none => rfl
        | some s => rw [hsp] at h1; simp at h1; split at h1 <;> simp_all
      refine ⟨a.block, a.off, by cases a; simp at hs; subst hs; rfl, Nat.zero_le _, ?_, fun i hi => ?_⟩
      · rw [show a.add 0 = a from by simp [Addr.add]] at h1
        unfold World.cell? at h1
        rcases Nat.lt_or_ge a.block w.heap.size with h' | h'
        · exact h'
        · rw [Array.getElem?_eq_none h'] at h1; simp at h1
      · rw [← add_spot a i hs]; exact (hV i (by omega)).1
theorem SlAt.congr {B : Nat} {g g' : Nat → Value} {n : Nat} {v : Value} (h : SlAt B g n w v) (e : ∀ i, i < n → g i = g' i) : SlAt B g' n w v := by
  obtain ⟨a, cap, rfl, h1, h2, h6, h3⟩ := h
  refine ⟨a, cap, rfl, h1, h2, h6, h3.imp id ?_⟩
  rintro ⟨b, off, rfl, h7, h4, h5⟩
  exact ⟨b, off, rfl, h7, h4, fun i hi => by rw [h5 i hi, e i hi]⟩
theorem getD_map_range {α : Type} (f : Nat → α) (n i : Nat) (d : α) (h : i < n) : ((List.range n).map f).getD i d = f i := by simp [h]
theorem ints_of_trod {t e : TypeId} {k : IntKind} {fuel : Nat} {c : Value} {x : DataW H × List MemPlace} (ht : P.underlying t = some (.slice e)) (hc : P.cellsOf e = 1) (he : P.underlying e = some (.int k))
    (h : DataW.trod enc P w 0 (fun _ => true) held fuel t [c] = some x) : ∃ l : List Int, SlAt 0 (fun i => .int k (nth l i)) l.length w c ∧ ∀ z ∈ l, (Lit.int k z).wf = true := by
  obtain ⟨n, m, V, hs, hV⟩ := slAt_of_trod ht hc h
  have hV' : ∀ i, i < n → ∃ z : Int, V i = .int k z ∧ (Lit.int k z).wf = true := by
    intro i hi
    obtain ⟨y, hy⟩ := hV i hi
    obtain ⟨z, hz, _, hw⟩ := DataW.trod_int he hy
    simp at hz; exact ⟨z, hz, hw⟩
  obtain ⟨f, hf⟩ := choose_lt hV'
  refine ⟨(List.range n).map f, ?_, ?_⟩
  · rw [List.length_map, List.length_range]
    exact hs.congr fun i hi => by rw [(hf i hi).1]; unfold nth; rw [getD_map_range f n i 0 hi]
  · intro z hz
    obtain ⟨i, hi, rfl⟩ := List.mem_map.1 hz
    exact (hf i (List.mem_range.1 hi)).2
theorem bools_of_trod {t e : TypeId} {fuel : Nat} {c : Value} {x : DataW H × List MemPlace} (ht : P.underlying t = some (.slice e)) (hc : P.cellsOf e = 1) (he : P.underlying e = some .bool)
    (h : DataW.trod enc P w 0 (fun _ => true) held fuel t [c] = some x) : ∃ l : List Bool, SlAt 0 (fun i => .bool (nthB l i)) l.length w c := by
  obtain ⟨n, m, V, hs, hV⟩ := slAt_of_trod ht hc h
  have hV' : ∀ i, i < n → ∃ z : Bool, V i = .bool z := by
    intro i hi
    obtain ⟨y, hy⟩ := hV i hi
    obtain ⟨z, hz, _⟩ := DataW.trod_bool he hy
    simp at hz; exact ⟨z, hz⟩
  obtain ⟨f, hf⟩ := choose_lt hV'
  refine ⟨(List.range n).map f, ?_⟩
  rw [List.length_map, List.length_range]
  exact hs.congr fun i hi => by rw [hf i hi]; unfold nthB; rw [getD_map_range f n i false hi]
end

/-! ### Slices that the call owns -/
theorem map_range_nth (k : IntKind) (l : List Int) : (List.range l.length).map (fun i => Value.int k (nth l i)) = l.map (Value.int k) := by
  apply List.ext_getElem (by simp)
  intro i h1 h2
  simp at h1
  simp [nth_eq h1]
theorem own_slAt {w : World} {B e : Nat} {v : Value} {n : Nat} {xs : List Value} (h : w.ownsRow B e 1 v n xs) : SlAt B (fun i => xs.getD i undef) n w v := by
  have hl := h.1
  rw [Nat.mul_one] at hl
  have hc := fun g hg => h.cells (g := g) hg
  rcases h.2 with ⟨rfl, h0⟩ | ⟨g, cap, cur, rfl, hB, hg, hn, hm, hs, ht⟩
  · subst h0; exact ⟨none, 0, rfl, Nat.le_refl _, Nat.zero_le _, fun _ => rfl, Or.inl rfl⟩
  · refine ⟨_, cap, rfl, hn, hm, fun h => (by cases h), ?_⟩
    by_cases h0 : n = 0
    · exact Or.inl h0
    · refine Or.inr ⟨g, 0, rfl, hB, ?_, fun i hi => ?_⟩
      · exact (Array.getElem?_eq_some_iff.1 hg).1
      · have hi' : i < xs.length := by omega
        have := hc g rfl i (xs.getD i undef) (by simp [hi'])
        rw [show ((⟨g, 0, none⟩ : Addr).add i) = ⟨g, 0 + i, none⟩ from by unfold Addr.add; by_cases e : i = 0 <;> simp [e]] at this
        exact this
theorem own_ints {w : World} {B e : Nat} {v : Value} {k : IntKind} {l : List Int} {n : Nat} (h : w.ownsRow B e 1 v n (l.map (Value.int k))) : SlAt B (fun i => .int k (nth l i)) l.length w v := by
  have hl := h.1
  simp at hl
  subst hl
  refine (own_slAt h).congr fun i hi => ?_
  simp [hi, nth_eq hi]

theorem nth_take {l : List Int} {m i : Nat} (h : i < m) : nth (l.take m) i = nth l i := by
  unfold nth; simp [h]
theorem getD_nth (k : IntKind) (l : List Int) (i : Nat) (h : i < l.length) : (l.map (Value.int k)).getD i undef = .int k (nth l i) := by
  simp [h, nth_eq h]
/-- A slice that was just written out. -/
theorem own_lit (w : World) (cur : List Value) (e B g n : Nat) (hg : g = w.heap.size) (hn : n = cur.length) (hB : B ≤ w.heap.size) (hm : n ≤ maxLen) :
    (w.alloc (.cells cur.toArray e)).ownsRow B e 1 (.slice (some ⟨g, 0, none⟩) n n) n cur := by
  subst hg hn
  exact ⟨by simp, Or.inr ⟨w.heap.size, cur.length, cur.toArray, rfl, hB, (MapKept.heap_alloc w _).1, Nat.le_refl _, hm, by simp, by rw [Nat.mul_one]; exact List.take_of_length_le (by simp)⟩⟩
theorem sl_new (w : World) (k : IntKind) (l : List Int) (e g n : Nat) (hg : g = w.heap.size) (hn : n = l.length) (hm : n ≤ maxLen) :
    SlAt 0 (fun i => .int k (nth l i)) n (w.alloc (.cells (l.map (Value.int k)).toArray e)) (.slice (some ⟨g, 0, none⟩) n n) := by
  subst hn
  exact own_ints (own_lit w (l.map (Value.int k)) e 0 g l.length hg (by simp) (Nat.zero_le _) hm)
theorem slB_new (w : World) (l : List Bool) (e g n : Nat) (hg : g = w.heap.size) (hn : n = l.length) (hm : n ≤ maxLen) :
    SlAt 0 (fun i => .bool (nthB l i)) n (w.alloc (.cells (l.map Value.bool).toArray e)) (.slice (some ⟨g, 0, none⟩) n n) := by
  subst hn
  refine (own_slAt (own_lit w (l.map Value.bool) e 0 g l.length hg (by simp) (Nat.zero_le _) hm)).congr fun i hi => ?_
  simp [hi, nthB]
/-- 'append(s, x...)', s of the call's own, x any slice of elements of one cell. -/
theorem wpList_app {P : Program} {w : World} {ops : Array Oper} {rest : List Oper} {o : Oper} {a : Act} {Q : Exit → Act → World → Prop} (hgd : o.guard = none) (s x : Operand) (t : TypeId)
    (ho : o.op = .call { callee := .builtin .append, args := #[s, x], argTypes := #[t, t] })
    (base : Nat) (e : TypeId) (i : TypeInfo) (z : Value) (bytes : Nat) (ht : P.underlying t = some (.slice e)) (hi : P.info? e = some i) (hz : i.zero = some z)
    (hsize : i.size = 1) (hby : i.bytes = bytes) (hzs : z.cells.size = 1)
    (v : Value) (n : Nat) (xs : List Value) (hs : a.eval s = v) (hown : w.ownsRow base e 1 v n xs)
    (B : Nat) (g : Nat → Value) (m : Nat) (sv : Value) (hx : a.eval x = sv) (hsl : SlAt B g m w sv) (h1 : ∀ i, (g i).oneCell' = true)
    (h63 : n + m ≤ maxLen) (hbytes : (n + m) * bytes ≤ 140737488355328) (hbase : base ≤ w.heap.size)
    (h : ∀ v' w', w'.ownsRow base e 1 v' (n + m) (xs ++ (List.range m).map g) → w.grownBy w' v.ownBlock → wpList P ops Q rest (a.put o.dst v') w') : wpList P ops Q (o :: rest) a w := by
  obtain ⟨ad, cap, rfl, hn, hm, hnil, hcs⟩ := hsl
  cases ad with
  | none =>
    have hc0 := hnil rfl
    subst hc0
    obtain rfl : m = 0 := by omega
    refine wpList_append_own_none hgd s x t ho base e i 1 ht hi v n xs hs hown hx (h v w ?_ ⟨rfl, rfl, rfl, Nat.le_refl _, fun _ _ _ => rfl⟩)
    simpa using hown
  | some ad =>
    refine wpList_append_own w hgd s x t ho base e i z 1 bytes ht hi hz hsize hby hzs (by decide) v n xs hs hown ad m cap ((List.range m).map g) hx (by simp) ?_ ?_ h63 hbytes hbase (fun v' w' h1 h2 _ => h v' w' h1 h2)
    · intro j u hu
      have hj : j < m := by
        rcases Nat.lt_or_ge j m with h' | h'
        · exact h'
        · simp [h'] at hu
      obtain ⟨b, off, e1, _, h4, h5⟩ := hcs.resolve_left (by omega)
      injection e1 with e1
      subst e1
      rw [show ((⟨b, off, none⟩ : Addr).add j) = ⟨b, off + j, none⟩ from by unfold Addr.add; by_cases e : j = 0 <;> simp [e], h5 j hj]
      simp [hj] at hu
      rw [hu]
    · intro u hu
      obtain ⟨j, _, rfl⟩ := List.mem_map.1 hu
      exact h1 j
end Go.Proofs.Ytacdgfkahppmdaa
