/-
  What a slice of numbers, bools or texts reads as, in whatever memory; how an argument's reading gives it; small facts on worlds. No program is named here. A world in which nothing that was there has turned; a region that draws its order, whose operations read and whose callees leave what was there alone, walked once in the order of the text. No program is named here. A map from whole numbers to pointers, in memory: what a look-up gives, what a store leaves, how a range goes over it. No program is named here. The ring and its members as plain data: what each call does. No program is named here. The ring in memory: its root, its map, its members' blocks, the lists of who comes behind; what a later world, a write into one member, a new member leave of it. No program is named here. A region that draws its order, all of whose operations but the last few (in one forced order) leave what was there alone: walked once in the order of the text; the last few behind it. No program is named here. TURNED out of the kit's own proof for a region whose first operations leave the very world (Derived/StillTail), a class of worlds in the place of the one world (as Derived/Deep/Quiet does for whole regions). Places that are sorted, each once: what sorting and compacting answers, in plain words. No program is named here. A region that draws its order: operations that leave the very world, and yield one value in every world of a class, may be taken first, whatever the others do, as long as these keep the class. No program is named here. append onto a slice of the call's own, of elements of any width: where the new row lies. No program is named here.
-/
import Derived.WalkKit
import Derived.WalkLawsBesides
import Derived.Below
import Derived.Carry
import Derived.Deep.Slices
import Derived.Deep.Strs
import Derived.Lib.SmallJoins
import Derived.Lib.Hide
import Derived.SizedLaws
import Derived.Laws.AppendOwnNone
import Derived.Deep.Quiet
import Derived.Deep.QuietTactic
import Derived.BigQuiet
import Derived.KernelRfl
import Derived.Deep.Light
import Derived.Maps.RangeWalk
import Derived.Maps.OwnSet
import Derived.StillTail
import Derived.Lib.SlicesCompact
import Derived.Sort.Grow
import Derived.Laws.AppendOwn
import Derived.Laws.Append
section
namespace Go.Proofs.YtahiahjhpakeiaaGreatDoor
open Go.RowKit Go.ChangeShapes Go.WideShapes Go.Deep
set_option linter.unusedVariables false
set_option linter.unusedSimpArgs false

/-- A slice of n elements of one cell each, element i being g i, in a block from B on. -/
def SlAt (B : Nat) (g : Nat → Value) (n : Nat) (w : World) (v : Value) : Prop :=
  ∃ (a : Option Addr) (cap : Nat), v = .slice a n cap ∧ n ≤ cap ∧ cap ≤ maxLen ∧ (a = none → cap = 0) ∧
    (n = 0 ∨ ∃ b off : Nat, a = some ⟨b, off, none⟩ ∧ B ≤ b ∧ b < w.heap.size ∧ ∀ i, i < n → w.cell? ⟨b, off + i, none⟩ = some (g i))

theorem SlAt.parts {B : Nat} {g : Nat → Value} {n : Nat} {w : World} {v : Value} (h : SlAt B g n w v) :
    (n = 0 ∧ ∃ a cap, v = .slice a 0 cap ∧ cap ≤ maxLen) ∨
    (0 < n ∧ ∃ b off cap, v = .slice (some ⟨b, off, none⟩) n cap ∧ n ≤ cap ∧ cap ≤ maxLen ∧ B ≤ b ∧ b < w.heap.size ∧ ∀ i, i < n → w.cell? ⟨b, off + i, none⟩ = some (g i)) := by
  obtain ⟨a, cap, rfl, h1, h2, _, h3⟩ := h
  by_cases h0 : n = 0
  · subst h0; exact Or.inl ⟨rfl, a, cap, rfl, h2⟩
  · obtain ⟨b, off, rfl, h7, h4, h5⟩ := h3.resolve_left h0
    exact Or.inr ⟨by omega, b, off, cap, rfl, h1, h2, h7, h4, h5⟩
theorem SlAt.below {B : Nat} {g : Nat → Value} {n : Nat} {w w' : World} {v : Value} (h : SlAt B g n w v) (hb : Below w.heap.size w w') : SlAt B g n w' v := by
  obtain ⟨a, cap, rfl, h1, h2, h6, h3⟩ := h
  refine ⟨a, cap, rfl, h1, h2, h6, h3.imp id ?_⟩
  rintro ⟨b, off, rfl, h7, h4, h5⟩
  exact ⟨b, off, rfl, h7, Nat.lt_of_lt_of_le h4 hb.size, fun i hi => (hb.cell (p := ⟨b, off + i, none⟩) h4).trans (h5 i hi)⟩
theorem SlAt.base {B B' : Nat} {g : Nat → Value} {n : Nat} {w : World} {v : Value} (h : SlAt B g n w v) (hb : B' ≤ B) : SlAt B' g n w v := by
  obtain ⟨a, cap, rfl, h1, h2, h6, h3⟩ := h
  refine ⟨a, cap, rfl, h1, h2, h6, h3.imp id ?_⟩
  rintro ⟨b, off, rfl, h7, h4, h5⟩
  exact ⟨b, off, rfl, Nat.le_trans hb h7, h4, h5⟩

theorem SlAt.set {B : Nat} {g : Nat → Value} {n : Nat} {w : World} {v : Value} (h : SlAt B g n w v) {p : Addr} (hp : p.block < B) (u : Value) : SlAt B g n (w.setCell p u) v := by
  obtain ⟨a, cap, rfl, h1, h2, h6, h3⟩ := h
  refine ⟨a, cap, rfl, h1, h2, h6, h3.imp id ?_⟩
  rintro ⟨b, off, rfl, h7, h4, h5⟩
  refine ⟨b, off, rfl, h7, by simpa [World.setCell] using h4, fun i hi => ?_⟩
  rw [← h5 i hi]
  exact World.cell?_of_block (Below.heap_setCell _ _ _ _ (by dsimp only; omega))
theorem SlAt.take {B : Nat} {g : Nat → Value} {n m : Nat} {w : World} {a : Option Addr} {cap : Nat} (h : SlAt B g n w (.slice a n cap)) (hm : m ≤ n) : SlAt B g m w (.slice a m cap) := by
  obtain ⟨a, cap, e, h1, h2, h6, h3⟩ := h
  injection e with e1 e2 e3
  subst e1 e3
  refine ⟨_, _, rfl, Nat.le_trans hm h1, h2, h6, ?_⟩
  by_cases h0 : m = 0
  · exact Or.inl h0
  · obtain ⟨b, off, rfl, h7, h4, h5⟩ := h3.resolve_left (by omega)
    exact Or.inr ⟨b, off, rfl, h7, h4, fun i hi => h5 i (by omega)⟩
/-- Element k of a list of numbers. -/
def nth (l : List Int) (k : Nat) : Int := l.getD k 0
theorem nth_eq {l : List Int} {k : Nat} (h : k < l.length) : nth l k = l[k] := by unfold nth; simp [h]
theorem nth_zero (y : Int) (l : List Int) : nth (y :: l) 0 = y := rfl
theorem nth_succ (y : Int) (l : List Int) (k : Nat) : nth (y :: l) (k + 1) = nth l k := rfl
section
variable {H : Type} {enc : TypeId × Value → H} {P : Program} {w : World} {held : Bool}

theorem add_spot (a : Addr) (i : Nat) (h : a.spot = none) : a.add i = ⟨a.block, a.off + i, none⟩ := by
  unfold Addr.add
  by_cases hi : i = 0
  · subst hi; cases a; simp at h; subst h; rfl
  · rw [if_neg hi]

/-- A slice whose elements are one cell each, opened: its elements' values and readings. -/
theorem slAt_of_trod {t e : TypeId} {fuel : Nat} {c : Value} {x : DataW H × List MemPlace} (ht : P.underlying t = some (.slice e)) (hc : P.cellsOf e = 1)
    (h : DataW.trod enc P w 0 (fun _ => true) held fuel t [c] = some x) :
    ∃ (n m : Nat) (V : Nat → Value), SlAt 0 V n w c ∧ ∀ i, i < n → ∃ y, DataW.trod enc P w 0 (fun _ => true) held m e [V i] = some y := by
  rcases open_slice1 ht hc h with ⟨hcs, _⟩ | ⟨a, len, cap, m, n, V, D, Pl, hcs, hb, hl, hm, hmm, hx, hV⟩
  · refine ⟨0, 0, fun _ => undef, ?_, fun i hi => absurd hi (by omega)⟩
    simp at hcs; subst hcs
    exact ⟨none, 0, rfl, Nat.le_refl _, Nat.zero_le _, fun _ => rfl, Or.inl rfl⟩
  · simp at hcs; subst hcs
    simp only [if_true] at hmm; subst hmm
    refine ⟨len, n, V, ⟨some a, m, rfl, hl, hm, fun h => by simp at h, ?_⟩, fun i hi => ⟨_, (hV i (by omega)).2⟩⟩
    by_cases h0 : len = 0
    · exact Or.inl h0
    · right
      have h1 := (hV 0 (by omega)).1
      have hs : a.spot = none := by
        have : a.add 0 = a := by simp [Addr.add]
        rw [this] at h1
        unfold World.cell? at h1
        cases hsp : a.spot with
        | none => rfl
        | some s => rw [hsp] at h1; simp at h1; split at h1 <;> simp_all
      refine ⟨a.block, a.off, by cases a; simp at hs; subst hs; rfl, Nat.zero_le _, ?_, fun i hi => ?_⟩
      · rw [show a.add 0 = a from by simp [Addr.add]] at h1
        unfold World.cell? at h1
        rcases Nat.lt_or_ge a.block w.heap.size with h' | h'
        · exact h'
        · rw [Array.getElem?_eq_none h'] at h1; simp at h1
      · rw [← add_spot a i hs]; exact (hV i (by omega)).1
theorem SlAt.congr {B : Nat} {g g' : Nat → Value} {n : Nat} {v : Value} (h : SlAt B g n w v) (e : ∀ i, i < n → g i = g' i) : SlAt B g' n w v := by
  obtain ⟨a, cap, rfl, h1, h2, h6, h3⟩ := h
  refine ⟨a, cap, rfl, h1, h2, h6, h3.imp id ?_⟩
  rintro ⟨b, off, rfl, h7, h4, h5⟩
  exact ⟨b, off, rfl, h7, h4, fun i hi => by rw [h5 i hi, e i hi]⟩
theorem getD_map_range {α : Type} (f : Nat → α) (n i : Nat) (d : α) (h : i < n) : ((List.range n).map f).getD i d = f i := by simp [h]
end

/-! ### Slices that the call owns -/
theorem map_range_nth (k : IntKind) (l : List Int) : (List.range l.length).map (fun i => Value.int k (nth l i)) = l.map (Value.int k) := by
  apply List.ext_getElem (by simp)
  intro i h1 h2
  simp at h1
  simp [nth_eq h1]
theorem own_slAt {w : World} {B e : Nat} {v : Value} {n : Nat} {xs : List Value} (h : w.ownsRow B e 1 v n xs) : SlAt B (fun i => xs.getD i undef) n w v := by
  have hl := h.1
  rw [Nat.mul_one] at hl
  have hc := fun g hg => h.cells (g := g) hg
  rcases h.2 with ⟨rfl, h0⟩ | ⟨g, cap, cur, rfl, hB, hg, hn, hm, hs, ht⟩
  · subst h0; exact ⟨none, 0, rfl, Nat.le_refl _, Nat.zero_le _, fun _ => rfl, Or.inl rfl⟩
  · refine ⟨_, cap, rfl, hn, hm, fun h => (by cases h), ?_⟩
    by_cases h0 : n = 0
    · exact Or.inl h0
    · refine Or.inr ⟨g, 0, rfl, hB, ?_, fun i hi => ?_⟩
      · exact (Array.getElem?_eq_some_iff.1 hg).1
      · have hi' : i < xs.length := by omega
        have := hc g rfl i (xs.getD i undef) (by simp [hi'])
        rw [show ((⟨g, 0, none⟩ : Addr).add i) = ⟨g, 0 + i, none⟩ from by unfold Addr.add; by_cases e : i = 0 <;> simp [e]] at this
        exact this
theorem own_ints {w : World} {B e : Nat} {v : Value} {k : IntKind} {l : List Int} {n : Nat} (h : w.ownsRow B e 1 v n (l.map (Value.int k))) : SlAt B (fun i => .int k (nth l i)) l.length w v := by
  have hl := h.1
  simp at hl
  subst hl
  refine (own_slAt h).congr fun i hi => ?_
  simp [hi, nth_eq hi]

theorem nth_take {l : List Int} {m i : Nat} (h : i < m) : nth (l.take m) i = nth l i := by
  unfold nth; simp [h]
theorem getD_nth (k : IntKind) (l : List Int) (i : Nat) (h : i < l.length) : (l.map (Value.int k)).getD i undef = .int k (nth l i) := by
  simp [h, nth_eq h]
/-- A slice that was just written out. -/
theorem own_lit (w : World) (cur : List Value) (e B g n : Nat) (hg : g = w.heap.size) (hn : n = cur.length) (hB : B ≤ w.heap.size) (hm : n ≤ maxLen) :
    (w.alloc (.cells cur.toArray e)).ownsRow B e 1 (.slice (some ⟨g, 0, none⟩) n n) n cur := by
  subst hg hn
  exact ⟨by simp, Or.inr ⟨w.heap.size, cur.length, cur.toArray, rfl, hB, (MapKept.heap_alloc w _).1, Nat.le_refl _, hm, by simp, by rw [Nat.mul_one]; exact List.take_of_length_le (by simp)⟩⟩
theorem sl_new (w : World) (k : IntKind) (l : List Int) (e g n : Nat) (hg : g = w.heap.size) (hn : n = l.length) (hm : n ≤ maxLen) :
    SlAt 0 (fun i => .int k (nth l i)) n (w.alloc (.cells (l.map (Value.int k)).toArray e)) (.slice (some ⟨g, 0, none⟩) n n) := by
  subst hn
  exact own_ints (own_lit w (l.map (Value.int k)) e 0 g l.length hg (by simp) (Nat.zero_le _) hm)
/-- 'append(s, x...)', s of the call's own, x any slice of elements of one cell. -/
theorem wpList_app {P : Program} {w : World} {ops : Array Oper} {rest : List Oper} {o : Oper} {a : Act} {Q : Exit → Act → World → Prop} (hgd : o.guard = none) (s x : Operand) (t : TypeId)
    (ho : o.op = .call { callee := .builtin .append, args := #[s, x], argTypes := #[t, t] })
    (base : Nat) (e : TypeId) (i : TypeInfo) (z : Value) (bytes : Nat) (ht : P.underlying t = some (.slice e)) (hi : P.info? e = some i) (hz : i.zero = some z)
    (hsize : i.size = 1) (hby : i.bytes = bytes) (hzs : z.cells.size = 1)
    (v : Value) (n : Nat) (xs : List Value) (hs : a.eval s = v) (hown : w.ownsRow base e 1 v n xs)
    (B : Nat) (g : Nat → Value) (m : Nat) (sv : Value) (hx : a.eval x = sv) (hsl : SlAt B g m w sv) (h1 : ∀ i, (g i).oneCell' = true)
    (h63 : n + m ≤ maxLen) (hbytes : (n + m) * bytes ≤ 140737488355328) (hbase : base ≤ w.heap.size)
    (h : ∀ v' w', w'.ownsRow base e 1 v' (n + m) (xs ++ (List.range m).map g) → w.grownBy w' v.ownBlock → wpList P ops Q rest (a.put o.dst v') w') : wpList P ops Q (o :: rest) a w := by
  obtain ⟨ad, cap, rfl, hn, hm, hnil, hcs⟩ := hsl
  cases ad with
  | none =>
    have hc0 := hnil rfl
    subst hc0
    obtain rfl : m = 0 := by omega
    refine wpList_append_own_none hgd s x t ho base e i 1 ht hi v n xs hs hown hx (h v w ?_ ⟨rfl, rfl, rfl, Nat.le_refl _, fun _ _ _ => rfl⟩)
    simpa using hown
  | some ad =>
    refine wpList_append_own w hgd s x t ho base e i z 1 bytes ht hi hz hsize hby hzs (by decide) v n xs hs hown ad m cap ((List.range m).map g) hx (by simp) ?_ ?_ h63 hbytes hbase (fun v' w' h1 h2 _ => h v' w' h1 h2)
    · intro j u hu
      have hj : j < m := by
        rcases Nat.lt_or_ge j m with h' | h'
        · exact h'
        · simp [h'] at hu
      obtain ⟨b, off, e1, _, h4, h5⟩ := hcs.resolve_left (by omega)
      injection e1 with e1
      subst e1
      rw [show ((⟨b, off, none⟩ : Addr).add j) = ⟨b, off + j, none⟩ from by unfold Addr.add; by_cases e : j = 0 <;> simp [e], h5 j hj]
      simp [hj] at hu
      rw [hu]
    · intro u hu
      obtain ⟨j, _, rfl⟩ := List.mem_map.1 hu
      exact h1 j
end Go.Proofs.YtahiahjhpakeiaaGreatDoor
namespace Go.Proofs.YtahiahjhpakeiaaGreatDoor
open Go.RowKit
set_option linter.unusedVariables false
set_option linter.unusedSimpArgs false

/-- A world in which nothing that was in w has turned. -/
structure Later (w : World) where
  world : World
  below : Below w.heap.size w world
theorem later_cell {w : World} (x : Later w) (b o : Nat) (h : b < w.heap.size) : x.world.cell? ⟨b, o, none⟩ = w.cell? ⟨b, o, none⟩ := x.below.cell (p := ⟨b, o, none⟩) h
theorem cell_set_off (w : World) (b o o' : Nat) (v : Value) (h : o ≠ o') : (w.setCell ⟨b, o, none⟩ v).cell? ⟨b, o', none⟩ = w.cell? ⟨b, o', none⟩ := by
  unfold World.cell?
  unfold World.setCell
  simp only [Array.getElem?_modify]
  cases hb : w.heap[b]? with
  | none => simp
  | some ob =>
    cases ob <;> simp
    case cells c e f => rw [Array.getElem?_setIfInBounds_ne h]
theorem cell_set_block (w : World) (b b' o o' : Nat) (v : Value) (h : b ≠ b') : (w.setCell ⟨b, o, none⟩ v).cell? ⟨b', o', none⟩ = w.cell? ⟨b', o', none⟩ :=
  World.cell?_of_block (Below.heap_setCell _ _ _ _ (Ne.symm h))
theorem size_set (w : World) (a : Addr) (v : Value) : (w.setCell a v).heap.size = w.heap.size := by simp [World.setCell]
theorem later_frozen {w : World} (x : Later w) (b o : Nat) (h : b < w.heap.size) : x.world.frozen? ⟨b, o, none⟩ = w.frozen? ⟨b, o, none⟩ := x.below.frozen (p := ⟨b, o, none⟩) h
theorem later_lt {w : World} (x : Later w) (b : Nat) (h : b < w.heap.size) : (b < x.world.heap.size) = True := eq_true (Nat.lt_of_lt_of_le h x.below.size)
def Later.refl (w : World) : Later w := ⟨w, Below.refl _ _⟩
instance {w : World} : Nonempty (Later w) := ⟨Later.refl w⟩
def Later.trans {w : World} (x : Later w) (y : Later x.world) : Later w := ⟨y.world, x.below.trans (y.below.mono x.below.size)⟩
/-! Steps of 'nothing that was in a has turned'. -/
theorem bel_later {a w : World} (h : Below a.heap.size a w) (x : Later w) : Below a.heap.size a x.world := h.trans (x.below.mono h.size)
theorem bel_below {a w w' : World} (h : Below a.heap.size a w) (x : Below w.heap.size w w') : Below a.heap.size a w' := h.trans (x.mono h.size)
theorem bel_alloc {a w : World} (h : Below a.heap.size a w) (o : Obj) : Below a.heap.size a (w.alloc o) := h.alloc h.size o
theorem bel_drew {a w : World} (h : Below a.heap.size a w) : Below a.heap.size a w.drew := h.drew
theorem bel_drewN {a w : World} (h : Below a.heap.size a w) (n : Nat) : Below a.heap.size a (w.drewN n) := h.trans (Joins.below_draws _ _ n)
theorem bel_set {a w : World} (h : Below a.heap.size a w) {p : Addr} (hp : a.heap.size ≤ p.block) (u : Value) : Below a.heap.size a (w.setCell p u) := h.setCell hp u

theorem wp_region_calm {P : Program} {id : Nat} {Q : Exit → Act → World → Prop} {a : Act} {w : World} {l : List Oper} (hm : P.follows .mixedOrders = true) (hB : Region.lexB .any l.toArray = true)
    (h : wpQuiet P l.toArray (fun w' => ∃ x : Later w, w' = x.world) (fun a' => ∀ w', (∃ x : Later w, w' = x.world) → Q .normal a' w') l a) : (Code.region id l.toArray true).wp P Q a w :=
  wp_region_quiet (C := fun w' => ∃ x : Later w, w' = x.world) hm hB ⟨⟨{ w with drawn := w.drawn + 1 }, (Below.refl _ _).drew⟩, rfl⟩ (by simpa using h)
/-- A callee's contract, met in a later world. -/
theorem calls_calm {P : Program} {f : FuncId} {args : Array Value} {w : World} {x : Later w} {v : Value}
    (h : Calls P f args x.world fun e w' => e = .returned v ∧ Below x.world.heap.size x.world w') : Calls P f args x.world fun e w'' => e = .returned v ∧ ∃ y : Later w, w'' = y.world :=
  h.mono fun _ _ ⟨he, hb⟩ => ⟨he, x.trans ⟨_, hb⟩, rfl⟩
theorem calls_calm_same {P : Program} {f : FuncId} {args : Array Value} {w : World} {x : Later w} {v : Value}
    (h : Calls P f args x.world fun e w' => e = .returned v ∧ x.world = w') : Calls P f args x.world fun e w'' => e = .returned v ∧ ∃ y : Later w, w'' = y.world :=
  h.mono fun _ _ ⟨he, hb⟩ => ⟨he, x, hb.symm⟩
end Go.Proofs.YtahiahjhpakeiaaGreatDoor
namespace Go.Proofs.YtahiahjhpakeiaaGreatDoor
open Go.RowKit Go.Maps
set_option linter.unusedVariables false
set_option linter.unusedSimpArgs false

/-- A pointer to a block's head, or none. -/
def ptrV : Option Nat → Value
  | none => .pointer none
  | some b => .pointer (some ⟨b, 0, none⟩)
def ptrD : Option Nat → DataW Unit
  | none => .lit (.int .i64 (-1))
  | some b => .lit (.int .i64 b)
/-- How a pointer reads here: as its block's number. -/
def ptrR (v : Value) : Option (DataW Unit × List MemPlace) :=
  match v with
  | .pointer none => some (ptrD none, [])
  | .pointer (some ⟨b, 0, none⟩) => some (ptrD (some b), [])
  | _ => none
theorem ptrR_mk (o : Option Nat) : ptrR (ptrV o) = some (ptrD o, []) := by cases o <;> rfl
theorem ptrR_inv {v : Value} {y : DataW Unit × List MemPlace} (h : ptrR v = some y) : ∃ o, v = ptrV o ∧ y = (ptrD o, []) := by
  unfold ptrR at h
  split at h
  · exact ⟨none, rfl, by simpa using h.symm⟩
  · rename_i b; exact ⟨some b, rfl, by simpa using h.symm⟩
  · cases h
theorem ptrD_inj {o o' : Option Nat} (h : ptrD o = ptrD o') : o = o' := by
  have e : ∀ o, ∃ z : Int, ptrD o = .lit (.int .i64 z) ∧ (o = none ∧ z = -1 ∨ ∃ b : Nat, o = some b ∧ z = b) := by
    intro o
    cases o with
    | none => exact ⟨-1, rfl, Or.inl ⟨rfl, rfl⟩⟩
    | some b => exact ⟨b, rfl, Or.inr ⟨b, rfl, rfl⟩⟩
  obtain ⟨z, e1, e2⟩ := e o
  obtain ⟨z', e1', e2'⟩ := e o'
  rw [e1, e1'] at h
  injection h with h
  injection h with _ h
  subst h
  rcases e2 with ⟨rfl, e2⟩ | ⟨b, rfl, e2⟩ <;> rcases e2' with ⟨rfl, e2'⟩ | ⟨b', rfl, e2'⟩
  · rfl
  · omega
  · omega
  · rw [show b = b' by omega]

section
variable {P : Program} {k : TypeId}

def okInt (i : Int) : Prop := (Lit.int .i64 i).wf = true
/-- Block mb holds a map of at most N entries, from numbers to pointers. -/
def MapAt (P : Program) (k : TypeId) (w : World) (mb N : Nat) (f : Int → Option Nat) : Prop :=
  ∃ D, w.ownsMap P k ptrR mb N D ∧ (∀ i, okInt i → D.atKey (.int .i64 i) (ptrD none) = ptrD (f i)) ∧ (∀ i, okInt i → has D (.int .i64 i) = (f i).isSome) ∧ ∀ i, ¬ okInt i → f i = none

theorem MapAt.kept {w w' : World} {mb N : Nat} {f : Int → Option Nat} {row : Option Nat} (h : MapAt P k w mb N f) (hg : w.grownBy w' row) (hne : some mb ≠ row) : MapAt P k w' mb N f := by
  obtain ⟨D, h1, h2⟩ := h
  exact ⟨D, h1.kept hg hne, h2⟩
theorem MapAt.lt {w : World} {mb N : Nat} {f : Int → Option Nat} (h : MapAt P k w mb N f) : mb < w.heap.size := by
  obtain ⟨D, h1, _⟩ := h
  exact h1.lt
theorem MapAt.block {w w' : World} {mb N : Nat} {f : Int → Option Nat} (h : MapAt P k w mb N f) (hb : w'.heap[mb]? = w.heap[mb]?) : MapAt P k w' mb N f := by
  obtain ⟨D, ⟨es, clock, h1, h2⟩, h3⟩ := h
  exact ⟨D, ⟨es, clock, hb.trans h1, h2⟩, h3⟩
theorem mapAt_new (w : World) : MapAt P k (w.alloc (.map #[] 0)) w.heap.size 0 (fun _ => none) :=
  ⟨.map [], World.ownsMap_made w P k ptrR, fun _ _ => rfl, fun _ _ => rfl, fun _ _ => rfl⟩

/-- 'm[i]'. -/
theorem MapAt.look {w : World} {mb N : Nat} {f : Int → Option Nat} {t e : TypeId} (h : MapAt P k w mb N f) (K : Keyed P k) (hk : P.underlying k = some (.int .i64)) (ht : P.underlying t = some (.map k e))
    (hz : (zeroValue e).run P w = .ok (.pointer none) w) (i : Int) (hi : okInt i) : (Instr.lookup t (.map (some mb)) (.int .i64 i) false).run P w = .ok (ptrV (f i)) w := by
  obtain ⟨D, h1, h2, _⟩ := h
  obtain ⟨v, ps, hrun, hv⟩ := h1.lookup K ht hz (zd := ptrD none) (zp := []) rfl (keyOf_int_mk hk hi)
  obtain ⟨o, rfl, e1⟩ := ptrR_inv hv
  rw [h2 i hi] at e1
  simp only [Prod.mk.injEq] at e1
  rw [hrun, ptrD_inj e1.1]

def setF (f : Int → Option Nat) (i : Int) (b : Nat) : Int → Option Nat := fun j => if j = i then some b else f j
theorem isKey_int (i : Int) (hi : okInt i) (K : Keyed P k) (hk : P.underlying k = some (.int .i64)) : WideAt.IsKeyLit (.int .i64 i) := K.key (keyOf_int_mk hk hi)
/-- 'm[i] = p'. -/
theorem MapAt.store {w : World} {mb N : Nat} {f : Int → Option Nat} {t e : TypeId} (h : MapAt P k w mb N f) (K : Keyed P k) (hk : P.underlying k = some (.int .i64)) (ht : P.underlying t = some (.map k e))
    (hN : N < maxLen) (i : Int) (hi : okInt i) (b : Nat) : ∃ w', (Instr.mapUpdate t (.map (some mb)) (.int .i64 i) (ptrV (some b))).run P w = .ok () w' ∧ MapAt P k w' mb (N + 1) (setF f i b) ∧ w.grownBy w' (some mb) := by
  obtain ⟨D, h1, h2, h3, h4⟩ := h
  obtain ⟨w', hrun, h5, h6⟩ := h1.update K ht hN (keyOf_int_mk hk hi) (ptrR_mk (some b))
  have hkey := isKey_int i hi K hk
  have hM := h1.isMap
  refine ⟨w', hrun, ⟨_, h5, fun j hj => ?_, fun j hj => ?_, fun j hj => ?_⟩, h6⟩
  · unfold setF
    by_cases e : j = i
    · subst e; rw [if_pos rfl, atKey_put_same hM hkey]
    · rw [if_neg e, atKey_put_other (by simpa using e), h2 j hj]
  · unfold setF
    by_cases e : j = i
    · subst e; rw [if_pos rfl, has_put_same hM hkey]; rfl
    · rw [if_neg e, has_put_other (by simpa using e), h3 j hj]
  · unfold setF
    rw [if_neg (fun e : j = i => hj (by rw [e]; exact hi)), h4 j hj]

/-- 'for i, p := range m' under way: 'left i': is i still to come? -/
def Ranging (P : Program) (k : TypeId) (w : World) (mb r N : Nat) (f : Int → Option Nat) (left : Int → Bool) (cnt : Nat) : Prop :=
  ∃ D lf, w.ranges P k ptrR mb r N D lf cnt ∧ (∀ i, okInt i → D.atKey (.int .i64 i) (ptrD none) = ptrD (f i)) ∧ (∀ i, okInt i → has D (.int .i64 i) = (f i).isSome) ∧ (∀ i, ¬ okInt i → f i = none) ∧
    (∀ i, okInt i → lf (.int .i64 i) = left i) ∧ (∀ i, left i = true → okInt i ∧ (f i).isSome = true)
theorem Ranging.kept {w w' : World} {mb r N : Nat} {f : Int → Option Nat} {left : Int → Bool} {cnt : Nat} {row : Option Nat} (h : Ranging P k w mb r N f left cnt) (hg : w.grownBy w' row) (h1 : some mb ≠ row) (h2 : some r ≠ row) : Ranging P k w' mb r N f left cnt := by
  obtain ⟨D, lf, h3, h4⟩ := h
  exact ⟨D, lf, h3.kept hg h1 h2, h4⟩
theorem Ranging.left_eq {w : World} {mb r N : Nat} {f : Int → Option Nat} {left : Int → Bool} {cnt : Nat} (h : Ranging P k w mb r N f left cnt) : w.rangeLeft mb r = cnt := by
  obtain ⟨D, lf, h1, _⟩ := h
  exact h1.left_eq
end

section
variable {P : Program} (w : World) {ops : Array Oper} {rest : List Oper} {o : Oper} {a : Act} {Q : Exit → Act → World → Prop}
theorem wpList_range_ptr (hg : o.guard = none) (m : Operand) (t : TypeId) (hop : o.op = Op.range t m) (k e : TypeId) (K : Keyed P k) (ht : P.underlying t = some (.map k e)) (mb N : Nat) (f : Int → Option Nat)
    (hm : a.eval m = .map (some mb)) (h : MapAt P k w mb N f) (hk : P.underlying k = some (.int .i64))
    (hK : ∀ w' cnt, Ranging P k w' mb w.heap.size N f (fun i => (f i).isSome) cnt → w.grownBy w' none → w'.heap.size = w.heap.size + 1 → wpList P ops Q rest (a.put o.dst (.pointer (some ⟨w.heap.size, 0, none⟩))) w') :
    wpList P ops Q (o :: rest) a w := by
  obtain ⟨D, h1, h2, h3, h4⟩ := h
  refine wpList_range_own w hg m t hop k e K ht ptrR mb N D hm h1 (fun w' hr hg hs => hK w' _ ⟨D, _, hr, h2, h3, h4, h3, fun i hi => ?_⟩ hg hs)
  refine ⟨Classical.byContradiction fun hn => ?_, hi⟩
  have hi' : (f i).isSome = true := hi
  rw [h4 i hn] at hi'
  cases hi'
theorem wpList_next_ptr (hg : o.guard = none) (it : Operand) (hop : o.op = Op.next it false) (k : TypeId) (K : Keyed P k) (hk : P.underlying k = some (.int .i64)) (mb r N : Nat) (f : Int → Option Nat) (left : Int → Bool) (cnt : Nat)
    (hit : a.eval it = .pointer (some ⟨r, 0, none⟩)) (h : Ranging P k w mb r N f left cnt)
    (hDone : cnt = 0 → (∀ i, left i = false) → wpList P ops Q rest (a.put o.dst (.tuple #[.bool false])) w)
    (hMore : ∀ (i : Int) (b : Nat) (w' : World) (cnt' : Nat), okInt i → left i = true → f i = some b → Ranging P k w' mb r N f (fun j => left j && !(j == i)) cnt' → cnt' < cnt → w.grownBy w' (some r) → w'.heap.size = w.heap.size →
      (Instr.entry (.pointer (some ⟨r, 0, none⟩))).run P w' = .ok (.tuple #[.int .i64 i, .pointer (some ⟨b, 0, none⟩)]) w' → wpList P ops Q rest (a.put o.dst (.tuple #[.bool true, .int .i64 i, .pointer (some ⟨b, 0, none⟩)])) w') :
    wpList P ops Q (o :: rest) a w := by
  obtain ⟨D, lf, h1, h2, h3, h4, h5, h6⟩ := h
  refine wpList_next_ranges w hg it hop k K ptrR (Value.int .i64) ptrV (fun key kl hkl => ?_) (fun v y hv => ?_) mb r N D lf cnt hit h1 (fun h0 hall => ?_) ?_
  · obtain ⟨x, e, _⟩ := Maps.keyOf_int_inv hk hkl
    exact ⟨x, e⟩
  · obtain ⟨o, e, _⟩ := ptrR_inv hv
    exact ⟨o, e⟩
  · refine hDone h0 fun i => ?_
    by_cases hi : okInt i
    · rw [← h5 i hi]; exact hall _
    · cases hl : left i
      · rfl
      · exact absurd (h6 i hl).1 hi
  · intro x c kl y w' cnt' hkey hlk hR hat hr hlt hgr hsz hen
    obtain ⟨x', e1, e2, e3⟩ := Maps.keyOf_int_inv hk hkey
    injection e1 with _ e1
    subst e1 e2
    have hleft : left x = true := by rw [← h5 x e3]; exact hlk
    have hsome := (h6 x hleft).2
    rw [ptrR_mk] at hR
    have hc : ptrD c = ptrD (f x) := by rw [← h2 x e3, hat (ptrD none)]; injection hR with hR; rw [← hR]
    have hcf := ptrD_inj hc
    obtain ⟨b, hb⟩ := Option.isSome_iff_exists.1 hsome
    rw [hcf, hb] at hen ⊢
    refine hMore x b w' cnt' e3 hleft hb ⟨D, _, hr, h2, h3, h4, fun j hj => ?_, fun j hj => ?_⟩ hlt hgr hsz hen
    · rw [h5 j hj]
      congr 1
      by_cases e : j = x
      · subst e; rw [WideAt.sameKey_self (isKey_int j hj K hk)]; simp
      · have : (Lit.int .i64 j).sameKey (Lit.int .i64 x) = false := by
          cases hs : (Lit.int .i64 j).sameKey (Lit.int .i64 x)
          · rfl
          · have := WideAt.sameKey_eq hs
            injection this with _ this
            exact absurd this e
        rw [this]; simp [e]
    · simp at hj
      exact h6 j hj.1
end
end Go.Proofs.YtahiahjhpakeiaaGreatDoor
namespace Go.Proofs.YtahiahjhpakeiaaGreatDoor
set_option linter.unusedVariables false
set_option linter.unusedSimpArgs false

/-- How far it is from one place on to another one. -/
def dist (a b : Int) : Int := (b - a) % 18446744073709551616
def withinB (x a b : Int) : Bool := if a == b then x != a else x != a && decide (dist a x < dist a b)
def isPlace (a : Int) : Prop := 0 ≤ a ∧ a < 18446744073709551616

/-- An address that was used: a member. -/
structure Mem where
  live : Bool
  id : Int
  pred : Int
  succ : List Int
/-- The members, by their addresses. -/
abbrev RS := Int → Option Mem
def livesR (f : RS) (n : Int) : Bool := match f n with | some m => m.live | none => false
def idR (f : RS) (n : Int) : Int := match f n with | some m => m.id | none => 0
def succR (f : RS) (n : Int) : List Int := match f n with | some m => m.succ | none => []
def predR (f : RS) (n : Int) : Int := match f n with | some m => m.pred | none => 0
/-- The first that lives, as a place in the list; -1: none does. -/
def firstR (f : RS) : List Int → Int
  | [] => -1
  | x :: l => if livesR f x then 0 else if firstR f l = -1 then -1 else firstR f l + 1
/-- The first that lives; -1: none does. -/
def headL (f : RS) : List Int → Int
  | [] => -1
  | x :: l => if livesR f x then x else headL f l
def headR (f : RS) (n : Int) : Int := headL f (succR f n)
def nearR (f : RS) (q fr to : Int) : Bool := q != -1 && livesR f q && withinB (idR f q) fr (idR f to)
/-- Who is ahead, when n says that it is. -/
def rectR (f : RS) (id pred n : Int) : Int := if pred == -1 || !livesR f pred || withinB (idR f n) (idR f pred) id then n else pred
def setM (f : RS) (n : Int) (m : Mem) : RS := fun j => if j = n then some m else f j
def followL (s : Int) (l : List Int) : List Int := (s :: l).take 3
/-- A member that lives looks. -/
def stabT (f : RS) (n : Int) : Int := if nearR f (predR f (headR f n)) (idR f n) (headR f n) then predR f (headR f n) else headR f n
def stab1 (f : RS) (n : Int) : RS := setM f n ⟨livesR f n, idR f n, predR f n, followL (stabT f n) (succR f (stabT f n))⟩
def stabR (f : RS) (n : Int) : RS :=
  setM (stab1 f n) (stabT f n) ⟨livesR f (stabT f n), idR f (stabT f n), rectR f (idR f (stabT f n)) (predR f (stabT f n)) n, succR (stab1 f n) (stabT f n)⟩
def liveL (f : RS) : List Int := ((List.range 32).map Int.ofNat).filter (livesR f)
def roundR (f : RS) : RS := (liveL f).foldl stabR f
def joinAt (f : RS) (id : Int) : Nat → Int → Option Int
  | 0, _ => none
  | k + 1, x => if withinB id (idR f x) (idR f (headR f x)) then some x else joinAt f id k (headR f x)
def joinC (f : RS) (n id via : Int) : Int :=
  if n < 0 ∨ 32 ≤ n then 1 else if (f n).isSome then 7 else if livesR f via = false then 6 else if (liveL f).any (fun k => idR f k == id) then 8
  else match joinAt f id 33 via with | some _ => 0 | none => 5
def joinR (f : RS) (n id via : Int) : RS :=
  if joinC f n id via = 0 then (match joinAt f id 33 via with | some x => setM f n ⟨true, id, x, succR f x⟩ | none => f) else f
def diesR (f : RS) (n : Int) : RS := setM f n ⟨false, idR f n, predR f n, succR f n⟩
def failC (f : RS) (n : Int) : Int :=
  if livesR f n = false then 6 else if n < 4 then 5 else if (liveL (diesR f n)).any (fun k => headR (diesR f n) k == -1) then 5 else 0
def failR (f : RS) (n : Int) : RS := if failC f n = 0 then diesR f n else f

/-- Addresses are 0 to 31; places are places. -/
def Dom (f : RS) : Prop := ∀ n m, f n = some m → 0 ≤ n ∧ n < 32 ∧ isPlace m.id ∧ m.succ.length ≤ 3 ∧ (-1 ≤ m.pred ∧ m.pred < 32) ∧ ∀ x ∈ m.succ, 0 ≤ x ∧ x < 32
/-- Each member that lives has a head. -/
def Heads (f : RS) : Prop := ∀ n, livesR f n = true → livesR f (headR f n) = true

theorem livesR_dom {f : RS} (h : Dom f) {n : Int} (hn : livesR f n = true) : 0 ≤ n ∧ n < 32 := by
  unfold livesR at hn
  cases e : f n with
  | none => rw [e] at hn; cases hn
  | some m => have := h n m e; exact ⟨this.1, this.2.1⟩
theorem livesR_neg {f : RS} (h : Dom f) : livesR f (-1) = false := by
  cases e : livesR f (-1)
  · rfl
  · have := livesR_dom h e; omega
theorem livesR_some {f : RS} {n : Int} (h : livesR f n = true) : ∃ m, f n = some m ∧ m.live = true := by
  unfold livesR at h
  cases e : f n with
  | none => rw [e] at h; cases h
  | some m => rw [e] at h; exact ⟨m, rfl, h⟩
theorem headL_or (f : RS) (l : List Int) : livesR f (headL f l) = true ∧ headL f l ∈ l ∨ headL f l = -1 ∧ ∀ x ∈ l, livesR f x = false := by
  induction l with
  | nil => exact Or.inr ⟨rfl, fun x hx => by simp at hx⟩
  | cons x l ih =>
    by_cases h : livesR f x = true
    · exact Or.inl (by simp [headL, h])
    · simp only [Bool.not_eq_true] at h
      rcases ih with ⟨h1, h2⟩ | ⟨h1, h2⟩
      · exact Or.inl ⟨by simpa [headL, h] using h1, by simp [headL, h]; exact Or.inr h2⟩
      · refine Or.inr ⟨by simpa [headL, h] using h1, fun y hy => ?_⟩
        rcases List.mem_cons.1 hy with rfl | hy
        · exact h
        · exact h2 y hy
theorem headL_at (f : RS) (l : List Int) : firstR f l = -1 ∧ headL f l = -1 ∨ ∃ k : Nat, k < l.length ∧ firstR f l = k ∧ headL f l = nth l k := by
  induction l with
  | nil => exact Or.inl ⟨rfl, rfl⟩
  | cons x l ih =>
    by_cases h : livesR f x = true
    · exact Or.inr ⟨0, by simp, by simp [firstR, h], by simp [headL, h, nth_zero]⟩
    · simp only [Bool.not_eq_true] at h
      rcases ih with ⟨h1, h2⟩ | ⟨k, hk, h1, h2⟩
      · exact Or.inl ⟨by simp [firstR, h, h1], by simp [headL, h, h2]⟩
      · exact Or.inr ⟨k + 1, by simp; omega, by simp only [firstR, h, h1]; split <;> (try split) <;> first | contradiction | omega, by simp [headL, h, h2, nth_succ]⟩
theorem firstR_none {f : RS} {l : List Int} (h : ∀ k, k < l.length → livesR f (nth l k) = false) : firstR f l = -1 := by
  induction l with
  | nil => rfl
  | cons x l ih =>
    have h0 := h 0 (by simp)
    rw [nth_zero] at h0
    have := ih (fun k hk => by simpa [nth_succ] using h (k + 1) (by simp; omega))
    simp [firstR, h0, this]
theorem firstR_some {f : RS} {l : List Int} {k : Nat} (hk : k < l.length) (h : ∀ j, j < k → livesR f (nth l j) = false) (h1 : livesR f (nth l k) = true) : firstR f l = k := by
  induction l generalizing k with
  | nil => simp at hk
  | cons x l ih =>
    cases k with
    | zero => rw [nth_zero] at h1; simp [firstR, h1]
    | succ k =>
      have h0 := h 0 (by omega)
      rw [nth_zero] at h0
      have := ih (k := k) (by simp at hk; omega) (fun j hj => by simpa [nth_succ] using h (j + 1) (by omega)) (by simpa [nth_succ] using h1)
      simp only [firstR, h0]
      rw [this]
      split
      · contradiction
      · split <;> omega

/-! Nobody comes or goes, and nobody's place turns, by looking. -/
theorem setM_same (f : RS) (n : Int) (m : Mem) : setM f n m n = some m := by simp [setM]
theorem setM_ne (f : RS) {n j : Int} (m : Mem) (h : j ≠ n) : setM f n m j = f j := by simp [setM, h]
theorem livesR_set (f : RS) (n : Int) (m : Mem) (j : Int) : livesR (setM f n m) j = if j = n then m.live else livesR f j := by
  unfold livesR setM; by_cases h : j = n <;> simp [h]
theorem idR_set (f : RS) (n : Int) (m : Mem) (j : Int) : idR (setM f n m) j = if j = n then m.id else idR f j := by
  unfold idR setM; by_cases h : j = n <;> simp [h]
theorem succR_set (f : RS) (n : Int) (m : Mem) (j : Int) : succR (setM f n m) j = if j = n then m.succ else succR f j := by
  unfold succR setM; by_cases h : j = n <;> simp [h]
theorem isSome_set (f : RS) (n : Int) (m : Mem) (j : Int) : (setM f n m j).isSome = if j = n then true else (f j).isSome := by
  unfold setM; by_cases h : j = n <;> simp [h]
theorem livesR_stab1 (f : RS) (n j : Int) : livesR (stab1 f n) j = livesR f j := by
  unfold stab1; rw [livesR_set]; split
  · rename_i h; rw [h]
  · rfl
theorem idR_stab1 (f : RS) (n j : Int) : idR (stab1 f n) j = idR f j := by
  unfold stab1; rw [idR_set]; split
  · rename_i h; rw [h]
  · rfl
theorem livesR_stab (f : RS) (n j : Int) : livesR (stabR f n) j = livesR f j := by
  unfold stabR; rw [livesR_set]; split
  · rename_i h; rw [h]
  · exact livesR_stab1 f n j
theorem idR_stab (f : RS) (n j : Int) : idR (stabR f n) j = idR f j := by
  unfold stabR; rw [idR_set]; split
  · rename_i h; rw [h]
  · exact idR_stab1 f n j
theorem headL_congr {f g : RS} (h : ∀ j, livesR f j = livesR g j) (l : List Int) : headL f l = headL g l := by
  induction l with
  | nil => rfl
  | cons x l ih => simp [headL, h x, ih]
theorem mem_liveL {f : RS} (h : Dom f) {n : Int} : n ∈ liveL f ↔ livesR f n = true := by
  unfold liveL
  rw [List.mem_filter]
  constructor
  · exact fun h => h.2
  · intro hn
    have := livesR_dom h hn
    exact ⟨List.mem_map.2 ⟨n.toNat, List.mem_range.2 (by omega), by simp; omega⟩, hn⟩
theorem length_liveL (f : RS) : (liveL f).length ≤ 32 := by
  unfold liveL
  refine Nat.le_trans (List.length_filter_le _ _) (by simp)
end Go.Proofs.YtahiahjhpakeiaaGreatDoor
namespace Go.Proofs.YtahiahjhpakeiaaGreatDoor
open Go.RowKit Go.Maps
set_option linter.unusedVariables false
set_option linter.unusedSimpArgs false

/-- Only blocks of S and new ones have turned. -/
structure Kept (S : Nat → Prop) (w w' : World) : Prop where
  os : w'.os = w.os
  tape : w'.tape = w.tape
  output : w'.output = w.output
  size : w.heap.size ≤ w'.heap.size
  block : ∀ b, b < w.heap.size → ¬ S b → w'.heap[b]? = w.heap[b]?
theorem Kept.refl (S : Nat → Prop) (w : World) : Kept S w w := ⟨rfl, rfl, rfl, Nat.le_refl _, fun _ _ _ => rfl⟩
theorem Kept.trans {S : Nat → Prop} {a b c : World} (h : Kept S a b) (k : Kept S b c) : Kept S a c :=
  ⟨k.os.trans h.os, k.tape.trans h.tape, k.output.trans h.output, Nat.le_trans h.size k.size, fun i hi hS => (k.block i (Nat.lt_of_lt_of_le hi h.size) hS).trans (h.block i hi hS)⟩
theorem Kept.below {S : Nat → Prop} {a b c : World} (h : Kept S a b) (k : Below b.heap.size b c) : Kept S a c :=
  h.trans ⟨k.os, k.tape, k.output, k.size, fun i hi _ => k.block i hi⟩
theorem Kept.drew {S : Nat → Prop} {a b : World} (h : Kept S a b) : Kept S a b.drew := ⟨h.os, h.tape, h.output, h.size, h.block⟩
theorem Kept.later {S : Nat → Prop} {a b : World} (h : Kept S a b) (x : Later b) : Kept S a x.world := h.below x.below
theorem Kept.alloc {S : Nat → Prop} {a b : World} (h : Kept S a b) (o : Obj) : Kept S a (b.alloc o) := h.below (bel_alloc (Below.refl _ _) o)
theorem Kept.set {S : Nat → Prop} {a b : World} (h : Kept S a b) {p : Addr} (hp : S p.block) (v : Value) : Kept S a (b.setCell p v) :=
  h.trans ⟨rfl, rfl, rfl, by simp [World.setCell], fun i hi hS => Below.heap_setCell _ _ _ _ (fun e => hS (e ▸ hp))⟩
theorem Kept.toBelow {S : Nat → Prop} {w w' : World} {B : Nat} (h : Kept S w w') (hB : B ≤ w.heap.size) (hS : ∀ b, b < B → ¬ S b) : Below B w w' :=
  ⟨h.os, h.tape, h.output, h.size, fun b hb => h.block b (by omega) (hS b hb)⟩

/-- A slice of whole numbers whose block is one of Q. -/
def SlIn (Q : Nat → Prop) (l : List Int) (w : World) (v : Value) : Prop :=
  ∃ (a : Option Addr) (cap : Nat), v = .slice a l.length cap ∧ l.length ≤ cap ∧ cap ≤ maxLen ∧ (a = none → cap = 0) ∧
    (l.length = 0 ∨ ∃ b off : Nat, a = some ⟨b, off, none⟩ ∧ Q b ∧ b < w.heap.size ∧ ∀ i, i < l.length → w.cell? ⟨b, off + i, none⟩ = some (.int .i64 (nth l i)))
theorem SlIn.slAt {Q : Nat → Prop} {l : List Int} {w : World} {v : Value} (h : SlIn Q l w v) : SlAt 0 (fun i => .int .i64 (nth l i)) l.length w v := by
  obtain ⟨a, cap, rfl, h1, h2, h3, h4⟩ := h
  refine ⟨a, cap, rfl, h1, h2, h3, h4.imp id ?_⟩
  rintro ⟨b, off, rfl, _, h5, h6⟩
  exact ⟨b, off, rfl, Nat.zero_le _, h5, h6⟩
theorem SlIn.of_slAt {B : Nat} {Q : Nat → Prop} {l : List Int} {w : World} {v : Value} (h : SlAt B (fun i => .int .i64 (nth l i)) l.length w v) (hQ : ∀ b, B ≤ b → Q b) : SlIn Q l w v := by
  obtain ⟨a, cap, rfl, h1, h2, h3, h4⟩ := h
  refine ⟨a, cap, rfl, h1, h2, h3, h4.imp id ?_⟩
  rintro ⟨b, off, rfl, h7, h5, h6⟩
  exact ⟨b, off, rfl, hQ b h7, h5, h6⟩
theorem SlIn.imp {Q Q' : Nat → Prop} {l : List Int} {w w' : World} {v : Value} (h : SlIn Q l w v) (hQ : ∀ b, b < w.heap.size → Q b → Q' b) (hs : w.heap.size ≤ w'.heap.size) (hb : ∀ b, b < w.heap.size → Q b → w'.heap[b]? = w.heap[b]?) : SlIn Q' l w' v := by
  obtain ⟨a, cap, rfl, h1, h2, h3, h4⟩ := h
  refine ⟨a, cap, rfl, h1, h2, h3, h4.imp id ?_⟩
  rintro ⟨b, off, rfl, h7, h5, h6⟩
  refine ⟨b, off, rfl, hQ b h5 h7, Nat.lt_of_lt_of_le h5 hs, fun i hi => ?_⟩
  rw [← h6 i hi]
  exact World.cell?_of_block (hb b h5 h7)

/-- How many addresses were used. -/
def cntM (f : RS) : Nat := ((List.range 32).map Int.ofNat).countP fun n => (f n).isSome
theorem cntM_le (f : RS) : cntM f ≤ 32 := Nat.le_trans List.countP_le_length (by simp)
theorem countP_eq_of {α : Type} {p q : α → Bool} : ∀ {l : List α}, (∀ x ∈ l, p x = q x) → l.countP p = l.countP q
  | [], _ => rfl
  | x :: l, h => by
    rw [List.countP_cons, List.countP_cons, h x (by simp), countP_eq_of fun y hy => h y (List.mem_cons_of_mem _ hy)]
theorem cntM_old {f : RS} {n : Int} {m : Mem} (h : (f n).isSome = true) : cntM (setM f n m) = cntM f := by
  unfold cntM
  refine countP_eq_of fun x _ => ?_
  rw [isSome_set]
  split
  · rename_i e; rw [e, h]
  · rfl
theorem countP_one {p q : Int → Bool} {n : Int} (hp : p n = true) (hq : q n = false) (h : ∀ x, x ≠ n → p x = q x) : ∀ {l : List Int}, l.Nodup → n ∈ l → l.countP p = l.countP q + 1
  | [], _, hn => by simp at hn
  | x :: l, hd, hn => by
    have hd' := List.nodup_cons.1 hd
    rw [List.countP_cons, List.countP_cons]
    by_cases e : x = n
    · subst e
      rw [hp, hq, countP_eq_of fun y hy => h y fun e2 => hd'.1 (e2 ▸ hy)]
      simp
    · have hn' : n ∈ l := by
        rcases List.mem_cons.1 hn with e2 | e2
        · exact absurd e2.symm e
        · exact e2
      rw [countP_one hp hq h hd'.2 hn', h x e]
      omega
theorem cntM_new {f : RS} {n : Int} {m : Mem} (h : f n = none) (h0 : 0 ≤ n) (h1 : n < 32) : cntM (setM f n m) = cntM f + 1 := by
  unfold cntM
  refine countP_one (n := n) (by simp [setM]) (by simp [h]) (fun x hx => by rw [isSome_set, if_neg hx]) ?_ ?_
  · decide
  · exact List.mem_map.2 ⟨n.toNat, List.mem_range.2 (by omega), by simp; omega⟩

/-- Where a member's block is. -/
def ptrM (f : RS) (g : Int → Nat) (n : Int) : Option Nat := if (f n).isSome then some (g n) else none

/-- The ring in memory. -/
structure RingIs (P : Program) (k : TypeId) (S : Nat → Prop) (w : World) (rb mb : Nat) (g : Int → Nat) (f : RS) : Prop where
  dom : Dom f
  up : ∀ b, w.heap.size ≤ b → S b
  rbS : S rb
  mbS : S mb
  ne : rb ≠ mb
  rbz : rb < w.heap.size
  root : w.cell? ⟨rb, 0, none⟩ = some (.map (some mb))
  map : MapAt P k w mb (cntM f) (ptrM f g)
  memS : ∀ n m, f n = some m → S (g n) ∧ g n < w.heap.size ∧ g n ≠ rb ∧ g n ≠ mb ∧ ∀ o, w.frozen? ⟨g n, o, none⟩ = false
  mem : ∀ n m, f n = some m → w.cell? ⟨g n, 0, none⟩ = some (.bool m.live) ∧ w.cell? ⟨g n, 1, none⟩ = some (.int .u64 m.id) ∧ w.cell? ⟨g n, 2, none⟩ = some (.int .i64 m.pred) ∧
    ∃ v, w.cell? ⟨g n, 3, none⟩ = some v ∧ SlIn (fun b => S b ∧ b ≠ rb ∧ b ≠ mb ∧ ∀ j m, f j = some m → b ≠ g j) m.succ w v
  inj : ∀ i j m m', f i = some m → f j = some m' → g i = g j → i = j

section
variable {P : Program} {k : TypeId} {S : Nat → Prop} {w w' : World} {rb mb : Nat} {g : Int → Nat} {f : RS}

theorem RingIs.mbz (h : RingIs P k S w rb mb g f) : mb < w.heap.size := h.map.lt
theorem RingIs.same (h : RingIs P k S w rb mb g f) {S' : Nat → Prop} (hs : w.heap.size ≤ w'.heap.size) (hb : ∀ b, b < w.heap.size → S b → w'.heap[b]? = w.heap[b]?)
    (hS : ∀ b, b < w.heap.size → S b → S' b) (hu : ∀ b, w'.heap.size ≤ b → S' b) : RingIs P k S' w' rb mb g f where
  dom := h.dom
  up := hu
  rbS := hS _ h.rbz h.rbS
  mbS := hS _ h.mbz h.mbS
  ne := h.ne
  rbz := Nat.lt_of_lt_of_le h.rbz hs
  root := (World.cell?_of_block (hb _ h.rbz h.rbS)).trans h.root
  map := h.map.block (hb _ h.mbz h.mbS)
  memS := fun n m e => by
    obtain ⟨h1, h2, h3, h4, h5⟩ := h.memS n m e
    exact ⟨hS _ h2 h1, Nat.lt_of_lt_of_le h2 hs, h3, h4, fun o => (World.frozen?_of_block (hb _ h2 h1)).trans (h5 o)⟩
  mem := fun n m e => by
    obtain ⟨h1, h2, _⟩ := h.memS n m e
    obtain ⟨c0, c1, c2, v, c3, hv⟩ := h.mem n m e
    refine ⟨(World.cell?_of_block (hb _ h2 h1)).trans c0, (World.cell?_of_block (hb _ h2 h1)).trans c1, (World.cell?_of_block (hb _ h2 h1)).trans c2, v, (World.cell?_of_block (hb _ h2 h1)).trans c3, hv.imp (fun b hb' hq => ?_) hs (fun b hb' hq => hb b hb' hq.1)⟩
    exact ⟨hS b hb' hq.1, hq.2⟩
  inj := h.inj
theorem RingIs.below (h : RingIs P k S w rb mb g f) (hb : Below w.heap.size w w') : RingIs P k S w' rb mb g f :=
  h.same hb.size (fun b hb' _ => hb.block b hb') (fun _ _ h => h) fun b hb' => h.up b (Nat.le_trans hb.size hb')
/-- A ring of whose blocks none is among those that turned. -/
theorem RingIs.aside {T : Nat → Prop} (h : RingIs P k S w rb mb g f) (hk : Kept T w w') (hT : ∀ b, b < w.heap.size → S b → ¬ T b) : RingIs P k (fun b => (S b ∧ b < w.heap.size) ∨ w'.heap.size ≤ b) w' rb mb g f :=
  h.same hk.size (fun b hb' hS => hk.block b hb' (hT b hb' hS)) (fun b hb' hS => Or.inl ⟨hS, hb'⟩) fun b hb' => Or.inr hb'
/-- One member's block was written into. -/
theorem RingIs.write (h : RingIs P k S w rb mb g f) {n : Int} {m m' : Mem} (hn : f n = some m) (hs : w'.heap.size = w.heap.size) (hb : ∀ b, b ≠ g n → w'.heap[b]? = w.heap[b]?) (hfz : ∀ o, w'.frozen? ⟨g n, o, none⟩ = false)
    (hd : Dom (setM f n m')) {v : Value} (c0 : w'.cell? ⟨g n, 0, none⟩ = some (.bool m'.live)) (c1 : w'.cell? ⟨g n, 1, none⟩ = some (.int .u64 m'.id)) (c2 : w'.cell? ⟨g n, 2, none⟩ = some (.int .i64 m'.pred)) (c3 : w'.cell? ⟨g n, 3, none⟩ = some v)
    (hv : SlIn (fun b => S b ∧ b ≠ rb ∧ b ≠ mb ∧ ∀ j m, f j = some m → b ≠ g j) m'.succ w v) : RingIs P k S w' rb mb g (setM f n m') := by
  obtain ⟨s1, s2, s3, s4, s5⟩ := h.memS n m hn
  have hiff : ∀ j mj, setM f n m' j = some mj → ∃ mj', f j = some mj' := fun j mj e => by
    by_cases ej : j = n
    · subst ej; exact ⟨m, hn⟩
    · rw [setM_ne f m' ej] at e; exact ⟨mj, e⟩
  have hptr : ptrM (setM f n m') g = ptrM f g := funext fun j => by
    unfold ptrM
    rw [isSome_set]
    split
    · rename_i e; rw [e, hn]; simp
    · rfl
  have hq : ∀ (l : List Int) (v : Value), SlIn (fun b => S b ∧ b ≠ rb ∧ b ≠ mb ∧ ∀ j m, f j = some m → b ≠ g j) l w v → SlIn (fun b => S b ∧ b ≠ rb ∧ b ≠ mb ∧ ∀ j m, setM f n m' j = some m → b ≠ g j) l w' v := fun l v hv =>
    hv.imp (fun b _ hq => ⟨hq.1, hq.2.1, hq.2.2.1, fun j mj e => by obtain ⟨mj', e'⟩ := hiff j mj e; exact hq.2.2.2 j mj' e'⟩) (by omega) (fun b _ hq => hb b (hq.2.2.2 n m hn))
  exact {
    dom := hd
    up := fun b hb' => h.up b (by omega)
    rbS := h.rbS
    mbS := h.mbS
    ne := h.ne
    rbz := by have := h.rbz; omega
    root := (World.cell?_of_block (hb _ s3.symm)).trans h.root
    map := by rw [cntM_old (by rw [hn]; rfl), hptr]; exact h.map.block (hb _ s4.symm)
    memS := fun j mj e => by
      obtain ⟨mj', e'⟩ := hiff j mj e
      obtain ⟨h1, h2, h3, h4, h5⟩ := h.memS j mj' e'
      refine ⟨h1, by omega, h3, h4, fun o => ?_⟩
      by_cases ej : g j = g n
      · rw [ej]; exact hfz o
      · exact (World.frozen?_of_block (hb _ ej)).trans (h5 o)
    mem := fun j mj e => by
      by_cases ej : j = n
      · subst ej
        rw [setM_same] at e
        cases e
        exact ⟨c0, c1, c2, v, c3, hq _ _ hv⟩
      · rw [setM_ne f m' ej] at e
        obtain ⟨d0, d1, d2, u, d3, hu⟩ := h.mem j mj e
        have hne : g j ≠ g n := fun e2 => ej (h.inj j n mj m e hn e2)
        exact ⟨(World.cell?_of_block (hb _ hne)).trans d0, (World.cell?_of_block (hb _ hne)).trans d1, (World.cell?_of_block (hb _ hne)).trans d2, u, (World.cell?_of_block (hb _ hne)).trans d3, hq _ _ hu⟩
    inj := fun i j mi mj ei ej e => by
      obtain ⟨mi', ei'⟩ := hiff i mi ei
      obtain ⟨mj', ej'⟩ := hiff j mj ej
      exact h.inj i j mi' mj' ei' ej' e }
/-- A member more. -/
theorem RingIs.add (h : RingIs P k S w rb mb g f) {n : Int} {m : Mem} {b : Nat} (hn : f n = none) (hs : w.heap.size ≤ w'.heap.size) (hbn : w.heap.size ≤ b) (hbw : b < w'.heap.size) (hb : ∀ c, c < w.heap.size → c ≠ mb → w'.heap[c]? = w.heap[c]?)
    (hd : Dom (setM f n m)) (hfz : ∀ o, w'.frozen? ⟨b, o, none⟩ = false) (hmap : MapAt P k w' mb (cntM f + 1) (setF (ptrM f g) n b))
    {v : Value} (c0 : w'.cell? ⟨b, 0, none⟩ = some (.bool m.live)) (c1 : w'.cell? ⟨b, 1, none⟩ = some (.int .u64 m.id)) (c2 : w'.cell? ⟨b, 2, none⟩ = some (.int .i64 m.pred)) (c3 : w'.cell? ⟨b, 3, none⟩ = some v)
    (hv : SlIn (fun c => S c ∧ c ≠ rb ∧ c ≠ mb ∧ c ≠ b ∧ ∀ j m, f j = some m → c ≠ g j) m.succ w' v) : RingIs P k S w' rb mb (fun j => if j = n then b else g j) (setM f n m) := by
  have h01 := hd n m (setM_same f n m)
  have hold : ∀ j mj, f j = some mj → j ≠ n := fun j mj e e2 => by rw [e2, hn] at e; cases e
  have hq : ∀ c, (∀ j m, f j = some m → c ≠ g j) → c ≠ b → ∀ j mj, setM f n m j = some mj → c ≠ (if j = n then b else g j) := fun c h1 h2 j mj e => by
    split
    · exact h2
    · rename_i ej; rw [setM_ne f m ej] at e; exact h1 j mj e
  exact {
    dom := hd
    up := fun c hc => h.up c (by omega)
    rbS := h.rbS
    mbS := h.mbS
    ne := h.ne
    rbz := by have := h.rbz; omega
    root := (World.cell?_of_block (hb _ h.rbz h.ne)).trans h.root
    map := by
      rw [cntM_new hn h01.1 h01.2.1]
      have : ptrM (setM f n m) (fun j => if j = n then b else g j) = setF (ptrM f g) n b := funext fun j => by
        unfold ptrM setF
        simp only [isSome_set]
        by_cases ej : j = n
        · simp [ej]
        · simp [ej]
      rw [this]; exact hmap
    memS := fun j mj e => by
      by_cases ej : j = n
      · rw [if_pos ej]
        exact ⟨h.up b hbn, hbw, by have := h.rbz; omega, by have := h.mbz; omega, hfz⟩
      · rw [if_neg ej]
        rw [setM_ne f m ej] at e
        obtain ⟨h1, h2, h3, h4, h5⟩ := h.memS j mj e
        exact ⟨h1, by omega, h3, h4, fun o => (World.frozen?_of_block (hb _ h2 h4)).trans (h5 o)⟩
    mem := fun j mj e => by
      by_cases ej : j = n
      · subst ej
        rw [setM_same] at e
        cases e
        simp only [if_true]
        refine ⟨c0, c1, c2, v, c3, hv.imp (fun c _ hc => ⟨hc.1, hc.2.1, hc.2.2.1, hq c hc.2.2.2.2 hc.2.2.2.1⟩) (Nat.le_refl _) (fun _ _ _ => rfl)⟩
      · rw [setM_ne f m ej] at e
        simp only [if_neg ej]
        obtain ⟨_, h2, _, h4, _⟩ := h.memS j mj e
        obtain ⟨d0, d1, d2, u, d3, hu⟩ := h.mem j mj e
        have hbj := hb _ h2 h4
        exact ⟨(World.cell?_of_block hbj).trans d0, (World.cell?_of_block hbj).trans d1, (World.cell?_of_block hbj).trans d2, u, (World.cell?_of_block hbj).trans d3,
          hu.imp (fun c hc hcq => ⟨hcq.1, hcq.2.1, hcq.2.2.1, hq c hcq.2.2.2 (by omega)⟩) hs (fun c hc hcq => hb c hc hcq.2.2.1)⟩
    inj := fun i j mi mj ei ej e => by
      by_cases e1 : i = n
      · by_cases e2 : j = n
        · rw [e1, e2]
        · rw [setM_ne f m e2] at ej
          have := h.memS j mj ej
          simp only [if_pos e1, if_neg e2] at e
          omega
      · rw [setM_ne f m e1] at ei
        have := h.memS i mi ei
        by_cases e2 : j = n
        · simp only [if_neg e1, if_pos e2] at e
          omega
        · rw [setM_ne f m e2] at ej
          simp only [if_neg e1, if_neg e2] at e
          exact h.inj i j mi mj ei ej e }
/-- 'r.m[n]'. -/
theorem RingIs.look (h : RingIs P k S w rb mb g f) {t e : TypeId} (K : Keyed P k) (hk : P.underlying k = some (.int .i64)) (ht : P.underlying t = some (.map k e))
    (hz : (zeroValue e).run P w = .ok (.pointer none) w) (i : Int) (hi : okInt i) : (Instr.lookup t (.map (some mb)) (.int .i64 i) false).run P w = .ok (ptrV (ptrM f g i)) w := h.map.look K hk ht hz i hi
end
end Go.Proofs.YtahiahjhpakeiaaGreatDoor
namespace Go.Proofs.YtahiahjhpakeiaaGreatDoor
open Go
set_option linter.unusedVariables false
set_option linter.unusedSimpArgs false

section
variable {P : Program} {ops : Array Oper} {md : Region.Mode} {C : World → Prop}

def wpAnyH (P : Program) (md : Region.Mode) (ops : Array Oper) (C : World → Prop) (n : Nat) (L : Array Bool → Act → Prop) : Nat → Array Bool → Act → Prop
  | 0, listed, a => L listed a
  | f + 1, listed, a =>
    Region.ready md ops listed ≠ [] ∧ ∀ i ∈ Region.ready md ops listed, i < n ∧ qOp P ops C i (wpAnyH P md ops C n L f (listed.setIfInBounds i true)) a

theorem wpAny_of_headH {n g : Nat} {L : Array Bool → Act → Prop} {Q' : Exit → Act → World → Prop} (hL : ∀ listed a w, C w → L listed a → wpAny P md ops Q' g listed a w) :
    ∀ (f : Nat) (listed : Array Bool) (a : Act) (w : World), C w → wpAnyH P md ops C n L f listed a → wpAny P md ops Q' (f + g) listed a w
  | 0, listed, a, w, hw, h => by rw [Nat.zero_add]; exact hL _ _ _ hw h
  | f + 1, listed, a, w, hw, h => by
    rw [show f + 1 + g = (f + g) + 1 by omega]
    exact ⟨fun h0 => absurd h0 h.1, fun i hi => wpOp_of_qOp hw (fun a' w' hw' h' => wpAny_of_headH hL f _ a' w' hw' h') (h.2 i hi).2⟩

theorem wpAnyH_first {n i : Nat} {oi : Oper} {v : Value} {L : Array Bool → Act → Prop} (hi : ops[i]? = some oi) (hsel : ∀ (j : Nat) (o : Oper) cs b, ops[j]? = some o → o.op ≠ .select cs b)
    (hs : Region.sinkB md ops n = true) (hc : Region.chainB md ops n = true) (hn : n < ops.size) (hin : i < n)
    (hdone : ∀ listed a, L listed a → ∀ j ∈ Region.ready md ops listed, n ≤ j) :
    ∀ (f : Nat) (listed : Array Bool) (a : Act), HeadInv md ops n listed →
      (∀ j oj, ops[j]? = some oj → j ≠ i → listed.getD j true = false → (∀ e ∈ oj.after, Region.binds md e = true → e.on ≠ i) → oi.apart ops oj = true) →
      i ∈ Region.ready md ops listed → YieldsIn P ops C oi v a →
      wpAnyH P md ops C n L f (listed.setIfInBounds i true) (a.put oi.dst v) → wpAnyH P md ops C n L (f + 1) listed a := by
  intro f
  induction f with
  | zero =>
    intro listed a inv _ hr hy H
    have hun := (mem_ready.1 hr).1
    refine ⟨fun h => (by rw [h] at hr; cases hr), fun j hj => ?_⟩
    have hjn : j < n := by
      rcases Nat.lt_or_ge j n with h | h
      · exact h
      · exact absurd hj (tail_waits hs hc hn inv _ i rfl hin hun j h)
    refine ⟨hjn, ?_⟩
    by_cases hji : j = i
    · subst hji; exact hy.qOp hi H
    · have := hdone _ _ H j (ready_mono hj hji)
      omega
  | succ f ih =>
    intro listed a inv hfree hr hy H
    have hun := (mem_ready.1 hr).1
    refine ⟨fun h => (by rw [h] at hr; cases hr), fun j hj => ?_⟩
    have hjn : j < n := by
      rcases Nat.lt_or_ge j n with h | h
      · exact h
      · exact absurd hj (tail_waits hs hc hn inv _ i rfl hin hun j h)
    refine ⟨hjn, ?_⟩
    by_cases hji : j = i
    · subst hji; exact hy.qOp hi H
    · have h1 := (H.2 j (ready_mono hj hji)).2
      obtain ⟨hjun, oj, hoj, hall⟩ := mem_ready.1 hj
      have hnot : ∀ e ∈ oj.after, Region.binds md e = true → e.on ≠ i := fun e he hb heq => by
        have h1 := hall e he hb
        rw [heq, getD_both hun] at h1
        cases h1
      have h2 := qOp_put hoj (hfree j oj hoj hji hjun hnot) (fun cs b => hsel i oi cs b hi) (fun cs b => hsel j oj cs b hoj) hy h1
      have hfree' : ∀ k ok, ops[k]? = some ok → k ≠ i → (listed.setIfInBounds j true).getD k true = false →
          (∀ e ∈ ok.after, Region.binds md e = true → e.on ≠ i) → oi.apart ops ok = true := fun k ok hk hki hun hno => by
        refine hfree k ok hk hki ?_ hno
        by_cases hjk : j = k
        · subst hjk; exact hjun
        · rw [getD_set_ne true hjk] at hun; exact hun
      refine qOp_mono (fun a' h3 => ih (listed.setIfInBounds j true) a' (inv.set hj hjn) hfree' (ready_mono hr (Ne.symm hji)) h3.1 ?_) h2
      rw [Array.setIfInBounds_comm _ _ hji]
      exact h3.2

theorem wpAnyH_lex {n g : Nat} {Lq : Act → Prop} (hsel : Region.noSelect ops = true) (hs : Region.sinkB md ops n = true) (hc : Region.chainB md ops n = true) (hn : n < ops.size) :
    ∀ (l : List Oper) (k : Nat) (listed : Array Bool) (a : Act), (∀ j, j < l.length → l[j]? = ops[k + j]?) → k + l.length = n → HeadInv md ops n listed →
    Region.lexHead md ops g l.length k listed = true → wpQuiet P ops C Lq l a →
    wpAnyH P md ops C n (fun listed' a' => Region.seqB md ops g n listed' = true ∧ Lq a') l.length listed a
  | [], k, listed, a, _, hk, _, hB, h => by
    have : k = n := by simpa using hk
    subst this
    exact ⟨by simpa [Region.lexHead] using hB, h⟩
  | o :: l, k, listed, a, hl, hk, inv, hB, h => by
    have h0 : ops[k]? = some o := by simpa using (hl 0 (by simp)).symm
    simp only [List.length_cons, Region.lexHead, Bool.and_eq_true] at hB
    obtain ⟨⟨hr, hf⟩, hB'⟩ := hB
    have hkn : k < n := by simp only [List.length_cons] at hk; omega
    have hr' : k ∈ Region.ready md ops listed := by simpa using hr
    have hst : qOp P ops C k (wpQuiet P ops C Lq l) a := by unfold qOp; simp only [h0]; exact h
    obtain ⟨v, hy, hK⟩ := yieldsIn_of_qOp h0 hst
    exact wpAnyH_first h0 (Region.noSelect_spec hsel) hs hc hn hkn (fun listed' a' hL => seqB_ready hL.1) l.length listed a inv (Region.free_spec h0 hf) hr' hy
      (wpAnyH_lex hsel hs hc hn l (k + 1) _ _ (fun j hj => by have := hl (j + 1) (by simp; omega); simpa [Nat.add_assoc, Nat.add_comm 1 j] using this) (by simp only [List.length_cons] at hk; omega) (inv.set hr' hkn) hB' hK)

theorem wp_region_quiet_tail {id : Nat} {Q : Exit → Act → World → Prop} {a : Act} {w : World} {l : List Oper} (n : Nat) (hm : P.follows .mixedOrders = true) (hB : Region.lexTailB .any l.toArray n = true) (hC : C { w with drawn := w.drawn + 1 })
    (h : wpQuiet P l.toArray C (fun a' => ∀ w', C w' → wpList P l.toArray Q (l.drop n) a' w') (l.take n) a) : (Code.region id l.toArray true).wp P Q a w := by
  simp only [Region.lexTailB, Bool.and_eq_true, decide_eq_true_eq] at hB
  obtain ⟨⟨⟨⟨hsel, hn⟩, hs⟩, hc⟩, hlex⟩ := hB
  have hn' : n < l.length := by simpa using hn
  have htl : (l.take n).length = n := by simp; omega
  have hdl : (l.drop n).length = l.toArray.size - n := by simp
  have inv0 : HeadInv .any l.toArray n (Array.replicate l.toArray.size false) :=
    ⟨by simp, fun j oj _ hl => (by rw [getD_replicate_false] at hl; cases hl), fun t _ ht => getD_in (by simpa using ht) (getD_replicate_false _ _)⟩
  have H := wpAnyH_lex (C := C) (md := .any) (g := l.toArray.size - n) hsel hs hc hn (l.take n) 0 _ a (fun j hj => by
    have hj' : j < n := by rw [htl] at hj; exact hj
    simp [hj']) (by simpa using htl) inv0 (by rw [htl]; exact hlex) h
  refine wp_region_any hm ?_
  have := wpAny_of_headH (Q' := Q) (g := l.toArray.size - n) (fun listed a' w' hw' hL => by
    have := wpAny_of_seq (P := P) (md := .any) (Q' := Q) (l.drop n) n listed a' w' (fun j => by simp) (by rw [hdl]; exact hL.1) (hL.2 w' hw')
    rwa [hdl] at this) _ _ _ _ hC H
  rw [htl] at this
  have e : n + (l.toArray.size - n) = l.toArray.size := by simp; omega
  rwa [e] at this

theorem wp_region_calm_tail {id : Nat} {Q : Exit → Act → World → Prop} {a : Act} {w : World} {l : List Oper} (n : Nat) (hm : P.follows .mixedOrders = true) (hB : Region.lexTailB .any l.toArray n = true)
    (h : wpQuiet P l.toArray (fun w' => ∃ x : Later w, w' = x.world) (fun a' => ∀ w', (∃ x : Later w, w' = x.world) → wpList P l.toArray Q (l.drop n) a' w') (l.take n) a) : (Code.region id l.toArray true).wp P Q a w :=
  wp_region_quiet_tail (C := fun w' => ∃ x : Later w, w' = x.world) n hm hB ⟨⟨{ w with drawn := w.drawn + 1 }, (RowKit.Below.refl _ _).drew⟩, rfl⟩ h
end
end Go.Proofs.YtahiahjhpakeiaaGreatDoor
namespace Go.Proofs.YtahiahjhpakeiaaGreatDoor
open Go.RowKit Go.Sort Go.Lib
set_option linter.unusedVariables false
set_option linter.unusedSimpArgs false

/-- Some numbers, rising, each once. -/
def setI (l : List Int) : List Int := compact (l.mergeSort fun x y => decide (x ≤ y))

/-- Rising. -/
def Up (l : List Int) : Prop := l.Pairwise (· < ·)
theorem up_uniq : ∀ {a b : List Int}, Up a → Up b → (∀ x, x ∈ a ↔ x ∈ b) → a = b
  | [], [], _, _, _ => rfl
  | [], y :: b, _, _, h => by have := (h y).2 (by simp); simp at this
  | x :: a, [], _, _, h => by have := (h x).1 (by simp); simp at this
  | x :: a, y :: b, ha, hb, h => by
    have ha' := List.pairwise_cons.1 ha
    have hb' := List.pairwise_cons.1 hb
    have hxy : x = y := by
      have h1 := (h x).1 (by simp)
      have h2 := (h y).2 (by simp)
      rcases List.mem_cons.1 h1 with e | e
      · exact e
      · rcases List.mem_cons.1 h2 with e2 | e2
        · exact e2.symm
        · have := ha'.1 y e2; have := hb'.1 x e; omega
    subst hxy
    rw [up_uniq ha'.2 hb'.2 fun z => ?_]
    constructor
    · intro hz
      have := (h z).1 (List.mem_cons_of_mem _ hz)
      rcases List.mem_cons.1 this with e | e
      · have := ha'.1 z hz; omega
      · exact e
    · intro hz
      have := (h z).2 (List.mem_cons_of_mem _ hz)
      rcases List.mem_cons.1 this with e | e
      · have := hb'.1 z hz; omega
      · exact e
theorem up_sub_len : ∀ {s a : List Int}, Up s → Up a → (∀ x ∈ a, x ∈ s) → a.length ≤ s.length
  | [], [], _, _, _ => Nat.le_refl _
  | [], y :: a, _, _, h => by have := h y (by simp); simp at this
  | z :: s, [], _, _, _ => Nat.zero_le _
  | z :: s, y :: a, hs, ha, h => by
    have hs' := List.pairwise_cons.1 hs
    have ha' := List.pairwise_cons.1 ha
    by_cases e : y = z
    · subst e
      have := up_sub_len hs'.2 ha'.2 fun x hx => by
        rcases List.mem_cons.1 (h x (List.mem_cons_of_mem _ hx)) with e | e
        · have := ha'.1 x hx; omega
        · exact e
      simp; omega
    · have hy : y ∈ s := by
        rcases List.mem_cons.1 (h y (by simp)) with e2 | e2
        · exact absurd e2 e
        · exact e2
      have hzy := hs'.1 y hy
      have := up_sub_len hs'.2 ha fun x hx => by
        rcases List.mem_cons.1 (h x hx) with e2 | e2
        · rcases List.mem_cons.1 hx with e3 | e3
          · omega
          · have := ha'.1 x e3; omega
        · exact e2
      simp at this ⊢; omega

theorem getD_arr (l : List Int) (j : Nat) : l.toArray[j]! = nth l j := by
  unfold nth
  by_cases h : j < l.length
  · rw [getElem!_pos _ j (by simpa using h)]; simp [h]
  · rw [getElem!_neg _ j (by simpa using h)]; simp [h]
theorem compact_up {l : List Int} (hs : l.Pairwise (· ≤ ·)) : ∀ m, m ≤ l.length →
    Up (compactUpTo l.toArray m) ∧ (∀ x, x ∈ compactUpTo l.toArray m ↔ ∃ j, j < m ∧ nth l j = x) ∧ (∀ x ∈ compactUpTo l.toArray m, 0 < m ∧ x ≤ nth l (m - 1)) := by
  have hm : ∀ i j, i ≤ j → j < l.length → nth l i ≤ nth l j := fun i j hij hj => by
    rw [nth_eq hj, nth_eq (by omega)]
    rcases Nat.eq_or_lt_of_le hij with rfl | h
    · exact Int.le_refl _
    · exact List.pairwise_iff_getElem.1 hs i j (by omega) hj h
  intro m
  induction m with
  | zero => intro _; simp [compactUpTo, Up]
  | succ m ih =>
    intro hl
    obtain ⟨h1, h2, h3⟩ := ih (by omega)
    rw [compactUpTo_succ]
    by_cases hk : keeps l.toArray m = true
    · rw [if_pos hk, getD_arr]
      have hbig : ∀ x ∈ compactUpTo l.toArray m, x < nth l m := fun x hx => by
        obtain ⟨h0, hx'⟩ := h3 x hx
        have : nth l m ≠ nth l (m - 1) := by
          simp only [keeps, decide_eq_true_eq] at hk
          rcases hk with e | e
          · omega
          · simpa only [getD_arr] using e
        have := hm (m - 1) m (by omega) (by omega)
        omega
      refine ⟨?_, fun x => ?_, fun x hx => ?_⟩
      · exact List.pairwise_append.2 ⟨h1, by simp, fun x hx y hy => by simp at hy; subst hy; exact hbig x hx⟩
      · rw [List.mem_append, h2]
        constructor
        · rintro (⟨j, hj, e⟩ | e)
          · exact ⟨j, by omega, e⟩
          · simp at e; exact ⟨m, by omega, e.symm⟩
        · rintro ⟨j, hj, e⟩
          by_cases hjm : j = m
          · subst hjm; right; simp [e]
          · left; exact ⟨j, by omega, e⟩
      · refine ⟨by omega, ?_⟩
        rw [Nat.add_sub_cancel]
        rcases List.mem_append.1 hx with h | h
        · exact Int.le_of_lt (hbig x h)
        · simp at h; omega
    · rw [if_neg hk, List.append_nil]
      have hm0 : m ≠ 0 ∧ nth l m = nth l (m - 1) := by
        simp only [keeps, decide_eq_true_eq, not_or, Decidable.not_not, ne_eq] at hk
        simpa only [getD_arr] using hk
      refine ⟨h1, fun x => ?_, fun x hx => ⟨by omega, ?_⟩⟩
      · rw [h2]
        constructor
        · rintro ⟨j, hj, e⟩; exact ⟨j, by omega, e⟩
        · rintro ⟨j, hj, e⟩
          by_cases hjm : j = m
          · subst hjm; exact ⟨j - 1, by omega, by rw [← hm0.2]; exact e⟩
          · exact ⟨j, by omega, e⟩
      · rw [Nat.add_sub_cancel, hm0.2]; exact (h3 x hx).2
theorem nth_mem {l : List Int} {x : Int} : x ∈ l ↔ ∃ j, j < l.length ∧ nth l j = x := by
  constructor
  · intro h; obtain ⟨j, hj, e⟩ := List.getElem_of_mem h; exact ⟨j, hj, by rw [nth_eq hj]; exact e⟩
  · rintro ⟨j, hj, e⟩; rw [nth_eq hj] at e; rw [← e]; exact List.getElem_mem hj
theorem setI_facts (l : List Int) : Up (setI l) ∧ ∀ x, x ∈ setI l ↔ x ∈ l := by
  have hs : (l.mergeSort fun x y => decide (x ≤ y)).Pairwise (· ≤ ·) := by
    have := List.pairwise_mergeSort (le := fun x y : Int => decide (x ≤ y)) (by intro a b c; simp; omega) (by intro a b; simp; omega) l
    exact this.imp (by intro a b h; simpa using h)
  obtain ⟨h1, h2, _⟩ := compact_up hs _ (Nat.le_refl _)
  refine ⟨h1, fun x => ?_⟩
  show x ∈ compactUpTo _ _ ↔ _
  rw [h2, ← nth_mem]
  exact List.mem_mergeSort
theorem setI_up (l : List Int) : Up (setI l) := (setI_facts l).1
theorem mem_setI {l : List Int} {x : Int} : x ∈ setI l ↔ x ∈ l := (setI_facts l).2 x
theorem setI_len (l : List Int) : (setI l).length ≤ l.length := by
  unfold setI compact compactUpTo
  rw [List.length_map]
  refine Nat.le_trans (List.length_filter_le _ _) ?_
  simp
theorem setI_of_up {l : List Int} (h : Up l) : setI l = l := up_uniq (setI_up l) h fun x => mem_setI
theorem up_nth {l : List Int} (h : Up l) {i j : Nat} (hij : i < j) (hj : j < l.length) : nth l i < nth l j := by
  rw [nth_eq hj, nth_eq (by omega)]; exact List.pairwise_iff_getElem.1 h i j (by omega) hj hij

/-! ### Slices, opened -/
theorem SlAt.slice {B : Nat} {g : Nat → Value} {n : Nat} {w : World} {v : Value} (h : SlAt B g n w v) : ∃ a cap, v = .slice a n cap ∧ n ≤ cap ∧ cap ≤ maxLen := by
  obtain ⟨a, cap, rfl, h1, h2, _⟩ := h; exact ⟨a, cap, rfl, h1, h2⟩
theorem SlAt.at {B : Nat} {g : Nat → Value} {n : Nat} {w : World} {a : Option Addr} {cap : Nat} (h : SlAt B g n w (.slice a n cap)) (k : Nat) (hk : k < n) (wr : World) (hB : Below w.heap.size w wr) :
    ∃ b off : Nat, a = some ⟨b, off, none⟩ ∧ B ≤ b ∧ b < wr.heap.size ∧ wr.cell? ⟨b, off + k, none⟩ = some (g k) := by
  obtain ⟨a', cap', e, _, _, _, h3⟩ := h
  injection e with e1 e2 e3
  subst e1
  obtain ⟨b, off, rfl, h4, h5, h6⟩ := h3.resolve_left (by omega)
  exact ⟨b, off, rfl, h4, Nat.lt_of_lt_of_le h5 hB.size, (hB.cell (p := ⟨b, off + k, none⟩) h5).trans (h6 k hk)⟩

/-! ### Worlds -/
theorem holds_of {enc : Int → Value} {w : World} {b off : Nat} {l : List Int} (h : ∀ j, j < l.length → w.cell? ⟨b, off + j, none⟩ = some (enc (nth l j)) ∧ w.frozen? ⟨b, off + j, none⟩ = false) : Holds enc w b off l.toArray := by
  intro j hj
  rw [getD_arr]
  exact h j (by simpa using hj)
theorem below_putRow {enc : Int → Value} (w : World) (b off : Nat) (d : Array Int) {B : Nat} (h : B ≤ b) : Go.RowKit.Below B w (putRow enc w b off d) :=
  ⟨rfl, rfl, rfl, by simp, fun k hk => by
    show (w.heap.modify b _)[k]? = _
    rw [Array.getElem?_modify, if_neg (by omega)]⟩
theorem below_grow (w : World) (os : Array Obj) {B : Nat} (h : B ≤ w.heap.size) : Go.RowKit.Below B w (grow w os) :=
  ⟨rfl, rfl, rfl, by simp, fun k hk => heap_grow_old w os (by omega)⟩
theorem below_ahead (w : World) (n : Nat) {B : Nat} : Go.RowKit.Below B w (Sort.ahead w n) := ⟨rfl, rfl, rfl, Nat.le_refl _, fun _ _ => rfl⟩
end Go.Proofs.YtahiahjhpakeiaaGreatDoor
namespace Go.Proofs.YtahiahjhpakeiaaGreatDoor
open Go
set_option linter.unusedVariables false
set_option linter.unusedSimpArgs false

section
variable {P : Program} {ops : Array Oper} {md : Region.Mode} {C : World → Prop} {Q' : Exit → Act → World → Prop}

/-- Whatever order is picked, every operation ahead of number n leaves a world of the class. -/
def wpAnyC (P : Program) (md : Region.Mode) (ops : Array Oper) (C : World → Prop) (n : Nat) (Q' : Exit → Act → World → Prop) : Nat → Array Bool → Act → World → Prop
  | 0, listed, a, w => Region.ready md ops listed = [] ∧ Q' .normal a w
  | f + 1, listed, a, w =>
    (Region.ready md ops listed = [] → Q' .normal a w) ∧
    ∀ i ∈ Region.ready md ops listed, wpOp P ops Q' i (fun a' w' => (i < n → C w') ∧ wpAnyC P md ops C n Q' f (listed.setIfInBounds i true) a' w') a w
theorem wpAny_of_C {n : Nat} : ∀ (f : Nat) (listed : Array Bool) (a : Act) (w : World), wpAnyC P md ops C n Q' f listed a w → wpAny P md ops Q' f listed a w
  | 0, _, _, _, h => h
  | f + 1, listed, a, w, h => ⟨h.1, fun i hi => wpOp_mono (fun a' w' h' => wpAny_of_C f _ a' w' h'.2) (h.2 i hi)⟩

/-- In every world of the class operation 'o' leaves the world as it was and 'v' in its temporary. -/
def StillIn (P : Program) (ops : Array Oper) (C : World → Prop) (o : Oper) (v : Value) (a : Act) : Prop :=
  (Region.wanted o (yielded ops a.tmps) = true ∧ ∀ w, C w → (execOp a.eval o).run P w = .ok (.value v) w ∨ ((execOp a.eval o).run P w = .ok .skip w ∧ v = undef)) ∨
  (Region.wanted o (yielded ops a.tmps) = false ∧ v = undef)
theorem StillIn.wpOp {i : Nat} {o : Oper} {v : Value} {a : Act} {w : World} (hi : ops[i]? = some o) (hC : C w) (hy : StillIn P ops C o v a) {K : Act → World → Prop} (h : K (a.put o.dst v) w) : wpOp P ops Q' i K a w := by
  unfold Go.wpOp
  simp only [hi]
  rcases hy with ⟨hw, hv⟩ | ⟨hw, rfl⟩
  · simp only [hw, if_true]
    left
    unfold Oper.wp
    rcases hv w hC with h1 | ⟨h1, rfl⟩
    · rw [h1]; exact h
    · rw [h1]; exact h
  · simp only [hw, Bool.false_eq_true, if_false]; exact h
theorem StillIn.of_same {o : Oper} {v : Value} {a a' : Act} (hy : StillIn P ops C o v a) (he : execOp a'.eval o = execOp a.eval o)
    (hw : Region.wanted o (yielded ops a'.tmps) = Region.wanted o (yielded ops a.tmps)) : StillIn P ops C o v a' := by
  unfold StillIn at *
  rw [he, hw]
  exact hy
theorem wpOp_put_still {j : Nat} {oi oj : Oper} {v : Value} (hj : ops[j]? = some oj) (hap : oi.apart ops oj = true)
    (hsi : ∀ cs b, oi.op ≠ .select cs b) (hsj : ∀ cs b, oj.op ≠ .select cs b)
    (hQ : ∀ c a w, Q' (.panic c) (a.put oi.dst v) w → Q' (.panic c) a w) {K : Act → World → Prop} {a : Act} {w : World}
    (hy : StillIn P ops C oi v a) (h : wpOp P ops Q' j K (a.put oi.dst v) w) :
    wpOp P ops Q' j (fun a' w' => StillIn P ops C oi v a' ∧ K (a'.put oi.dst v) w') a w := by
  obtain ⟨h1, h2, h3⟩ := Oper.apart_spec hap
  have keep : ∀ (a : Act), StillIn P ops C oi v a → ∀ u, StillIn P ops C oi v (a.put oj.dst u) := fun a hy u =>
    hy.of_same (execOp_put oi hsi a oj.dst u h3) (wanted_put oi a oj.dst u h3)
  have keepD : ∀ d, StillIn P ops C oi v { a with defers := d :: a.defers } := fun d => hy.of_same rfl rfl
  unfold wpOp at *
  simp only [hj] at *
  rw [wanted_put oj a oi.dst v h1] at h
  split
  · rename_i hw
    simp only [hw, if_true] at h
    rcases h with h | ⟨hasks, hlets⟩
    case inr => exact .inr ⟨by unfold Oper.asks at *; rw [execOp_put oj hsj a oi.dst v h1] at hasks; exact hasks, hlets⟩
    refine .inl ?_
    unfold Oper.wp at *
    rw [execOp_put oj hsj a oi.dst v h1] at h
    generalize (execOp a.eval oj).run P w = r at *
    cases r with
    | ok n w' =>
      cases n <;> simp only [Oper.upon] at h ⊢
      case value u => exact ⟨keep a hy u, by rw [← Act.put_comm a v u h2]; exact h⟩
      case skip => exact ⟨keep a hy _, by rw [← Act.put_comm a v undef h2]; exact h⟩
      case defer d =>
        refine ⟨keep _ (keepD d) _, ?_⟩
        rw [← Act.put_comm _ v undef h2, ← Act.put_defers]
        exact h
      case enter f args =>
        refine Calls.mono h fun e w'' he => ?_
        cases e with
        | returned u => exact ⟨keep a hy u, by rw [← Act.put_comm a v u h2]; exact he⟩
        | panicked c => exact hQ _ _ _ he
        | outgrown => exact he
      case row row args => exact Rows.mono h fun u w'' he => ⟨keep a hy u, by rw [← Act.put_comm a v u h2]; exact he⟩
    | halt x w' =>
      cases x <;> simp only [Oper.upon] at h ⊢
      case panic u => exact hQ _ _ _ h
  · rename_i hw
    simp only [hw] at h
    exact ⟨keep a hy _, by rw [← Act.put_comm a v undef h2]; exact h⟩

/-- An operation that leaves the very world may be taken first, while no operation from number n on is ready. -/
theorem wpAnyC_first {n i : Nat} {oi : Oper} {v : Value} (hi : ops[i]? = some oi) (hsel : ∀ (j : Nat) (o : Oper) cs b, ops[j]? = some o → o.op ≠ .select cs b)
    (hs : Region.sinkB md ops n = true) (hc : Region.chainB md ops n = true) (hn : n < ops.size) (hin : i < n) (hQ : ∀ c a w, Q' (.panic c) (a.put oi.dst v) w → Q' (.panic c) a w) :
    ∀ (f : Nat) (listed : Array Bool) (a : Act) (w : World), HeadInv md ops n listed → C w →
      (∀ j oj, ops[j]? = some oj → j ≠ i → listed.getD j true = false → (∀ e ∈ oj.after, Region.binds md e = true → e.on ≠ i) → oi.apart ops oj = true) →
      i ∈ Region.ready md ops listed → StillIn P ops C oi v a →
      wpAnyC P md ops C n Q' f (listed.setIfInBounds i true) (a.put oi.dst v) w → wpAnyC P md ops C n Q' (f + 1) listed a w := by
  intro f
  induction f with
  | zero =>
    intro listed a w inv hC _ hr hy H
    have hun := (mem_ready.1 hr).1
    refine ⟨fun h => (by rw [h] at hr; cases hr), fun j hj => ?_⟩
    by_cases hji : j = i
    · subst hji; exact hy.wpOp hi hC ⟨fun _ => hC, H⟩
    · have := ready_mono hj hji
      rw [H.1] at this
      cases this
  | succ f ih =>
    intro listed a w inv hC hfree hr hy H
    have hun := (mem_ready.1 hr).1
    refine ⟨fun h => (by rw [h] at hr; cases hr), fun j hj => ?_⟩
    have hjn : j < n := by
      rcases Nat.lt_or_ge j n with h | h
      · exact h
      · exact absurd hj (tail_waits hs hc hn inv _ i rfl hin hun j h)
    by_cases hji : j = i
    · subst hji; exact hy.wpOp hi hC ⟨fun _ => hC, H⟩
    · have h1 := H.2 j (ready_mono hj hji)
      obtain ⟨hjun, oj, hoj, hall⟩ := mem_ready.1 hj
      have hnot : ∀ e ∈ oj.after, Region.binds md e = true → e.on ≠ i := fun e he hb heq => by
        have h1 := hall e he hb
        rw [heq, getD_both hun] at h1
        cases h1
      have h2 := wpOp_put_still hoj (hfree j oj hoj hji hjun hnot) (fun cs b => hsel i oi cs b hi) (fun cs b => hsel j oj cs b hoj) hQ hy h1
      have hfree' : ∀ k ok, ops[k]? = some ok → k ≠ i → (listed.setIfInBounds j true).getD k true = false →
          (∀ e ∈ ok.after, Region.binds md e = true → e.on ≠ i) → oi.apart ops ok = true := fun k ok hk hki hun hno => by
        refine hfree k ok hk hki ?_ hno
        by_cases hjk : j = k
        · subst hjk; exact hjun
        · rw [getD_set_ne true hjk] at hun; exact hun
      refine wpOp_mono (fun a' w' h3 => ⟨h3.2.1, ih (listed.setIfInBounds j true) a' w' (inv.set hj hjn) (h3.2.1 hjn) hfree' (ready_mono hr (Ne.symm hji)) h3.1 ?_⟩) h2
      rw [Array.setIfInBounds_comm _ _ hji]
      exact h3.2.2

/-- One operation, walked as a list of one. -/
theorem wpOp_of_one {k : Nat} {o : Oper} (hk : ops[k]? = some o) {R : Act → World → Prop} {a : Act} {w : World} (h : wpList P ops (fun x a w => x = .normal ∧ R a w) [o] a w) : wpOp P ops Q' k R a w := by
  unfold wpOp
  simp only [hk]
  unfold wpList at h
  split
  · rename_i hw
    simp only [hw, if_true] at h
    rcases h with h | ⟨_, a', w', h, _⟩
    · left
      unfold Oper.wp at *
      generalize (execOp a.eval o).run P w = r at *
      cases r with
      | ok n w' =>
        cases n <;> simp only [Oper.upon] at h ⊢
        case value u => exact h.2
        case skip => exact h.2
        case defer d => exact h.2
        case enter f args =>
          refine Calls.mono h fun e w'' he => ?_
          cases e with
          | returned u => exact he.2
          | panicked c => exact absurd he.1 (by simp)
          | outgrown => obtain ⟨_, _, he, _⟩ := he; exact absurd he (by simp)
        case row row args => exact Rows.mono h fun u w'' he => he.2
      | halt x w' =>
        cases x <;> simp only [Oper.upon] at h ⊢
        case panic u => exact absurd h.1 (by simp)
    · exact absurd h (by simp)
  · rename_i hw
    simp only [hw] at h
    exact h.2
/-- The last operations, in their one order; each ahead of number n leaves a world of the class. -/
def wpSeqC (P : Program) (ops : Array Oper) (C : World → Prop) (n : Nat) (Q' : Exit → Act → World → Prop) : List Oper → Nat → Act → World → Prop
  | [], _, a, w => Q' .normal a w
  | o :: l, k, a, w => if k < n then wpList P ops (fun x a' w' => x = .normal ∧ C w' ∧ wpSeqC P ops C n Q' l (k + 1) a' w') [o] a w else wpList P ops Q' (o :: l) a w
/-- One step of them, what follows behind a variable. -/
theorem wpSeqC_step {n k : Nat} {o : Oper} {l : List Oper} {a : Act} {w : World} (hk : k < n)
    (h : ∀ R : Act → World → Prop, (∀ a' w', C w' → wpSeqC P ops C n Q' l (k + 1) a' w' → R a' w') → wpList P ops (fun x a' w' => x = .normal ∧ R a' w') [o] a w) : wpSeqC P ops C n Q' (o :: l) k a w := by
  unfold wpSeqC
  rw [if_pos hk]
  exact h _ fun a' w' h1 h2 => ⟨h1, h2⟩
theorem wpSeqC_list {n k : Nat} {o : Oper} {l : List Oper} {a : Act} {w : World} (hk : ¬ k < n) (h : wpList P ops Q' (o :: l) a w) : wpSeqC P ops C n Q' (o :: l) k a w := by
  unfold wpSeqC
  rw [if_neg hk]
  exact h
theorem wpAnyC_of_list {n : Nat} : ∀ (l : List Oper) (k : Nat) (listed : Array Bool) (a : Act) (w : World), n ≤ k → (∀ j, l[j]? = ops[k + j]?) →
    Region.seqB md ops l.length k listed = true → wpList P ops Q' l a w → wpAnyC P md ops C n Q' l.length listed a w
  | [], _, _, _, _, _, _, hB, h => ⟨by simpa [Region.seqB] using hB, h⟩
  | o :: l, k, listed, a, w, hn, hl, hB, h => by
    have h0 : ops[k]? = some o := by simpa using (hl 0).symm
    simp only [List.length_cons, Region.seqB, Bool.and_eq_true, decide_eq_true_eq] at hB
    refine ⟨fun h1 => (by rw [hB.1] at h1; cases h1), fun i hi => ?_⟩
    rw [hB.1] at hi
    have hik : i = k := by simpa using hi
    subst hik
    have hw : wpOp P ops Q' i (wpList P ops Q' l) a w := by unfold wpOp; simp only [h0]; exact h
    exact wpOp_mono (fun a' w' h' => ⟨fun hlt => absurd hlt (by omega), wpAnyC_of_list l (i + 1) _ a' w' (by omega) (fun j => by have := hl (j + 1); simpa [Nat.add_assoc, Nat.add_comm 1 j] using this) hB.2 h'⟩) hw
theorem wpAnyC_of_seq {n : Nat} : ∀ (l : List Oper) (k : Nat) (listed : Array Bool) (a : Act) (w : World), (∀ j, l[j]? = ops[k + j]?) →
    Region.seqB md ops l.length k listed = true → wpSeqC P ops C n Q' l k a w → wpAnyC P md ops C n Q' l.length listed a w
  | [], _, _, _, _, _, hB, h => ⟨by simpa [Region.seqB] using hB, h⟩
  | o :: l, k, listed, a, w, hl, hB, h => by
    by_cases hkn : k < n
    · have h0 : ops[k]? = some o := by simpa using (hl 0).symm
      simp only [List.length_cons, Region.seqB, Bool.and_eq_true, decide_eq_true_eq] at hB
      unfold wpSeqC at h
      rw [if_pos hkn] at h
      refine ⟨fun h1 => (by rw [hB.1] at h1; cases h1), fun i hi => ?_⟩
      rw [hB.1] at hi
      have hik : i = k := by simpa using hi
      subst hik
      exact wpOp_mono (fun a' w' h' => ⟨fun _ => h'.1, wpAnyC_of_seq l (i + 1) _ a' w' (fun j => by have := hl (j + 1); simpa [Nat.add_assoc, Nat.add_comm 1 j] using this) hB.2 h'.2⟩) (wpOp_of_one h0 h)
    · unfold wpSeqC at h
      rw [if_neg hkn] at h
      exact wpAnyC_of_list (o :: l) k listed a w (by omega) hl hB h

/-- What is asked of an operation that leaves the very world: one value. -/
def tameUpon (w : World) (v : Value) : Result Next → Prop
  | .ok (.value u) w' => w' = w ∧ u = v
  | .ok .skip w' => w' = w ∧ v = undef
  | _ => False
def tameAt (P : Program) (o : Oper) (a : Act) (w : World) (v : Value) : Prop := tameUpon w v ((execOp a.eval o).run P w)
def tame (P : Program) (o : Oper) (a : Act) (C : World → Prop) (next : Act → Prop) : Prop := ∃ v, (∀ w, C w → tameAt P o a w v) ∧ next (a.put o.dst v)
def wpTame (P : Program) (ops : Array Oper) (C : World → Prop) (Q : Act → Prop) : List Oper → Act → Prop
  | [], a => Q a
  | o :: rest, a => if Region.wanted o (yielded ops a.tmps) then tame P o a C (wpTame P ops C Q rest) else wpTame P ops C Q rest (a.put o.dst undef)
theorem wpTame_nil {Q : Act → Prop} {a : Act} (h : Q a) : wpTame P ops C Q [] a := h
theorem wpTame_step {Q : Act → Prop} {a : Act} {o : Oper} {rest : List Oper}
    (h : ∀ K : Act → Prop, (∀ a, wpTame P ops C Q rest a → K a) → if Region.wanted o (yielded ops a.tmps) then tame P o a C K else K (a.put o.dst undef)) : wpTame P ops C Q (o :: rest) a := h _ fun _ h => h
theorem stillIn_of_tame {Q : Act → Prop} {o : Oper} {rest : List Oper} {a : Act} (h : wpTame P ops C Q (o :: rest) a) : ∃ v, StillIn P ops C o v a ∧ wpTame P ops C Q rest (a.put o.dst v) := by
  unfold wpTame at h
  split at h
  · rename_i hw
    obtain ⟨v, hv, hk⟩ := h
    refine ⟨v, Or.inl ⟨hw, fun w hC => ?_⟩, hk⟩
    have := hv w hC
    unfold tameAt at this
    generalize (execOp a.eval o).run P w = r at *
    cases r with
    | ok n w' =>
      cases n <;> simp only [tameUpon] at this
      case value u => obtain ⟨e1, e2⟩ := this; rw [e1, e2]; exact Or.inl rfl
      case skip => obtain ⟨e1, e2⟩ := this; rw [e1]; exact Or.inr ⟨rfl, e2⟩
    | halt x w' => simp only [tameUpon] at this
  · rename_i hw
    exact ⟨undef, Or.inr ⟨by simpa using hw, rfl⟩, h⟩
theorem wpAnyC_tames {n g n' : Nat} {Lq : Act → Prop} {w : World} (hC : C w) (hsel : Region.noSelect ops = true) (hs : Region.sinkB md ops n = true) (hc : Region.chainB md ops n = true) (hn : n < ops.size)
    (hQ : ∀ (d : Option Tmp) v c a w, Q' (.panic c) (a.put d v) w → Q' (.panic c) a w)
    (hend : ∀ k listed a, Region.seqB md ops g k listed = true → Lq a → k = n' → wpAnyC P md ops C n Q' g listed a w) :
    ∀ (l : List Oper) (k : Nat) (listed : Array Bool) (a : Act), (∀ j, j < l.length → l[j]? = ops[k + j]?) → k + l.length = n' → n' ≤ n → HeadInv md ops n listed →
    Region.lexHead md ops g l.length k listed = true → wpTame P ops C Lq l a → wpAnyC P md ops C n Q' (l.length + g) listed a w
  | [], k, listed, a, _, hk, _, _, hB, h => by
    rw [List.length_nil, Nat.zero_add]
    exact hend k listed a (by simpa [Region.lexHead] using hB) h (by simpa using hk)
  | o :: l, k, listed, a, hl, hk, hnn, inv, hB, h => by
    have h0 : ops[k]? = some o := by simpa using (hl 0 (by simp)).symm
    simp only [List.length_cons, Region.lexHead, Bool.and_eq_true] at hB
    obtain ⟨⟨hr, hf⟩, hB'⟩ := hB
    have hkn : k < n := by simp only [List.length_cons] at hk; omega
    have hr' : k ∈ Region.ready md ops listed := by simpa using hr
    obtain ⟨v, hy, hK⟩ := stillIn_of_tame h
    rw [List.length_cons, show l.length + 1 + g = (l.length + g) + 1 by omega]
    exact wpAnyC_first h0 (Region.noSelect_spec hsel) hs hc hn hkn (fun c a w => hQ _ _ c a w) (l.length + g) listed a w inv hC (Region.free_spec h0 hf) hr' hy
      (wpAnyC_tames hC hsel hs hc hn hQ hend l (k + 1) _ _ (fun j hj => by have := hl (j + 1) (by simp; omega); simpa [Nat.add_assoc, Nat.add_comm 1 j] using this) (by simp only [List.length_cons] at hk; omega) hnn (inv.set hr' hkn) hB' hK)

/-- The Bool over a region: h operations that leave the very world; then the rest in one order; number n waits for all ahead of it. -/
def tameB (md : Region.Mode) (ops : Array Oper) (h n : Nat) : Bool :=
  Region.noSelect ops && decide (h ≤ n) && decide (n < ops.size) && Region.sinkB md ops n && Region.chainB md ops n && Region.lexHead md ops (ops.size - h) h 0 (Array.replicate ops.size false)
theorem wp_region_tame {id : Nat} {a : Act} {w : World} {l : List Oper} (h n : Nat) (C : World → Prop) (hm : P.follows .mixedOrders = true) (hB : tameB .any l.toArray h n = true) (hC : C { w with drawn := w.drawn + 1 })
    (hQ : ∀ (d : Option Tmp) v c a w, Q' (.panic c) (a.put d v) w → Q' (.panic c) a w)
    (hh : wpTame P l.toArray C (fun a' => wpSeqC P l.toArray C n Q' (l.drop h) h a' { w with drawn := w.drawn + 1 }) (l.take h) a) : (Code.region id l.toArray true).wp P Q' a w := by
  simp only [tameB, Bool.and_eq_true, decide_eq_true_eq] at hB
  obtain ⟨⟨⟨⟨⟨hsel, hhn⟩, hn⟩, hs⟩, hc⟩, hlex⟩ := hB
  have hn' : n < l.length := by simpa using hn
  have htl : (l.take h).length = h := by simp; omega
  have hdl : (l.drop h).length = l.toArray.size - h := by simp
  have inv0 : HeadInv .any l.toArray n (Array.replicate l.toArray.size false) :=
    ⟨by simp, fun j oj _ hl => (by rw [getD_replicate_false] at hl; cases hl), fun t _ ht => getD_in (by simpa using ht) (getD_replicate_false _ _)⟩
  have H := wpAnyC_tames (md := .any) (ops := l.toArray) (P := P) (Q' := Q') (n := n) (g := l.toArray.size - h) (n' := h) hC hsel hs hc hn hQ
    (fun k listed a' hb hq hk => by
      subst hk
      have := wpAnyC_of_seq (P := P) (C := C) (Q' := Q') (n := n) (md := .any) (l.drop k) k listed a' _ (fun j => by simp) (by rw [hdl]; exact hb) hq
      rwa [hdl] at this)
    (l.take h) 0 (Array.replicate l.toArray.size false) a (fun j hj => by
      have hj' : j < h := by rw [htl] at hj; exact hj
      simp [hj']) (by simpa using htl) hhn inv0 (by rw [htl]; exact hlex) hh
  refine wp_region_any hm (wpAny_of_C (C := C) (n := n) _ _ _ _ ?_)
  rw [htl] at H
  have e : h + (l.toArray.size - h) = l.toArray.size := by simp; omega
  rwa [e] at H

/-! Heads by their numbers; the rest by hand. -/
def headNums (md : Region.Mode) (ops : Array Oper) : List Nat → Array Bool → Bool
  | [], _ => true
  | k :: ks, listed => (Region.ready md ops listed).contains k && Region.free md ops listed k && headNums md ops ks (listed.setIfInBounds k true)
def listAll : List Nat → Array Bool → Array Bool
  | [], l => l
  | k :: ks, l => listAll ks (l.setIfInBounds k true)
def headOps (ops : Array Oper) : List Nat → List Oper
  | [] => []
  | k :: ks => match ops[k]? with
    | some o => o :: headOps ops ks
    | none => headOps ops ks
theorem wpAnyC_heads {n g : Nat} {Lq : Act → Prop} {w : World} (hC : C w) (hsel : Region.noSelect ops = true) (hs : Region.sinkB md ops n = true) (hc : Region.chainB md ops n = true) (hn : n < ops.size)
    (hQ : ∀ (d : Option Tmp) v c a w, Q' (.panic c) (a.put d v) w → Q' (.panic c) a w) :
    ∀ (ks : List Nat) (listed : Array Bool) (a : Act), (∀ k ∈ ks, k < n) → HeadInv md ops n listed → headNums md ops ks listed = true →
    (∀ a', Lq a' → wpAnyC P md ops C n Q' g (listAll ks listed) a' w) → wpTame P ops C Lq (headOps ops ks) a → wpAnyC P md ops C n Q' (ks.length + g) listed a w
  | [], listed, a, _, _, _, hend, h => by rw [List.length_nil, Nat.zero_add]; exact hend a h
  | k :: ks, listed, a, hkn, inv, hB, hend, h => by
    simp only [headNums, Bool.and_eq_true] at hB
    obtain ⟨⟨hr, hf⟩, hB'⟩ := hB
    have hr' : k ∈ Region.ready md ops listed := by simpa using hr
    obtain ⟨_, o, h0, _⟩ := mem_ready.1 hr'
    have hk := hkn k (by simp)
    unfold headOps at h
    rw [h0] at h
    obtain ⟨v, hy, hK⟩ := stillIn_of_tame h
    rw [List.length_cons, show ks.length + 1 + g = (ks.length + g) + 1 by omega]
    exact wpAnyC_first h0 (Region.noSelect_spec hsel) hs hc hn hk (fun c a w => hQ _ _ c a w) (ks.length + g) listed a w inv hC (Region.free_spec h0 hf) hr' hy
      (wpAnyC_heads hC hsel hs hc hn hQ ks _ _ (fun j hj => hkn j (List.mem_cons_of_mem _ hj)) (inv.set hr' hk) hB' hend hK)
def headsB (md : Region.Mode) (ops : Array Oper) (ks : List Nat) (n : Nat) : Bool :=
  Region.noSelect ops && ks.all (· < n) && decide (ks.length ≤ ops.size) && decide (n < ops.size) && Region.sinkB md ops n && Region.chainB md ops n && headNums md ops ks (Array.replicate ops.size false)
theorem wp_region_heads {id : Nat} {a : Act} {w : World} {l : List Oper} (ks : List Nat) (n : Nat) (C : World → Prop) (hm : P.follows .mixedOrders = true) (hB : headsB .any l.toArray ks n = true) (hC : C { w with drawn := w.drawn + 1 })
    (hQ : ∀ (d : Option Tmp) v c a w, Q' (.panic c) (a.put d v) w → Q' (.panic c) a w)
    (hh : wpTame P l.toArray C (fun a' => wpAnyC P .any l.toArray C n Q' (l.length - ks.length) (listAll ks (Array.replicate l.length false)) a' { w with drawn := w.drawn + 1 }) (headOps l.toArray ks) a) : (Code.region id l.toArray true).wp P Q' a w := by
  simp only [headsB, Bool.and_eq_true, decide_eq_true_eq] at hB
  obtain ⟨⟨⟨⟨⟨⟨hsel, hks⟩, hkl⟩, hn⟩, hs⟩, hc⟩, hnum⟩ := hB
  have inv0 : HeadInv .any l.toArray n (Array.replicate l.toArray.size false) :=
    ⟨by simp, fun j oj _ hl => (by rw [getD_replicate_false] at hl; cases hl), fun t _ ht => getD_in (by simpa using ht) (getD_replicate_false _ _)⟩
  refine wp_region_any hm (wpAny_of_C (C := C) (n := n) _ _ _ _ ?_)
  have H := wpAnyC_heads (md := .any) (ops := l.toArray) (P := P) (Q' := Q') (n := n) (g := l.length - ks.length) hC hsel hs hc hn hQ ks (Array.replicate l.toArray.size false) a
    (fun k hk => by simpa using List.all_eq_true.1 hks k hk) inv0 hnum (fun a' h => by simpa using h) hh
  have e : ks.length + (l.length - ks.length) = l.toArray.size := by simp at hkl ⊢; omega
  rwa [e] at H
/-- One step of the rest: whichever is ready. -/
theorem wpAnyC_step {n f : Nat} {listed : Array Bool} {a : Act} {w : World} (rs : List Nat) (hr : (Region.ready md ops listed == rs) = true) (hne : rs.isEmpty = false) (hlt : rs.all (· < n) = true)
    (h : ∀ i ∈ rs, ∃ o, ops[i]? = some o ∧ ∀ R : Act → World → Prop, (∀ a' w', C w' → wpAnyC P md ops C n Q' f (listed.setIfInBounds i true) a' w' → R a' w') → wpList P ops (fun x a' w' => x = .normal ∧ R a' w') [o] a w) :
    wpAnyC P md ops C n Q' (f + 1) listed a w := by
  have hr' : Region.ready md ops listed = rs := by simpa using hr
  refine ⟨fun h0 => ?_, fun i hi => ?_⟩
  · rw [hr'] at h0; subst h0; simp at hne
  · rw [hr'] at hi
    obtain ⟨o, ho, hR⟩ := h i hi
    exact wpOp_of_one ho (hR _ fun a' w' hC hA => ⟨fun _ => hC, hA⟩)
theorem wpAnyC_end {n k : Nat} {o : Oper} {listed : Array Bool} {a : Act} {w : World} (hnk : n ≤ k) (ho : ops[k]? = some o) (hk : ops.size = k + 1) (hB : Region.seqB md ops 1 k listed = true) (h : wpList P ops Q' [o] a w) : wpAnyC P md ops C n Q' 1 listed a w :=
  wpAnyC_of_list [o] k listed a w hnk (fun j => by
    cases j with
    | zero => simpa using ho.symm
    | succ j => simp [Array.getElem?_eq_none (show ops.size ≤ k + (j + 1) by omega)]) hB h
end
attribute [go_sem] tame tameAt tameUpon
end Go.Proofs.YtahiahjhpakeiaaGreatDoor
namespace Go.Proofs.YtahiahjhpakeiaaGreatDoor
open Go.RowKit Go
set_option linter.unusedVariables false
set_option linter.unusedSimpArgs false

section
variable {P : Program}
theorem append_row_wide (w : World) (base : Nat) (t ty e : TypeId) (i : TypeInfo) (z : Value) (size bytes : Nat) (ht : P.underlying t = some (.slice e)) (hi : P.info? e = some i) (hz : i.zero = some z)
    (hsize : i.size = size) (hby : i.bytes = bytes)
    (v : Value) (n : Nat) (xs : List Value) (hown : w.ownsRow base e size v n xs)
    (a : Addr) (m c : Nat) (news : List Value) (hl : news.length = m * size) (hm0 : 0 < m) (hnews : ∀ j u, news[j]? = some u → w.cell? (a.add j) = some u) (h1 : ∀ u ∈ news, u.oneCell' = true)
    (h63 : n + m ≤ maxLen) (hbytes : (n + m) * bytes ≤ 140737488355328) {v' : Value} {w' : World} (hr : (Builtin.append_ #[t, t] ty #[v, .slice (some a) m c]).run P w = .ok v' w') :
    v'.ownBlock = v.ownBlock ∨ v'.ownBlock = some w.heap.size := by
  subst hsize
  have hsmall : n + m ≤ 9223372036854775807 := by simp only [maxLen] at h63; omega
  rcases hown.2 with ⟨rfl, rfl⟩ | ⟨g, cap, cur, rfl, hbg, hg, hnc, hcm, hcs, htake⟩
  · right
    have h2 := run_append_nil (P := P) w t ty e i z ht hi hz a m c news hl hnews hm0 (by omega) (by rw [hby]; have hb := hbytes; simp only [Nat.zero_add] at hb; omega)
    rw [hr] at h2
    injection h2 with h2 _
    rw [h2]; rfl
  · by_cases hroom : n + m ≤ cap
    · left
      have hfit : n * i.size + news.length ≤ cur.size := by rw [hl, hcs, ← Nat.add_mul]; exact Nat.mul_le_mul_right _ hroom
      have h2 := run_append_room (P := P) w t ty e i ht hi g n cap cur hg a m c news hl hnews h1 hroom hfit
      rw [hr] at h2
      injection h2 with h2 _
      rw [h2]; rfl
    · right
      have holds : ∀ j u, xs[j]? = some u → w.cell? ((⟨g, 0, none⟩ : Addr).add j) = some u := hown.cells (g := g) rfl
      have h2 := run_append_grow (P := P) w t ty e i z ht hi hz ⟨g, 0, none⟩ n cap xs hown.1 holds a m c news hl hnews (by omega) (by omega) (growslice_fits (by omega) (by rw [hby]; exact hbytes))
      rw [hr] at h2
      injection h2 with h2 _
      rw [h2]; rfl
/-- 'append(s, x...)', s of the call's own, x not empty, of elements of so many cells: the row is told. -/
theorem wpList_app_wide {w : World} {ops : Array Oper} {rest : List Oper} {o : Oper} {a : Act} {Q : Exit → Act → World → Prop} (hgd : o.guard = none) (s x : Operand) (t : TypeId)
    (ho : o.op = .call { callee := .builtin .append, args := #[s, x], argTypes := #[t, t] })
    (base : Nat) (e : TypeId) (i : TypeInfo) (z : Value) (size bytes : Nat) (ht : P.underlying t = some (.slice e)) (hi : P.info? e = some i) (hz : i.zero = some z)
    (hsize : i.size = size) (hby : i.bytes = bytes) (hzs : z.cells.size = size) (hsz : 0 < size)
    (v : Value) (n : Nat) (xs : List Value) (hs : a.eval s = v) (hown : w.ownsRow base e size v n xs)
    (b off m c : Nat) (g : Nat → Value) (hx : a.eval x = .slice (some ⟨b, off, none⟩) m c) (hm0 : 0 < m) (hcell : ∀ j, j < m * size → w.cell? ⟨b, off + j, none⟩ = some (g j)) (h1 : ∀ j, j < m * size → (g j).oneCell' = true)
    (h63 : n + m ≤ maxLen) (hbytes : (n + m) * bytes ≤ 140737488355328) (hbase : base ≤ w.heap.size) (news : List Value) (hnew : news = (List.range (m * size)).map g)
    (h : ∀ v' w', w'.ownsRow base e size v' (n + m) (xs ++ news) → w.grownBy w' v.ownBlock → (v'.ownBlock = v.ownBlock ∨ v'.ownBlock = some w.heap.size) → wpList P ops Q rest (a.put o.dst v') w') : wpList P ops Q (o :: rest) a w := by
  subst hnew
  have hnews : ∀ j u, ((List.range (m * size)).map g)[j]? = some u → w.cell? ((⟨b, off, none⟩ : Addr).add j) = some u := fun j u hu => by
    have hj : j < m * size := by
      rcases Nat.lt_or_ge j (m * size) with h' | h'
      · exact h'
      · simp [h'] at hu
    rw [show ((⟨b, off, none⟩ : Addr).add j) = ⟨b, off + j, none⟩ from by unfold Addr.add; by_cases e : j = 0 <;> simp [e], hcell j hj]
    simp [hj] at hu
    rw [hu]
  have hone : ∀ u ∈ (List.range (m * size)).map g, u.oneCell' = true := fun u hu => by
    obtain ⟨j, hj, rfl⟩ := List.mem_map.1 hu
    exact h1 j (List.mem_range.1 hj)
  refine wpList_plain hgd fun _ hK => ?_
  obtain ⟨v', w', hr, h2, h3, _⟩ := run_append_own (P := P) w base t o.type e i z size bytes ht hi hz hsize hby hzs hsz v n xs hown ⟨b, off, none⟩ m c ((List.range (m * size)).map g) (by simp) hnews hone h63 hbytes hbase
  have hrow := append_row_wide w base t o.type e i z size bytes ht hi hz hsize hby v n xs hown ⟨b, off, none⟩ m c ((List.range (m * size)).map g) (by simp) hm0 hnews hone h63 hbytes hr
  unfold Oper.wp execOp
  simp only [ho, resolve, invoke, builtin, Sem.run_bind, Sem.run_pure, Result.andThen_ok, List.map_toArray, List.map_cons, List.map_nil, hs, hx, hr]
  exact hK _ _ (h v' w' h2 h3 hrow)
end
end Go.Proofs.YtahiahjhpakeiaaGreatDoor
namespace Go.Proofs.YtahiahjhpakeiaaGreatDoor
open Go Go.RowKit Go.Maps Go.Sort
set_option linter.unusedVariables false
set_option linter.unusedSimpArgs false
section
variable {P : Program} {ops : Array Oper} {md : Region.Mode} {C : World → Prop} {Q' : Exit → Act → World → Prop}
def headInvB (md : Region.Mode) (ops : Array Oper) (n : Nat) (listed : Array Bool) : Bool :=
  listed.size == ops.size && (List.range ops.size).all (fun j => match ops[j]? with
    | some oj => !listed.getD j false || oj.after.all (fun e => !Region.binds md e || listed.getD e.on false)
    | none => true) && (List.range ops.size).all (fun t => decide (t < n) || !listed.getD t true)
theorem headInv_of {n : Nat} {listed : Array Bool} (h : headInvB md ops n listed = true) : HeadInv md ops n listed := by
  unfold headInvB at h
  simp only [Bool.and_eq_true, beq_iff_eq] at h
  obtain ⟨⟨h1, h2⟩, h3⟩ := h
  refine ⟨h1, fun j oj hj hl e he hb => ?_, fun t ht hts => ?_⟩
  · have hjs : j < ops.size := (Array.getElem?_eq_some_iff.1 hj).1
    have := List.all_eq_true.1 h2 j (List.mem_range.2 hjs)
    rw [hj] at this
    simp only [hl, Bool.not_true, Bool.false_or] at this
    have h5 := Array.all_eq_true.1 this
    obtain ⟨i, hi, rfl⟩ := Array.mem_iff_getElem.1 he
    have := h5 i hi
    simpa [hb] using this
  · have := List.all_eq_true.1 h3 t (List.mem_range.2 hts)
    simpa [show ¬ t < n by omega] using this
/-- Operations that leave the very world, in the midst of a region. -/
theorem wpAnyC_mid {n f : Nat} {listed : Array Bool} {a : Act} {w : World} (ks : List Nat) (hC : C w) (hB : (Region.noSelect ops && ks.all (· < n) && decide (n < ops.size) && Region.sinkB md ops n && Region.chainB md ops n && headInvB md ops n listed && headNums md ops ks listed) = true)
    (hQ : ∀ (d : Option Tmp) v c a w, Q' (.panic c) (a.put d v) w → Q' (.panic c) a w)
    (h : wpTame P ops C (fun a' => wpAnyC P md ops C n Q' f (listAll ks listed) a' w) (headOps ops ks) a) : wpAnyC P md ops C n Q' (ks.length + f) listed a w := by
  simp only [Bool.and_eq_true, decide_eq_true_eq] at hB
  obtain ⟨⟨⟨⟨⟨⟨h1, h2⟩, h3⟩, h4⟩, h5⟩, h6⟩, h7⟩ := hB
  exact wpAnyC_heads (Lq := fun a' => wpAnyC P md ops C n Q' f (listAll ks listed) a' w) hC h1 h4 h5 h3 hQ ks listed a (fun k hk => by simpa using List.all_eq_true.1 h2 k hk) (headInv_of h6) h7 (fun a' h => h) h
end
end Go.Proofs.YtahiahjhpakeiaaGreatDoor
end
