/-
  A world in which nothing that was there has turned; a region that draws its order, whose operations read and whose callees leave what was there alone, walked once in the order of the text. No program is named here.
-/
import Derived.Test.YtacdgfkahppmdaaBase
import Derived.Deep.Quiet
import Derived.Deep.QuietTactic
import Derived.BigQuiet
import Derived.KernelRfl
import Derived.Deep.Light
namespace Go.Proofs.Ytacdgfkahppmdaa
open Go.RowKit
set_option linter.unusedVariables false
set_option linter.unusedSimpArgs false

/-- A world in which nothing that was in w has turned. -/
structure Later (w : World) where
  world : World
  below : Below w.heap.size w world
theorem later_cell {w : World} (x : Later w) (b o : Nat) (h : b < w.heap.size) : x.world.cell? ⟨b, o, none⟩ = w.cell? ⟨b, o, none⟩ := x.below.cell (p := ⟨b, o, none⟩) h
theorem cell_set_off (w : World) (b o o' : Nat) (v : Value) (h : o ≠ o') : (w.setCell ⟨b, o, none⟩ v).cell? ⟨b, o', none⟩ = w.cell? ⟨b, o', none⟩ := by
  unfold World.cell?
  unfold World.setCell
  simp only [Array.getElem?_modify]
  cases hb : w.heap[b]? with
  | none => simp
  | some ob =>
    cases ob <;> simp
    case cells c e f => rw [Array.getElem?_setIfInBounds_ne h]
theorem cell_set_block (w : World) (b b' o o' : Nat) (v : Value) (h : b ≠ b') : (w.setCell ⟨b, o, none⟩ v).cell? ⟨b', o', none⟩ = w.cell? ⟨b', o', none⟩ :=
  World.cell?_of_block (Below.heap_setCell _ _ _ _ (Ne.symm h))
theorem size_set (w : World) (a : Addr) (v : Value) : (w.setCell a v).heap.size = w.heap.size := by simp [World.setCell]
theorem later_frozen {w : World} (x : Later w) (b o : Nat) (h : b < w.heap.size) : x.world.frozen? ⟨b, o, none⟩ = w.frozen? ⟨b, o, none⟩ := x.below.frozen (p := ⟨b, o, none⟩) h
theorem later_lt {w : World} (x : Later w) (b : Nat) (h : b < w.heap.size) : (b < x.world.heap.size) = True := eq_true (Nat.lt_of_lt_of_le h x.below.size)
def Later.refl (w : World) : Later w := ⟨w, Below.refl _ _⟩
instance {w : World} : Nonempty (Later w) := ⟨Later.refl w⟩
def Later.trans {w : World} (x : Later w) (y : Later x.world) : Later w := ⟨y.world, x.below.trans (y.below.mono x.below.size)⟩
/-- What a callee leaves that touches nothing of what was there. -/
def IsLater (w w' : World) : Prop := ∃ x : Later w, w' = x.world
theorem IsLater.of_below {w w' : World} (h : Below w.heap.size w w') : IsLater w w' := ⟨⟨w', h⟩, rfl⟩
theorem IsLater.below {w w' : World} (h : IsLater w w') : Below w.heap.size w w' := by obtain ⟨x, rfl⟩ := h; exact x.below
theorem IsLater.step {w w' : World} (x : Later w) (h : IsLater x.world w') : IsLater w w' := by obtain ⟨y, rfl⟩ := h; exact ⟨x.trans y, rfl⟩

/-! Steps of 'nothing that was in a has turned'. -/
theorem bel_later {a w : World} (h : Below a.heap.size a w) (x : Later w) : Below a.heap.size a x.world := h.trans (x.below.mono h.size)
theorem bel_below {a w w' : World} (h : Below a.heap.size a w) (x : Below w.heap.size w w') : Below a.heap.size a w' := h.trans (x.mono h.size)
theorem bel_alloc {a w : World} (h : Below a.heap.size a w) (o : Obj) : Below a.heap.size a (w.alloc o) := h.alloc h.size o
theorem bel_drew {a w : World} (h : Below a.heap.size a w) : Below a.heap.size a w.drew := h.drew
theorem bel_drewN {a w : World} (h : Below a.heap.size a w) (n : Nat) : Below a.heap.size a (w.drewN n) := h.trans (Joins.below_draws _ _ n)
theorem bel_set {a w : World} (h : Below a.heap.size a w) {p : Addr} (hp : a.heap.size ≤ p.block) (u : Value) : Below a.heap.size a (w.setCell p u) := h.setCell hp u

theorem wp_region_calm {P : Program} {id : Nat} {Q : Exit → Act → World → Prop} {a : Act} {w : World} {l : List Oper} (hm : P.follows .mixedOrders = true) (hB : Region.lexB .any l.toArray = true)
    (h : wpQuiet P l.toArray (fun w' => ∃ x : Later w, w' = x.world) (fun a' => ∀ w', (∃ x : Later w, w' = x.world) → Q .normal a' w') l a) : (Code.region id l.toArray true).wp P Q a w :=
  wp_region_quiet (C := fun w' => ∃ x : Later w, w' = x.world) hm hB ⟨⟨{ w with drawn := w.drawn + 1 }, (Below.refl _ _).drew⟩, rfl⟩ (by simpa using h)
/-- A callee's contract, met in a later world. -/
theorem calls_calm {P : Program} {f : FuncId} {args : Array Value} {w : World} {x : Later w} {v : Value}
    (h : Calls P f args x.world fun e w' => e = .returned v ∧ Below x.world.heap.size x.world w') : Calls P f args x.world fun e w'' => e = .returned v ∧ ∃ y : Later w, w'' = y.world :=
  h.mono fun _ _ ⟨he, hb⟩ => ⟨he, x.trans ⟨_, hb⟩, rfl⟩
theorem calls_calm_same {P : Program} {f : FuncId} {args : Array Value} {w : World} {x : Later w} {v : Value}
    (h : Calls P f args x.world fun e w' => e = .returned v ∧ x.world = w') : Calls P f args x.world fun e w'' => e = .returned v ∧ ∃ y : Later w, w'' = y.world :=
  h.mono fun _ _ ⟨he, hb⟩ => ⟨he, x, hb.symm⟩
theorem calls_calm_draws {P : Program} {f : FuncId} {args : Array Value} {w : World} {x : Later w} {v : Value}
    (h : Calls P f args x.world fun e w' => e = .returned v ∧ ∃ n, w' = x.world.drewN n) : Calls P f args x.world fun e w'' => e = .returned v ∧ ∃ y : Later w, w'' = y.world :=
  h.mono fun _ _ ⟨he, n, hb⟩ => ⟨he, x.trans ⟨_, by rw [hb]; exact Joins.below_draws _ _ n⟩, rfl⟩
end Go.Proofs.Ytacdgfkahppmdaa
