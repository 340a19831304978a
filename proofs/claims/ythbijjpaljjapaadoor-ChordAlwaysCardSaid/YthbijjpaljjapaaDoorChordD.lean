
/-
  What a fault is; what Stabilize leaves of a ring.
-/
import Derived.Test.YthbijjpaljjapaaDoorChordC
namespace Go.Proofs.YthbijjpaljjapaaDoor
open Go.RowKit Go.Maps
set_option linter.unusedVariables false
set_option linter.unusedSimpArgs false
attribute [local go_sem] later_cell later_frozen later_lt

/-- An error of this layer: a fault of a code. -/
def IsErr (B : Nat) (w : World) (v : Value) (c : Int) : Prop :=
  ∃ b : Nat, v = .iface 72 (.pointer (some ⟨b, 0, none⟩)) ∧ B ≤ b ∧ b < w.heap.size ∧ w.cell? ⟨b, 2, none⟩ = some (.iface 34 (.int .i64 c))
theorem IsErr.below {B : Nat} {w w' : World} {v : Value} {c : Int} (h : IsErr B w v c) (hb : Below w.heap.size w w') : IsErr B w' v c := by
  obtain ⟨b, rfl, h1, h2, h3⟩ := h
  exact ⟨b, rfl, h1, Nat.lt_of_lt_of_le h2 hb.size, (hb.cell (p := ⟨b, 2, none⟩) h2).trans h3⟩
theorem fault_any (w : World) (c : Int) : Calls Tryd.prog 14 #[.int .i64 c] w fun e w' => ∃ v, e = .returned v ∧ IsErr w.heap.size w' v c ∧ Below w.heap.size w w' := by
  go_enter Tryd.func14, Tryd.ntmps14
  go_wp2
  go_ret
  refine ⟨_, rfl, ⟨w.heap.size, rfl, Nat.le_refl _, by simp, by simp [go_sem]⟩, bel_alloc (Below.refl _ _) _⟩

theorem set_at {w : World} {b o : Nat} {u v : Value} (h : w.cell? ⟨b, o, none⟩ = some u) : (w.setCell ⟨b, o, none⟩ v).cell? ⟨b, o, none⟩ = some v := World.cell?_setCell_same _ _ _ h
section
variable {S : Nat → Prop} {w w1 w2 : World} {rb mb : Nat} {g : Int → Nat} {f : RS}
/-- Blocks that are not the ring's own. -/
abbrev Off (S : Nat → Prop) (rb mb : Nat) (g : Int → Nat) (f : RS) (b : Nat) : Prop := S b ∧ b ≠ rb ∧ b ≠ mb ∧ ∀ j m, f j = some m → b ≠ g j
theorem RingIs.fresh (h : RAt S w rb mb g f) {b : Nat} (hb : w.heap.size ≤ b) : Off S rb mb g f b :=
  ⟨h.up b hb, by have := h.rbz; omega, by have := h.mbz; omega, fun j m e => by have := (h.memS j m e).2.1; omega⟩
theorem RingIs.newSl (h : RAt S w rb mb g f) {l : List Int} {w' : World} {v : Value} (hv : SlAt w.heap.size (fun i => .int .i64 (nth l i)) l.length w' v) : SlIn (Off S rb mb g f) l w' v :=
  SlIn.of_slAt hv fun b hb => h.fresh hb
/-- A member's list is another one. -/
theorem RingIs.setSucc (h : RAt S w rb mb g f) {n : Int} {m : Mem} (hn : f n = some m) {l : List Int} {v : Value} (hv : SlIn (Off S rb mb g f) l w v) (hd : Dom (setM f n ⟨m.live, m.id, m.pred, l⟩)) :
    RAt S (w.setCell ⟨g n, 3, none⟩ v) rb mb g (setM f n ⟨m.live, m.id, m.pred, l⟩) := by
  obtain ⟨c0, c1, c2, u, c3, hu⟩ := h.mem n m hn
  refine h.write hn (size_set _ _ _) (fun b hb => Below.heap_setCell _ _ _ _ hb) (fun o => by rw [World.frozen?_setCell]; exact (h.memS n m hn).2.2.2.2 o) hd (v := v) ?_ ?_ ?_ ?_ hv
  · rw [cell_set_off _ _ _ _ _ (by decide)]; exact c0
  · rw [cell_set_off _ _ _ _ _ (by decide)]; exact c1
  · rw [cell_set_off _ _ _ _ _ (by decide)]; exact c2
  · exact set_at c3
/-- What a member knows is another thing. -/
theorem RingIs.setPred (h : RAt S w rb mb g f) {n : Int} {m : Mem} (hn : f n = some m) {q : Int} {v : Value} (c3 : w.cell? ⟨g n, 3, none⟩ = some v) (hv : SlIn (Off S rb mb g f) m.succ w v) (hd : Dom (setM f n ⟨m.live, m.id, q, m.succ⟩)) :
    RAt S (((w.setCell ⟨g n, 1, none⟩ (.int .u64 m.id)).setCell ⟨g n, 2, none⟩ (.int .i64 q)).setCell ⟨g n, 3, none⟩ v) rb mb g (setM f n ⟨m.live, m.id, q, m.succ⟩) := by
  obtain ⟨c0, c1, c2, _⟩ := h.mem n m hn
  refine h.write hn (by rw [size_set, size_set, size_set]) (fun b hb => ?_) (fun o => by rw [World.frozen?_setCell, World.frozen?_setCell, World.frozen?_setCell]; exact (h.memS n m hn).2.2.2.2 o) hd (v := v) ?_ ?_ ?_ ?_ hv
  · rw [Below.heap_setCell _ _ _ _ hb, Below.heap_setCell _ _ _ _ hb, Below.heap_setCell _ _ _ _ hb]
  · rw [cell_set_off _ _ _ _ _ (by decide), cell_set_off _ _ _ _ _ (by decide), cell_set_off _ _ _ _ _ (by decide)]; exact c0
  · rw [cell_set_off _ _ _ _ _ (by decide), cell_set_off _ _ _ _ _ (by decide)]; exact set_at c1
  · rw [cell_set_off _ _ _ _ _ (by decide)]; exact set_at (by rw [cell_set_off _ _ _ _ _ (by decide)]; exact c2)
  · exact set_at (by rw [cell_set_off _ _ _ _ _ (by decide), cell_set_off _ _ _ _ _ (by decide)]; exact c3)
end

theorem okInt_dom {n : Int} (h0 : -1 ≤ n) (h1 : n < 32) : okInt n := by
  unfold okInt Lit.wf
  rw [Bool.and_eq_true, decide_eq_true_eq, decide_eq_true_eq]
  exact ⟨by show (-9223372036854775808 : Int) ≤ n; omega, by show n ≤ (9223372036854775807 : Int); omega⟩
end Go.Proofs.YthbijjpaljjapaaDoor
