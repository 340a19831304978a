
/-
  chord.Join.
  chord.Fail.
-/
import Derived.Test.YtbhaapkafgieiaaChordL
import Derived.Test.YtbhaapkafgieiaaChordN
namespace Go.Proofs.Ytbhaapkafgieiaa
open Go.RowKit Go.Maps Go.Sort
set_option linter.unusedVariables false
set_option linter.unusedSimpArgs false
attribute [local go_sem] later_cell later_frozen later_lt cell_set_off cell_set_block

/-- A member more: its block was made, its list is a new one, the map was stored into. -/
theorem join_member {S : Nat → Prop} {wr w6 W w8 : World} {b rb mb : Nat} {g : Int → Nat} {f : RS} {n : Int} {M : Mem} {sv : Value} (h : RAt S wr rb mb g f) (hn : f n = none)
    (hB : RowKit.Below wr.heap.size wr w6) (hB6 : RowKit.Below w6.heap.size w6 W) (hb1 : w6.heap.size ≤ b) (hb2 : b < W.heap.size) (hd : Dom (setM f n M))
    (hfz : ∀ o, W.frozen? ⟨b, o, none⟩ = false) (c0 : W.cell? ⟨b, 0, none⟩ = some (.bool M.live)) (c1 : W.cell? ⟨b, 1, none⟩ = some (.int .u64 M.id)) (c2 : W.cell? ⟨b, 2, none⟩ = some (.int .i64 M.pred)) (c3 : W.cell? ⟨b, 3, none⟩ = some sv)
    (hsv : SlAt wr.heap.size (fun i => .int .i64 (nth M.succ i)) M.succ.length w6 sv)
    (hmap : MapAt Try.prog 3 w8 mb (cntM f + 1) (setF (ptrM f g) n b)) (hg : W.grownBy w8 (some mb)) : RAt S w8 rb mb (fun j => if j = n then b else g j) (setM f n M) := by
  have hBW := bel_below hB hB6
  have hsz : W.heap.size ≤ w8.heap.size := hg.size
  have s1 := hB.size
  have s2 := hB6.size
  have hz := h.rbz
  have hmz := h.mbz
  have hne : b ≠ mb := by omega
  have hfar : ∀ c, c < W.heap.size → c ≠ mb → w8.heap[c]? = W.heap[c]? := fun c hc hcm => hg.block c hc (by simpa using hcm)
  refine h.add hn (by omega) (by omega) (by omega) (fun c hc hcm => ?_) hd (fun o => ?_) hmap ((World.cell?_of_block (hfar b hb2 hne)).trans c0) ((World.cell?_of_block (hfar b hb2 hne)).trans c1) ((World.cell?_of_block (hfar b hb2 hne)).trans c2) ((World.cell?_of_block (hfar b hb2 hne)).trans c3) ?_
  · rw [hfar c (by omega) hcm, hBW.block c hc]
  · exact (World.frozen?_of_block (hfar b hb2 hne)).trans (hfz o)
  · obtain ⟨a, cap, rfl, k1, k2, k3, k4⟩ := hsv
    refine ⟨a, cap, rfl, k1, k2, k3, k4.imp id ?_⟩
    rintro ⟨q, off, rfl, q1, q2, q3⟩
    have hqW : q < W.heap.size := by omega
    obtain ⟨f1, f2, f3, f4⟩ := h.fresh q1
    refine ⟨q, off, rfl, ⟨f1, f2, f3, by omega, f4⟩, by omega, fun i hi => ?_⟩
    rw [World.cell?_of_block (hfar q hqW f3), hB6.cell (p := ⟨q, off + i, none⟩) q2]
    exact q3 i hi

variable {S : Nat → Prop} {w : World} {rb mb : Nat} {g : Int → Nat} {f : RS}
def JoinPost (S : Nat → Prop) (w : World) (rb mb : Nat) (f : RS) (n id via : Int) (e : Ending) (w' : World) : Prop :=
  if joinC f n id via = 0 then e = .returned .nilIface ∧ Kept S w w' ∧ ∃ g', RAt S w' rb mb g' (joinR f n id via) else ∃ v, e = .returned v ∧ IsErr w.heap.size w' v (joinC f n id via) ∧ RowKit.Below w.heap.size w w'
theorem IsErr.base {B B' : Nat} {w : World} {v : Value} {c : Int} (h : IsErr B w v c) (hb : B' ≤ B) : IsErr B' w v c := by
  obtain ⟨b, rfl, h1, h2⟩ := h
  exact ⟨b, rfl, by omega, h2⟩
end Go.Proofs.Ytbhaapkafgieiaa
namespace Go.Proofs.Ytbhaapkafgieiaa
open Go.RowKit Go.Maps Go.Sort
set_option linter.unusedVariables false
set_option linter.unusedSimpArgs false
attribute [local go_sem] later_cell later_frozen later_lt cell_set_off cell_set_block

variable {S : Nat → Prop} {w : World} {rb mb : Nat} {g : Int → Nat} {f : RS}
/-- A member lives, or doesn't. -/
theorem RingIs.setLive (h : RAt S w rb mb g f) {n : Int} {m : Mem} (hn : f n = some m) (b : Bool) :
    RAt S (w.setCell ⟨g n, 0, none⟩ (.bool b)) rb mb g (setM f n ⟨b, m.id, m.pred, m.succ⟩) := by
  obtain ⟨c0, c1, c2, u, c3, hu⟩ := h.mem n m hn
  have hd : Dom (setM f n ⟨b, m.id, m.pred, m.succ⟩) := fun j mj e => by
    by_cases ej : j = n
    · subst ej; rw [setM_same] at e; cases e; exact h.dom j m hn
    · rw [setM_ne f _ ej] at e; exact h.dom j mj e
  refine h.write hn (size_set _ _ _) (fun b' hb => Below.heap_setCell _ _ _ _ hb) (fun o => by rw [World.frozen?_setCell]; exact (h.memS n m hn).2.2.2.2 o) hd (v := u) (set_at c0) ?_ ?_ ?_ hu
  · rw [cell_set_off _ _ _ _ _ (by decide)]; exact c1
  · rw [cell_set_off _ _ _ _ _ (by decide)]; exact c2
  · rw [cell_set_off _ _ _ _ _ (by decide)]; exact c3
def FailPost (S : Nat → Prop) (w : World) (rb mb : Nat) (g : Int → Nat) (f : RS) (n : Int) (e : Ending) (w' : World) : Prop :=
  (if failC f n = 0 then e = .returned .nilIface else ∃ v, e = .returned v ∧ IsErr w.heap.size w' v (failC f n)) ∧ RAt S w' rb mb g (failR f n) ∧ Kept S w w'
end Go.Proofs.Ytbhaapkafgieiaa
