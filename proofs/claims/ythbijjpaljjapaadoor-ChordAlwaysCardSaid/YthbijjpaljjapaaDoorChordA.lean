
/-
  What Lives and Id of a ring answer.
-/
import Derived.Test.YthbijjpaljjapaaDoorRows
import Derived.Test.YthbijjpaljjapaaDoorChordH
import Derived.LoopTactic
import Derived.Outline
import Derived.BigQuiet
namespace Go.Proofs.YthbijjpaljjapaaDoor
open Go.RowKit Go.Maps
set_option linter.unusedVariables false
set_option linter.unusedSimpArgs false
attribute [local go_sem] later_cell later_frozen later_lt

theorem keyInt : Keyed Tryd.prog 3 := int_keyed Tryd.underlying3
abbrev RAt := RingIs Tryd.prog 3
variable {S : Nat → Prop} {w : World} {rb mb : Nat} {g : Int → Nat} {f : RS}

/-- A member's cells, and its entry in the map. -/
theorem RingIs.at (h : RAt S w rb mb g f) {n : Int} {m : Mem} (hn : f n = some m) (hi : okInt n) :
    w.cell? ⟨g n, 0, none⟩ = some (.bool m.live) ∧ w.cell? ⟨g n, 1, none⟩ = some (.int .u64 m.id) ∧ w.cell? ⟨g n, 2, none⟩ = some (.int .i64 m.pred) ∧ g n < w.heap.size ∧
    (Instr.lookup 45 (.map (some mb)) (.int .i64 n) false).run Tryd.prog w = .ok (.pointer (some ⟨g n, 0, none⟩)) w := by
  obtain ⟨c0, c1, c2, _⟩ := h.mem n m hn
  have := h.look keyInt Tryd.underlying3 Tryd.underlying45 (Tryd.zeroValue52 w) n hi
  rw [show ptrM f g n = some (g n) from by unfold ptrM; rw [hn]; rfl] at this
  exact ⟨c0, c1, c2, (h.memS n m hn).2.1, this⟩
theorem RingIs.out (h : RAt S w rb mb g f) {n : Int} (hn : f n = none) (hi : okInt n) :
    (Instr.lookup 45 (.map (some mb)) (.int .i64 n) false).run Tryd.prog w = .ok (.pointer none) w := by
  have := h.look keyInt Tryd.underlying3 Tryd.underlying45 (Tryd.zeroValue52 w) n hi
  rwa [show ptrM f g n = none from by unfold ptrM; rw [hn]; rfl] at this

theorem lives_at (h : RAt S w rb mb g f) (n : Int) (hi : okInt n) :
    Calls Tryd.prog 21 #[.pointer (some ⟨rb, 0, none⟩), .int .i64 n] w fun e w' => e = .returned (.bool (livesR f n)) ∧ w = w' := by
  have r0 := h.root
  have z0 := h.rbz
  cases hn : f n with
  | none =>
    have e : livesR f n = false := by unfold livesR; rw [hn]
    have hl := h.out hn hi
    have E := Lib.hid e
    clear h hn e
    go_enter Tryd.func21, Tryd.ntmps21
    go_wp2
    go_ret
    exact ⟨by rw [E.out]; first | done | rfl, rfl⟩
  | some m =>
    have e : livesR f n = m.live := by unfold livesR; rw [hn]
    obtain ⟨c0, _, _, hz, hl⟩ := h.at hn hi
    have E := Lib.hid e
    clear h hn e
    go_enter Tryd.func21, Tryd.ntmps21
    go_wp2
    go_ret
    exact ⟨by rw [E.out]; first | done | rfl, rfl⟩
theorem id_at (h : RAt S w rb mb g f) (n : Int) (hi : okInt n) :
    Calls Tryd.prog 22 #[.pointer (some ⟨rb, 0, none⟩), .int .i64 n] w fun e w' => e = .returned (.int .u64 (idR f n)) ∧ w = w' := by
  have r0 := h.root
  have z0 := h.rbz
  cases hn : f n with
  | none =>
    have e : idR f n = 0 := by unfold idR; rw [hn]
    have hl := h.out hn hi
    have E := Lib.hid e
    clear h hn e
    go_enter Tryd.func22, Tryd.ntmps22
    go_wp2
    go_ret
    exact ⟨by rw [E.out]; first | done | rfl, rfl⟩
  | some m =>
    have e : idR f n = m.id := by unfold idR; rw [hn]
    obtain ⟨_, c1, _, hz, hl⟩ := h.at hn hi
    have E := Lib.hid e
    clear h hn e
    go_enter Tryd.func22, Tryd.ntmps22
    go_wp2
    go_ret
    exact ⟨by rw [E.out]; first | done | rfl, rfl⟩
end Go.Proofs.YthbijjpaljjapaaDoor
