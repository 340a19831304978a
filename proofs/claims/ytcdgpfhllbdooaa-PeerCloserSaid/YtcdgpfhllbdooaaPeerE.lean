
/-
  The document's example of layer 9.
-/
import Derived.Test.YtcdgpfhllbdooaaPeerC
import Derived.Test.YtcdgpfhllbdooaaPeerD
import Derived.Test.YtcdgpfhllbdooaaInts
namespace Go.Proofs.Ytcdgpfhllbdooaa
open Go.RowKit
set_option linter.unusedVariables false
set_option linter.unusedSimpArgs false
attribute [local go_sem] later_cell later_frozen later_lt

theorem field_pred (x y z : Value) (w : World) : (Instr.field 30 (.agg #[x, y, z]) 1).run Try.prog w = .ok y w := by kernel_rfl

theorem aw9_any (w : World) : Calls Try.prog 15 #[] w fun e w' => e = .returned (.bool true) ∧ Below w.heap.size w w' := by
  go_enter Try.func15, Try.ntmps15
  go_wp2_with fail
  have hL := slB_new w [true, false, true] 4 w.heap.size 3 rfl rfl (by simp [maxLen])
  have hI := sl_new (w.alloc (.cells #[.bool true, .bool false, .bool true] 4)) .u64 [1, 5, 9] 27 (w.heap.size + 1) 3 (by simp) rfl (by simp [maxLen])
  have HL := Lib.hid hL
  have HI := Lib.hid hI
  clear hL hI
  refine (follow_any _ 2 _ 0 0 [3, 4, 5] ⟨_, rfl, sl_new _ .i64 [3, 4, 5] 3 _ 3 (by simp) rfl (by simp [maxLen])⟩ (by decide)).mono ?_
  rintro e w1 ⟨v1, rfl, hs1, hb1⟩
  have k0 : w1.cell? ⟨w.heap.size + 1 + 1, 0, none⟩ = some (.slice (some ⟨w.heap.size, 0, none⟩) 3 3) := by rw [hb1.cell (by simp)]; simp [go_sem]
  have k1 : w1.cell? ⟨w.heap.size + 1 + 1, 1, none⟩ = some (.slice (some ⟨w.heap.size + 1, 0, none⟩) 3 3) := by rw [hb1.cell (by simp)]; simp [go_sem]
  have z1 : w.heap.size + 1 + 1 < w1.heap.size := by have := hb1.size; simp at this; omega
  have HW : Hid (WorldAt w1 (.agg #[.slice (some ⟨w.heap.size, 0, none⟩) 3 3, .slice (some ⟨w.heap.size + 1, 0, none⟩) 3 3]) [true, false, true] [1, 5, 9]) := by
    refine ⟨_, _, rfl, HL.out.below ?_, HI.out.below ?_⟩
    · exact bel_below (bel_alloc (bel_alloc (bel_alloc (Below.refl _ _) _) _) _) hb1
    · exact bel_below (bel_alloc (bel_alloc (Below.refl _ _) _) _) hb1
  have hb0 : Below w.heap.size w w1 := bel_below (bel_alloc (bel_alloc (bel_alloc (bel_alloc (Below.refl _ _) _) _) _) _) hb1
  have HS := Lib.hid hs1
  clear hs1 hb1
  go_wp2_with fail
  refine (head_any _ _ _ _ (HW.out.below ?_) (by simp [maxLen]) _ 0 0 [1, 2] ⟨_, rfl, sl_new _ .i64 [1, 2] 3 _ 2 (by simp) rfl (by simp [maxLen])⟩ (by decide)).mono ?_
  · (repeat (first | exact Below.refl _ _ | (with_reducible assumption) | (with_reducible refine bel_later ?_ _) | (with_reducible refine bel_alloc ?_ _) | (with_reducible refine bel_drew ?_) | (with_reducible refine bel_drewN ?_ _) | (with_reducible refine bel_set ?_ (by first | (simp; done) | (simp; omega) | (dsimp only; omega)) _)))
  rintro e w2 ⟨rfl, hb2⟩
  have hh : headB [true, false, true] [1, 2] = 2 := by decide +kernel
  have hb12 : Below w1.heap.size w1 w2 := bel_below (bel_alloc (Below.refl _ _) _) hb2
  clear hb2
  have k0 : w2.cell? ⟨w.heap.size + 1 + 1, 0, none⟩ = some (.slice (some ⟨w.heap.size, 0, none⟩) 3 3) := by rw [hb12.cell (by exact z1)]; exact k0
  have k1 : w2.cell? ⟨w.heap.size + 1 + 1, 1, none⟩ = some (.slice (some ⟨w.heap.size + 1, 0, none⟩) 3 3) := by rw [hb12.cell (by exact z1)]; exact k1
  have z2 : w.heap.size + 1 + 1 < w2.heap.size := by have := hb12.size; omega
  go_wp2_with fail
  refine (rints_any _ _ _ (List.take 3 [2, 3, 4, 5]) [2, 3, 4] ((HS.out.base (Nat.zero_le _)).below ?_) (sl_new _ .i64 [2, 3, 4] 3 _ 3 (by simp) rfl (by simp [maxLen])) (by decide)).mono ?_
  · exact bel_alloc hb12 _
  rintro e w3 ⟨rfl, hb3⟩
  have hi : sameI (List.take 3 [2, 3, 4, 5]) [2, 3, 4] = true := by decide +kernel
  have hb23 : Below w2.heap.size w2 w3 := bel_below (bel_alloc (Below.refl _ _) _) hb3
  clear hb3
  have k0 : w3.cell? ⟨w.heap.size + 1 + 1, 0, none⟩ = some (.slice (some ⟨w.heap.size, 0, none⟩) 3 3) := by rw [hb23.cell (by exact z2)]; exact k0
  have k1 : w3.cell? ⟨w.heap.size + 1 + 1, 1, none⟩ = some (.slice (some ⟨w.heap.size + 1, 0, none⟩) 3 3) := by rw [hb23.cell (by exact z2)]; exact k1
  go_wp2_with fail
  refine (rect_any _ _ _ _ (HW.out.below ?_) (by simp [maxLen]) (by simp [maxLen]) _ _ _ _ _ _).mono ?_
  · exact bel_below hb12 hb23
  rintro e w4 ⟨rfl, hb4⟩
  have hr : rectB [true, false, true] [1, 5, 9] 9 1 0 = 0 := by decide +kernel
  have hf := field_pred
  go_wp2_with fail
  go_ret
  exact ⟨rfl, bel_below (bel_below (bel_below hb0 hb12) hb23) hb4⟩
end Go.Proofs.Ytcdgpfhllbdooaa
