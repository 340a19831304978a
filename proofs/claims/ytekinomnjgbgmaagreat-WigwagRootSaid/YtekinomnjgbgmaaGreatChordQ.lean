
/-
  The laws' own answers that the document fixes (awake).
-/
import Derived.Test.YtekinomnjgbgmaaGreatChordP
import Derived.Test.YtekinomnjgbgmaaGreatInts
namespace Go.Proofs.YtekinomnjgbgmaaGreat
open Go.RowKit Go.Maps Go.Sort
set_option linter.unusedVariables false
set_option linter.unusedSimpArgs false
attribute [local go_sem] later_cell later_frozen later_lt cell_set_off cell_set_block

def ids0 : List Int := [10, 20, 30, 40]
theorem up0 : Up ids0 := by unfold Up ids0; decide
theorem set0 : setI ids0 = ids0 := setI_of_up up0
theorem four0 : Four ids0 ids0 := by
  have := four_of (ids := ids0) rfl (by rw [set0]; rfl) (by unfold ids0 isPlace; simp)
  rwa [set0] at this
def F0 : RS := newF ids0 ids0 4
def F1 : RS := setM F0 4 ⟨true, 25, 1, [2, 3, 0]⟩
def F2 : RS := stabR F1 4
def F3 : RS := stabR F2 1
theorem inv0 : Inv F0 := inv_new four0
theorem join1 : joinC F0 4 25 0 = 0 := by decide +kernel
theorem f1_eq : joinR F0 4 25 0 = F1 := by
  have h : joinAt F0 25 33 0 = some 1 := by decide +kernel
  have h2 : succR F0 1 = [2, 3, 0] := by decide +kernel
  unfold joinR F1
  rw [if_pos join1, h, ← h2]
theorem inv1 : Inv F1 := by rw [← f1_eq]; exact inv_joinR inv0 (by unfold isPlace; omega)
theorem lives14 : livesR F1 4 = true := by decide +kernel
theorem inv2 : Inv F2 := inv_stab inv1 lives14
theorem lives21 : livesR F2 1 = true := by decide +kernel
theorem inv3 : Inv F3 := inv_stab inv2 lives21
theorem f3_facts : livesR F3 1 = true ∧ livesR F3 2 = true ∧ livesR F3 4 = true ∧ idR F3 4 = 25 ∧ succR F3 1 = [4, 2, 3] ∧ predR F3 2 = 4 := by decide +kernel
theorem f2_eq : stabR F1 4 = F2 := rfl
theorem f3_eq : stabR F2 1 = F3 := rfl
theorem f0_eq : newF ids0 ids0 4 = F0 := rfl
attribute [irreducible] F0 F1 F2 F3
theorem base_any (w : World) : Calls Tryz.prog 5 #[] w fun e w' => ∃ v, e = .returned v ∧ SlAt w.heap.size (fun i => .int .u64 (nth ids0 i)) 4 w' v ∧ Below w.heap.size w w' := by
  go_enter Tryz.func5, Tryz.ntmps5
  go_wp2
  go_ret
  exact ⟨_, rfl, own_ints (own_lit w (ids0.map (Value.int .u64)) 31 w.heap.size _ 4 rfl rfl (Nat.le_refl _) (by simp [maxLen])), by (repeat (first | exact Below.refl _ _ | (with_reducible assumption) | (with_reducible refine bel_later ?_ _) | (with_reducible refine bel_alloc ?_ _) | (with_reducible refine bel_drew ?_) | (with_reducible refine bel_drewN ?_ _) | (with_reducible refine bel_set ?_ (by first | (simp; done) | (simp; omega) | (dsimp only; omega)) _)))⟩

/-- A ring of the call's own. -/
abbrev Ring0 (w wr : World) (rb mb : Nat) (g : Int → Nat) (f : RS) : Prop := RAt (fun b => w.heap.size ≤ b) wr rb mb g f
theorem kept_below {w a b : World} (h : RowKit.Below w.heap.size w a) (k : Kept (fun c => w.heap.size ≤ c) a b) : RowKit.Below w.heap.size w b :=
  h.trans (k.toBelow h.size (fun c hc => by omega))
end Go.Proofs.YtekinomnjgbgmaaGreat
