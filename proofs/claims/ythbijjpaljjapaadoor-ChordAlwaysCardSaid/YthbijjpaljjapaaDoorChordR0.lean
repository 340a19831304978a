
/-
  Arguments opened; a ring on which all is as it should be.
-/
import Derived.Test.YthbijjpaljjapaaDoorChordQ
import Derived.WideShapes
import Derived.OpenShut
namespace Go.Proofs.YthbijjpaljjapaaDoor
open Go.RowKit Go.Maps Go.Sort Go.WideShapes Go.ChangeShapes
set_option linter.unusedVariables false
set_option linter.unusedSimpArgs false
attribute [local go_sem] later_cell later_frozen later_lt cell_set_off cell_set_block

theorem within_self (x b : Int) : withinB x x b = false := by unfold withinB; split <;> simp
theorem setM_self {f : RS} {n : Int} {m : Mem} (h : f n = some m) : setM f n m = f := by
  funext j; unfold setM; split
  · rename_i e; rw [e, h]
  · rfl
theorem atI_add4 (ids s : List Int) (t : Int) : atI ids s (t + 4) = atI ids s t := by
  rw [atI_mod ids s (t + 4), atI_mod ids s t]; congr 2; omega
/-- A base member that looks learns nothing. -/
theorem stab_quiet {ids s : List Int} (h : Four ids s) {n : Int} (hn : livesR (newF ids s 4) n = true) : stabR (newF ids s 4) n = newF ids s 4 := by
  obtain ⟨h0, h4⟩ := (h.lives_iff n).1 hn
  obtain ⟨j, hj, rfl, _⟩ := h.onto h0 h4
  have eT : stabT (newF ids s 4) (atI ids s j) = atI ids s (j + 1) := by
    unfold stabT
    rw [h.head_at, h.pred_at, show (j : Int) + 1 - 1 = j by omega]
    unfold nearR
    rw [within_self, Bool.and_false]
    rfl
  have e1 : stab1 (newF ids s 4) (atI ids s j) = newF ids s 4 := by
    unfold stab1
    refine setM_self ?_
    rw [eT, h.succ_at, h.lives_at]
    unfold idR predR
    rw [h.mk_at]
    have hs := h.succ_at (j : Int)
    unfold succR at hs
    rw [h.mk_at] at hs
    have e4 := atI_add4 ids s j
    rw [show (j : Int) + 1 + 1 = j + 2 by omega, show (j : Int) + 1 + 2 = j + 3 by omega, show (j : Int) + 1 + 3 = j + 4 by omega]
    show some _ = some (Mem.mk _ _ _ _)
    unfold followL
    simp only [List.take_succ_cons, List.take_zero]
    rw [← hs]
    rfl
  unfold stabR
  rw [e1, eT]
  refine setM_self ?_
  rw [h.pred_at, show (j : Int) + 1 - 1 = j by omega]
  have hr : rectR (newF ids s 4) (idR (newF ids s 4) (atI ids s (j + 1))) (atI ids s j) (atI ids s j) = atI ids s j := by
    unfold rectR; rw [ite_self]
  rw [hr]
  have hp := h.pred_at ((j : Int) + 1)
  rw [show (j : Int) + 1 - 1 = j by omega] at hp
  rw [← hp]
  unfold livesR idR predR succR
  rw [h.mk_at]
/-- Arguments opened: places, numbers. -/
theorem placeOf {a : Int} (h : (Lit.int .u64 a).wf = true) : isPlace a := by
  simp [Lit.wf, IntKind.min, IntKind.max, IntKind.bits, IntKind.signed] at h; unfold isPlace; omega
theorem cellsId1 : Tryd.prog.cellsOf 31 = 1 := by kernel_rfl
theorem cellsInt1 : Tryd.prog.cellsOf 3 = 1 := by kernel_rfl
set_option maxRecDepth 100000 in
theorem ids_open {H : Type} {enc : TypeId × Value → H} {W : World} {v0 : Value} {d0 : DataW H} {p0 : List MemPlace} {r0 : Reach} {b0 : Nat} (ok0 : Value.okWide Tryd.prog W r0 b0 22 v0) (h0 : DataW.Trod enc Tryd.prog W 0 (fun _ => true) true 22 v0 d0 p0) :
    ∃ l : List Int, SlAt 0 (fun i => .int .u64 (nth l i)) l.length W v0 ∧ ∀ z ∈ l, isPlace z := by
  obtain ⟨a, n, c, rfl⟩ := okWide_slice Tryd.underlying22 ok0
  obtain ⟨fuel, hf⟩ := h0
  obtain ⟨l, hl, hw⟩ := ints_of_trod Tryd.underlying22 cellsId1 Tryd.underlying31 hf
  exact ⟨l, hl, fun z hz => placeOf (hw z hz)⟩
set_option maxRecDepth 100000 in
theorem ints_open {H : Type} {enc : TypeId × Value → H} {W : World} {v0 : Value} {d0 : DataW H} {p0 : List MemPlace} {r0 : Reach} {b0 : Nat} (ok0 : Value.okWide Tryd.prog W r0 b0 38 v0) (h0 : DataW.Trod enc Tryd.prog W 0 (fun _ => true) true 38 v0 d0 p0) :
    ∃ l : List Int, SlAt 0 (fun i => .int .i64 (nth l i)) l.length W v0 ∧ ∀ z ∈ l, okInt z := by
  obtain ⟨a, n, c, rfl⟩ := okWide_slice Tryd.underlying38 ok0
  obtain ⟨fuel, hf⟩ := h0
  obtain ⟨l, hl, hw⟩ := ints_of_trod Tryd.underlying38 cellsInt1 Tryd.underlying3 hf
  exact ⟨l, hl, hw⟩
/-- Who is refused says so at once. -/
def OneYes (W : World) (e : Ending) (W' : World) : Prop := e = .returned (.bool true) ∧ RowKit.Below W.heap.size W W'
end Go.Proofs.YthbijjpaljjapaaDoor
