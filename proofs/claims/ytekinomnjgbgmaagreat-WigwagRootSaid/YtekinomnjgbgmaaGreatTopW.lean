/-
  WigwagRoot, its arguments opened.
-/
import Derived.Test.YtekinomnjgbgmaaGreatTopR
namespace Go.Proofs.YtekinomnjgbgmaaGreat
open Go.RowKit Go.Maps Go.Sort Go.WideShapes Go.ChangeShapes Go.Deep
set_option linter.unusedVariables false
set_option linter.unusedSimpArgs false

set_option maxRecDepth 100000 in
theorem wigwagRoot_walk {H : Type} (enc : TypeId × Value → H) (W : World) (v0 : Value) (d0 : DataW H) (p0 : List MemPlace) {r0 : Reach} {b0 : Nat} (ok0 : Value.okWide Tryz.prog W r0 b0 22 v0) (h0 : DataW.Trod enc Tryz.prog W 0 (fun _ => true) true 22 v0 d0 p0)
    (hlt0 : ∀ x ∈ p0, x.block < W.heap.size) (sz0 : ∀ n ∈ d0.weights Tryz.prog 22, n ≤ reachBytes) (a1 : ByteArray) (y1 : a1.size ≤ 140737488351232) :
    Calls Tryz.prog 3 #[v0, .string a1] W fun e W' => e = .returned (.bool true) ∧ RowKit.Below W.heap.size W W' := by
  obtain ⟨acts, ha, hao⟩ := acts_open ok0 h0
  exact wigwagRoot_main W v0 acts a1 ha hao
end Go.Proofs.YtekinomnjgbgmaaGreat
