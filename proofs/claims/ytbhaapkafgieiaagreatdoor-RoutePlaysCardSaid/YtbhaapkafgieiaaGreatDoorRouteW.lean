/-
  RoutePlays, its arguments opened.
-/
import Derived.Test.YtbhaapkafgieiaaGreatDoorRouteP
namespace Go.Proofs.YtbhaapkafgieiaaGreatDoor
open Go.RowKit Go.Maps Go.Sort Go.WideShapes Go.ChangeShapes Go.Deep
set_option linter.unusedVariables false
set_option linter.unusedSimpArgs false

set_option maxRecDepth 100000 in
theorem routePlays_walk {H : Type} (enc : TypeId × Value → H) (W : World) (v0 : Value) (d0 : DataW H) (p0 : List MemPlace) {r0 : Reach} {b0 : Nat} (ok0 : Value.okWide Tryz.prog W r0 b0 22 v0) (h0 : DataW.Trod enc Tryz.prog W 0 (fun _ => true) true 22 v0 d0 p0)
    (hlt0 : ∀ x ∈ p0, x.block < W.heap.size) (sz0 : ∀ n ∈ d0.weights Tryz.prog 22, n ≤ reachBytes) (v1 : Value) (d1 : DataW H) (p1 : List MemPlace) {r1 : Reach} {b1 : Nat} (ok1 : Value.okWide Tryz.prog W r1 b1 23 v1) (h1 : DataW.Trod enc Tryz.prog W 0 (fun _ => true) true 23 v1 d1 p1)
    (hlt1 : ∀ x ∈ p1, x.block < W.heap.size) (sz1 : ∀ n ∈ d1.weights Tryz.prog 23, n ≤ reachBytes) (v2 : Value) (d2 : DataW H) (p2 : List MemPlace) {r2 : Reach} {b2 : Nat} (ok2 : Value.okWide Tryz.prog W r2 b2 39 v2) (h2 : DataW.Trod enc Tryz.prog W 0 (fun _ => true) true 39 v2 d2 p2)
    (hlt2 : ∀ x ∈ p2, x.block < W.heap.size) (sz2 : ∀ n ∈ d2.weights Tryz.prog 39, n ≤ reachBytes) (a3 : Int) (w3 : (Lit.int .i64 a3).wf = true) (a4 : Int) (w4 : (Lit.int .u64 a4).wf = true) (hg : HandleAt W) :
    Calls Tryz.prog 5 #[v0, v1, v2, .int .i64 a3, .int .u64 a4] W fun e W' => e = .returned (.bool true) ∧ RowKit.Below W.heap.size W W' := by
  obtain ⟨ids, hi, hp⟩ := ids_open ok0 h0
  obtain ⟨acts, ha, hao⟩ := acts_open ok1 h1
  obtain ⟨fx, hf, hfo⟩ := ints_open ok2 h2
  exact routePlays_main W hg v0 v1 v2 ids acts fx a3 a4 hi hp ha hao hf hfo w3 (placeOf w4)
end Go.Proofs.YtbhaapkafgieiaaGreatDoor
