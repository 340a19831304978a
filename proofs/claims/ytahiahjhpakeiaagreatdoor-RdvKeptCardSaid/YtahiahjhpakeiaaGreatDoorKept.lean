/-
  RdvKept: as long as at most two members go between two plans that are done, each wish that was put is at all keepers of its group; for every list of calls; no conditions (errors.errorType is tied).
-/
import Derived.Test.YtahiahjhpakeiaaGreatDoorKept28
import Derived.Test.YtahiahjhpakeiaaGreatDoorRows
import Derived.Test.YtahiahjhpakeiaaGreatDoorTie
import Derived.Test.YtahiahjhpakeiaaGreatDoorCards
import Derived.WalkKit
import Derived.ProofKit
import Derived.OpenShut
import Derived.ShutString
import Derived.ChangeOld
import Derived.ChangeSame
import Derived.ChangeVars
import Derived.Below
import Derived.SizedLaws
import Derived.Carry
import Derived.Deep.Slices
import Derived.JoinedOf
import Derived.RowKit
import Derived.RowKitTokens
import Derived.LaidLaws
import Derived.LaidHandle
import Derived.Stop.Joined
import Derived.SevenTiedAt
namespace Go.Proofs.YtahiahjhpakeiaaGreatDoor.rdvKept
open Go.ChangeShapes Go.WideShapes Go.ChangeAt Go.RowKit
open Go.ChangeMaps (open_string shut_string)
set_option linter.unusedVariables false
set_option linter.unusedSimpArgs false
theorem own : ownKnob Tryz.prog.godebug = none := by kernel_rfl
theorem laid : laidOutB Tryz.prog = true := by kernel_rfl
abbrev LAID {H : Type} : List (String × DataW H) := [("errors.errorType", Rows.laid_errors_errorType)]
theorem et : Tryz.prog.globalNamed "errors.errorType" = some 0 := by kernel_rfl
theorem rt : (Tryz.prog.cutTypes.find? (·.1 == "internal/reflectlite.rtype")).map (·.2) = some 236 := by kernel_rfl
theorem oneRow : ((List.range Tryz.prog.types.size).filter fun t => Tryz.prog.rowNamed t [101, 114, 114, 111, 114]) = [60] := by kernel_rfl
/-- What the condition gives a walk: the variable's one cell. -/
theorem handle_of_laid {W : World} (h : laidMetH Tryz.prog LAID W) : HandleAt W := by
  have h' : laidMet Tryz.prog [] W ∧ handlesMet Tryz.prog LAID W := h
  obtain ⟨name, u, ty, e1, e2, e3, e4, e5⟩ := h'.2 _ (List.mem_singleton.2 rfl)
  have en : name = [101, 114, 114, 111, 114] := (Option.some.inj e1).symm
  subst en
  obtain rfl := Option.some.inj (rt.symm.trans e2)
  have hm : ty ∈ (List.range Tryz.prog.types.size).filter fun t => Tryz.prog.rowNamed t [101, 114, 114, 111, 114] := List.mem_filter.2 ⟨List.mem_range.2 e3, e4⟩
  rw [oneRow] at hm
  obtain rfl := List.mem_singleton.1 hm
  have hh : typeHandle Tryz.prog 60 = .pointer (some ⟨1, 60, none⟩) := by kernel_rfl
  rw [hh] at e5
  unfold HandleAt
  simpa using World.var?_cell et e5 0
/-- A world that meets the condition. -/
noncomputable def laidWorld (os : Os) : World :=
  let w0 := World.holding Tryz.prog os ⟨#[], #[], []⟩
  { w0 with heap := w0.heap.modify 0 fun
      | .cells _ t frozen => .cells #[.iface 236 (.agg #[.pointer (some ⟨1, 60, none⟩)])] t frozen
      | o => o }
theorem laidWorld_met (os : Os) (args : Array Value) : laidMetH Tryz.prog LAID ((laidWorld os).forCall (fun _ _ => 0) ⟨#[], args, []⟩).memory :=
  laidMetH_of_parts (laidMet_nil _ _) (by kernel_rfl)
set_option maxRecDepth 100000 in
theorem lifted (os : Os) (started : os.Started) (H : Type) (enc : TypeId × Value → H) :
    ReturnsInHanded {} Tryz.checked os 7 .any (fun w args => (Rows.rdvKeptSpec.pre enc Tryz.prog Tryz.f7 [] false w args ∧ laidMetH Tryz.prog LAID w) ∧ sizedMet enc Tryz.prog Tryz.f7 (OpenSpec.ofChange Rows.rdvKeptSpec) false w args) (Rows.rdvKeptSpec.post enc Tryz.prog Tryz.f7 false true false false) := by
  refine returnsInHanded_of_change_and (C := Tryz.checked) (X := fun w _ => laidMetH Tryz.prog LAID w) (fun _ _ _ hh h => h.of_heap hh) own started (by kernel_rfl) Tryz.func7
    (ChangeSpec.witness_at (enc := enc) (C := Tryz.checked) (os := os) (X := fun w _ => laidMetH Tryz.prog LAID w) false (laidWorld os) #[.slice none 0 0] 8 rfl (by kernel_rfl) (by kernel_rfl) (by kernel_rfl) (by kernel_rfl) (by kernel_rfl) (laidWorld_met os _)) ?_
  intro W base args ds gs before hval0 hW hcnd hsz0 hL _
  have hg := handle_of_laid hL
  have hsz : (DataW.weightsEach Tryz.prog (Tryz.f7.params.toList ++ Rows.rdvKeptSpec.plain.varTypes Tryz.prog) (ds ++ gs)).all (· ≤ reachBytes) = true := hsz0
  have hval : ∀ (j : Nat) t v, Tryz.f7.params[j]? = some t → args[j]? = some v → Value.okWide Tryz.prog W .any base t v := hval0
  have hW' := hW
  obtain ⟨p, q, hA0, hV, rfl, hfz, hnd⟩ := hW
  have hA : DataW.TrodAll enc Tryz.prog W 0 (fun _ => true) true Tryz.f7.params.toList args.toList ds p := hA0
  rw [Tryz.params7] at hA hval hsz
  obtain ⟨v0, vs0, d0, ds0, p0, q0, hargs, rfl, rfl, h0, r0⟩ := trodAll_cons hA
  obtain ⟨rfl, rfl, rfl⟩ := trodAll_nil r0
  obtain rfl : args = #[v0] := by cases args; simp_all
  obtain ⟨rfl, rfl⟩ := trodVars_none hV
  have hlt0 : ∀ x ∈ p0, x.block < W.heap.size := fun x hx => hW'.lt x (by simp [hx])
  have ok0 := hval 0 71 v0 rfl rfl
  have sz0 : ∀ n ∈ d0.weights Tryz.prog 71, n ≤ reachBytes := fun n hn => by
    have := List.all_eq_true.1 hsz n (DataW.weights_mem_each (j := 0) rfl rfl n hn)
    simpa using this
  refine (rdvKept_walk enc W v0 d0 p0 ok0 h0 hlt0 sz0 hg).mono fun e W' ⟨he, bel⟩ => ?_
  subst he
  exact ⟨_, rfl, _, _, _, [], _, [], hW', trodAll_mk1 (shut_bool Tryz.underlying4 _), (trodAll_cons_mk (Below.trod laid (by kernel_rfl) (of_decide_eq_true (by kernel_rfl)) h0 bel hlt0) trodAll_mk0), rfl, bel.frame _, fun h => by cases h⟩
theorem over : Rows.rdvKeptRow.holds Tryz.pinned (OpenSpec.ofChange Rows.rdvKeptSpec) :=
  OpenClaim.holds_of_wide 7 Tryz.f7 rfl rfl rfl rfl rfl rfl rfl ⟨rfl, rfl, rfl, rfl, rfl⟩ rfl rfl rfl rfl rfl (by kernel_rfl) Tryz.func7 (by kernel_rfl)
    (of_decide_eq_true (by kernel_rfl)) (by unfold Func.isWrapper; first | (rw [if_pos (by decide +kernel)]; kernel_rfl) | (rw [if_neg (by decide +kernel)]; exact ⟨rfl, rfl⟩))
    (fun os started H enc _ => lifted os started H enc)
/-- The tied card. -/
theorem card : Claim7.holds Tryz.pinned (.plain (OpenSpec.ofChange Rows.rdvKeptSpec)) Rows.rdvKeptCard :=
  Claim7.holds_tied_plain_at .later [] [.handle] true (true, "e131da7b95bccc5e0c77d045820bce60fa7e3420273e2d5d727c3c36977b353e") true
    over (fun _ h => by cases h) (by kernel_rfl) (fun _ h => by cases h) rdvKept_row_tie rfl ⟨rfl, rfl⟩ (by kernel_rfl) rfl
    (fun f fn hf hfn => by
      obtain rfl : f = 7 := Option.some.inj ((show Tryz.prog.funcNamed "wigwag/wigwaglaw21.RdvKept" = some 7 by kernel_rfl).symm.trans hf) |>.symm
      obtain rfl : fn = Tryz.f7 := (Option.some.inj (Tryz.func7.symm.trans hfn)).symm
      exact ⟨by kernel_rfl, fun j t ht => by
        rw [Tryz.params7] at ht
        have hall : ∀ t ∈ (#[71] : Array TypeId), Tryz.prog.wantsStandIn t = false := by
          intro t ht
          simp only [List.mem_toArray, List.mem_cons, List.not_mem_nil, or_false] at ht
          rcases ht with rfl <;> kernel_rfl
        exact hall t (Array.mem_of_getElem? ht)⟩)
    (by kernel_rfl)
end Go.Proofs.YtahiahjhpakeiaaGreatDoor.rdvKept
namespace Go.Proofs.YtahiahjhpakeiaaGreatDoor
/-- RdvKept: as long as at most two members go between two plans that are done, each wish that was put is at all keepers of its group; for every list of calls; no conditions (errors.errorType is tied). -/
theorem rdvKept_holds : Rows.RdvKeptCardSaid := rdvKept.card
#print axioms rdvKept_holds
end Go.Proofs.YtahiahjhpakeiaaGreatDoor
