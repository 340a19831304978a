/-
  RdvPlans: keepers and plans are as the page says, of the circles behind any calls; for every list of places, calls and of names; no conditions (errors.errorType is tied).
-/
import Derived.Test.YtahiahjhpakeiaaGreatDoorPlans26
import Derived.Test.YtahiahjhpakeiaaGreatDoorRows
import Derived.Test.YtahiahjhpakeiaaGreatDoorTie
import Derived.Test.YtahiahjhpakeiaaGreatDoorCards
import Derived.WalkKit
import Derived.ProofKit
import Derived.OpenShut
import Derived.ShutString
import Derived.ChangeOld
import Derived.ChangeSame
import Derived.ChangeVars
import Derived.Below
import Derived.SizedLaws
import Derived.Carry
import Derived.Deep.Slices
import Derived.JoinedOf
import Derived.RowKit
import Derived.RowKitTokens
import Derived.LaidLaws
import Derived.LaidHandle
import Derived.Stop.Joined
import Derived.SevenTiedAt
namespace Go.Proofs.YtahiahjhpakeiaaGreatDoor.rdvPlans
open Go.ChangeShapes Go.WideShapes Go.ChangeAt Go.RowKit
open Go.ChangeMaps (open_string shut_string)
set_option linter.unusedVariables false
set_option linter.unusedSimpArgs false
theorem own:ownKnob Tryz.prog.godebug=none:=by kernel_rfl
theorem laid:laidOutB Tryz.prog=true:=by kernel_rfl
abbrev LAID {H:Type}:List (String × DataW H):=[("errors.errorType",Rows.laid_errors_errorType)]
theorem et:Tryz.prog.globalNamed "errors.errorType" = some 0:=by kernel_rfl
theorem rt:(Tryz.prog.cutTypes.find? (·.1 == "internal/reflectlite.rtype")).map (·.2)=some 236:=by kernel_rfl
theorem oneRow:((List.range Tryz.prog.types.size).filter fun t=>Tryz.prog.rowNamed t [101,114,114,111,114])=[60]:=by kernel_rfl
theorem handle_of_laid {W:World} (h:laidMetH Tryz.prog LAID W):HandleAt W:=by
 have h':laidMet Tryz.prog [] W∧handlesMet Tryz.prog LAID W:=h
 obtain ⟨name,u,ty,e1,e2,e3,e4,e5⟩:=h'.2 _ (List.mem_singleton.2 rfl)
 have en:name=[101,114,114,111,114]:=(Option.some.inj e1).symm
 subst en
 obtain rfl:=Option.some.inj (rt.symm.trans e2)
 have hm:ty∈(List.range Tryz.prog.types.size).filter fun t=>Tryz.prog.rowNamed t [101,114,114,111,114]:=List.mem_filter.2 ⟨List.mem_range.2 e3,e4⟩
 rw [oneRow] at hm
 obtain rfl:=List.mem_singleton.1 hm
 have hh:typeHandle Tryz.prog 60 = .pointer (some ⟨1,60,none⟩):=by kernel_rfl
 rw [hh] at e5
 unfold HandleAt
 simpa using World.var?_cell et e5 0
noncomputable def laidWorld (os:Os):World :=
 let w0:=World.holding Tryz.prog os ⟨#[],#[],[]⟩
 { w0 with heap:=w0.heap.modify 0 fun
  | .cells _ t frozen=>.cells #[.iface 236 (.agg #[.pointer (some ⟨1,60,none⟩)])] t frozen
  | o=>o }
theorem laidWorld_met (os:Os) (args:Array Value):laidMetH Tryz.prog LAID ((laidWorld os).forCall (fun _ _=>0) ⟨#[],args,[]⟩).memory :=
 laidMetH_of_parts (laidMet_nil _ _) (by kernel_rfl)
set_option maxRecDepth 100000 in
theorem lifted (os:Os) (started:os.Started) (H:Type) (enc:TypeId × Value->H) :
 ReturnsInHanded {} Tryz.checked os 3 .any (fun w args=>(Rows.rdvPlansSpec.pre enc Tryz.prog Tryz.f3 [] false w args∧laidMetH Tryz.prog LAID w)∧sizedMet enc Tryz.prog Tryz.f3 (OpenSpec.ofChange Rows.rdvPlansSpec) false w args) (Rows.rdvPlansSpec.post enc Tryz.prog Tryz.f3 false true false false):=by
 refine returnsInHanded_of_change_and (C:=Tryz.checked) (X:=fun w _=>laidMetH Tryz.prog LAID w) (fun _ _ _ hh h=>h.of_heap hh) own started (by kernel_rfl) Tryz.func3
  (ChangeSpec.witness_at (enc:=enc) (C:=Tryz.checked) (os:=os) (X:=fun w _=>laidMetH Tryz.prog LAID w) false (laidWorld os) #[.slice none 0 0,.slice none 0 0,.slice none 0 0,.slice none 0 0] 8 rfl (by kernel_rfl) (by kernel_rfl) (by kernel_rfl) (by kernel_rfl) (by kernel_rfl) (laidWorld_met os _)) ?_
 intro W base args ds gs before hval0 hW hcnd hsz0 hL _
 have hg:=handle_of_laid hL
 have hsz:(DataW.weightsEach Tryz.prog (Tryz.f3.params.toList ++ Rows.rdvPlansSpec.plain.varTypes Tryz.prog) (ds ++ gs)).all (· <= reachBytes)=true:=hsz0
 have hval:∀ (j:Nat) t v,Tryz.f3.params[j]? = some t->args[j]? = some v->Value.okWide Tryz.prog W .any base t v:=hval0
 have hW':=hW
 obtain ⟨p,q,hA0,hV,rfl,hfz,hnd⟩:=hW
 have hA:DataW.TrodAll enc Tryz.prog W 0 (fun _=>true) true Tryz.f3.params.toList args.toList ds p:=hA0
 rw [Tryz.params3] at hA hval hsz
 obtain ⟨v0,vs0,d0,ds0,p0,q0,hargs,rfl,rfl,h0,r0⟩:=trodAll_cons hA
 obtain ⟨v1,vs1,d1,ds1,p1,q1,rfl,rfl,rfl,h1,r1⟩:=trodAll_cons r0
 obtain ⟨v2,vs2,d2,ds2,p2,q2,rfl,rfl,rfl,h2,r2⟩:=trodAll_cons r1
 obtain ⟨v3,vs3,d3,ds3,p3,q3,rfl,rfl,rfl,h3,r3⟩:=trodAll_cons r2
 obtain ⟨rfl,rfl,rfl⟩:=trodAll_nil r3
 obtain rfl:args = #[v0,v1,v2,v3]:=by cases args;simp_all
 obtain ⟨rfl,rfl⟩:=trodVars_none hV
 have hlt0:∀ x∈p0,x.block<W.heap.size:=fun x hx=>hW'.lt x (by simp [hx])
 have ok0:=hval 0 22 v0 rfl rfl
 have sz0:∀ n∈d0.weights Tryz.prog 22,n<=reachBytes:=fun n hn=>by
  have:=List.all_eq_true.1 hsz n (DataW.weights_mem_each (j:=0) rfl rfl n hn)
  simpa using this
 have hlt1:∀ x∈p1,x.block<W.heap.size:=fun x hx=>hW'.lt x (by simp [hx])
 have ok1:=hval 1 23 v1 rfl rfl
 have sz1:∀ n∈d1.weights Tryz.prog 23,n<=reachBytes:=fun n hn=>by
  have:=List.all_eq_true.1 hsz n (DataW.weights_mem_each (j:=1) rfl rfl n hn)
  simpa using this
 have hlt2:∀ x∈p2,x.block<W.heap.size:=fun x hx=>hW'.lt x (by simp [hx])
 have ok2:=hval 2 23 v2 rfl rfl
 have sz2:∀ n∈d2.weights Tryz.prog 23,n<=reachBytes:=fun n hn=>by
  have:=List.all_eq_true.1 hsz n (DataW.weights_mem_each (j:=2) rfl rfl n hn)
  simpa using this
 have hlt3:∀ x∈p3,x.block<W.heap.size:=fun x hx=>hW'.lt x (by simp [hx])
 have ok3:=hval 3 24 v3 rfl rfl
 have sz3:∀ n∈d3.weights Tryz.prog 24,n<=reachBytes:=fun n hn=>by
  have:=List.all_eq_true.1 hsz n (DataW.weights_mem_each (j:=3) rfl rfl n hn)
  simpa using this
 refine (rdvPlans_walk enc W v0 d0 p0 ok0 h0 hlt0 sz0 v1 d1 p1 ok1 h1 hlt1 sz1 v2 d2 p2 ok2 h2 hlt2 sz2 v3 d3 p3 ok3 h3 hlt3 sz3 hg).mono fun e W' ⟨he,bel⟩=>?_
 subst he
 exact ⟨_,rfl,_,_,_,[],_,[],hW',trodAll_mk1 (shut_bool Tryz.underlying4 _),(trodAll_cons_mk (Below.trod laid (by kernel_rfl) (of_decide_eq_true (by kernel_rfl)) h0 bel hlt0) (trodAll_cons_mk (Below.trod laid (by kernel_rfl) (of_decide_eq_true (by kernel_rfl)) h1 bel hlt1) (trodAll_cons_mk (Below.trod laid (by kernel_rfl) (of_decide_eq_true (by kernel_rfl)) h2 bel hlt2) (trodAll_cons_mk (Below.trod laid (by kernel_rfl) (of_decide_eq_true (by kernel_rfl)) h3 bel hlt3) trodAll_mk0)))),rfl,bel.frame _,fun h=>by cases h⟩
theorem over:Rows.rdvPlansRow.holds Tryz.pinned (OpenSpec.ofChange Rows.rdvPlansSpec) :=
 OpenClaim.holds_of_wide 3 Tryz.f3 rfl rfl rfl rfl rfl rfl rfl ⟨rfl,rfl,rfl,rfl,rfl⟩ rfl rfl rfl rfl rfl (by kernel_rfl) Tryz.func3 (by kernel_rfl)
  (of_decide_eq_true (by kernel_rfl)) (by unfold Func.isWrapper;first | (rw [if_pos (by decide +kernel)];kernel_rfl) | (rw [if_neg (by decide +kernel)];exact ⟨rfl,rfl⟩))
  (fun os started H enc _=>lifted os started H enc)
theorem card:Claim7.holds Tryz.pinned (.plain (OpenSpec.ofChange Rows.rdvPlansSpec)) Rows.rdvPlansCard :=
 Claim7.holds_tied_plain_at .later [] [.handle] true (true,"e131da7b95bccc5e0c77d045820bce60fa7e3420273e2d5d727c3c36977b353e") true
  over (fun _ h=>by cases h) (by kernel_rfl) (fun _ h=>by cases h) rdvPlans_row_tie rfl ⟨rfl,rfl⟩ (by kernel_rfl) rfl
  (fun f fn hf hfn=>by
    obtain rfl:f=3:=Option.some.inj ((show Tryz.prog.funcNamed "wigwag/wigwaglaw21.RdvPlans" = some 3 by kernel_rfl).symm.trans hf) |>.symm
    obtain rfl:fn=Tryz.f3:=(Option.some.inj (Tryz.func3.symm.trans hfn)).symm
    exact ⟨by kernel_rfl,fun j t ht=>by
     rw [Tryz.params3] at ht
     have hall:∀ t∈(#[22,23,23,24]:Array TypeId),Tryz.prog.wantsStandIn t=false:=by
      intro t ht
      simp only [List.mem_toArray,List.mem_cons,List.not_mem_nil,or_false] at ht
      rcases ht with rfl | rfl | rfl | rfl <;> kernel_rfl
     exact hall t (Array.mem_of_getElem? ht)⟩)
  (by kernel_rfl)
end Go.Proofs.YtahiahjhpakeiaaGreatDoor.rdvPlans
namespace Go.Proofs.YtahiahjhpakeiaaGreatDoor
theorem rdvPlans_holds:Rows.RdvPlansCardSaid:=rdvPlans.card
#print axioms rdvPlans_holds
end Go.Proofs.YtahiahjhpakeiaaGreatDoor
