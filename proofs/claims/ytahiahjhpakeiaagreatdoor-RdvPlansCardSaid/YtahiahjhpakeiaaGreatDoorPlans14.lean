/-
  chord.Join. chord.Fail. The laws' own answers that the document fixes (awake). Arguments opened; a ring on which all is as it should be. Calls on a ring: what each leaves, as one step; a list of calls, opened. Each call on a ring as one step: the code that it answers, the ring that it leaves.
-/
import Derived.Test.YtahiahjhpakeiaaGreatDoorPlans13
import Derived.Test.YtahiahjhpakeiaaGreatDoorPlans2
import Derived.Test.YtahiahjhpakeiaaGreatDoorPlans6
import Derived.WideShapes
import Derived.OpenShut
import Derived.Deep.Fields
import Derived.ChangeSame
section
namespace Go.Proofs.YtahiahjhpakeiaaGreatDoor
open Go.RowKit Go.Maps Go.Sort
set_option linter.unusedVariables false
set_option linter.unusedSimpArgs false
attribute [local go_sem] later_cell later_frozen later_lt cell_set_off cell_set_block
theorem join_member {S:Nat->Prop} {wr w6 W w8:World} {b rb mb:Nat} {g:Int->Nat} {f:RS} {n:Int} {M:Mem} {sv:Value} (h:RAt S wr rb mb g f) (hn:f n=none)
 (hB:RowKit.Below wr.heap.size wr w6) (hB6:RowKit.Below w6.heap.size w6 W) (hb1:w6.heap.size<=b) (hb2:b<W.heap.size) (hd:Dom (setM f n M))
 (hfz:∀ o,W.frozen? ⟨b,o,none⟩=false) (c0:W.cell? ⟨b,0,none⟩=some (.bool M.live)) (c1:W.cell? ⟨b,1,none⟩=some (.int .u64 M.id)) (c2:W.cell? ⟨b,2,none⟩=some (.int .i64 M.pred)) (c3:W.cell? ⟨b,3,none⟩=some sv)
 (hsv:SlAt wr.heap.size (fun i=>.int .i64 (nth M.succ i)) M.succ.length w6 sv)
 (hmap:MapAt Tryz.prog 3 w8 mb (cntM f+1) (setF (ptrM f g) n b)) (hg:W.grownBy w8 (some mb)):RAt S w8 rb mb (fun j=>if j=n then b else g j) (setM f n M):=by
 have hBW:=bel_below hB hB6
 have hsz:W.heap.size<=w8.heap.size:=hg.size
 have s1:=hB.size
 have s2:=hB6.size
 have hz:=h.rbz
 have hmz:=h.mbz
 have hne:b≠mb:=by omega
 have hfar:∀ c,c<W.heap.size->c≠mb->w8.heap[c]? = W.heap[c]?:=fun c hc hcm=>hg.block c hc (by simpa using hcm)
 refine h.add hn (by omega) (by omega) (by omega) (fun c hc hcm=>?_) hd (fun o=>?_) hmap ((World.cell?_of_block (hfar b hb2 hne)).trans c0) ((World.cell?_of_block (hfar b hb2 hne)).trans c1) ((World.cell?_of_block (hfar b hb2 hne)).trans c2) ((World.cell?_of_block (hfar b hb2 hne)).trans c3) ?_
 · rw [hfar c (by omega) hcm,hBW.block c hc]
 · exact (World.frozen?_of_block (hfar b hb2 hne)).trans (hfz o)
 · obtain ⟨a,cap,rfl,k1,k2,k3,k4⟩:=hsv
   refine ⟨a,cap,rfl,k1,k2,k3,k4.imp id ?_⟩
   rintro ⟨q,off,rfl,q1,q2,q3⟩
   have hqW:q<W.heap.size:=by omega
   obtain ⟨f1,f2,f3,f4⟩:=h.fresh q1
   refine ⟨q,off,rfl,⟨f1,f2,f3,by omega,f4⟩,by omega,fun i hi=>?_⟩
   rw [World.cell?_of_block (hfar q hqW f3),hB6.cell (p:=⟨q,off+i,none⟩) q2]
   exact q3 i hi
variable {S:Nat->Prop} {w:World} {rb mb:Nat} {g:Int->Nat} {f:RS}
def JoinPost (S:Nat->Prop) (w:World) (rb mb:Nat) (f:RS) (n id via:Int) (e:Ending) (w':World):Prop :=
 if joinC f n id via=0 then e = .returned .nilIface∧Kept S w w' ∧ ∃ g',RAt S w' rb mb g' (joinR f n id via) else ∃ v,e = .returned v∧IsErr w.heap.size w' v (joinC f n id via)∧RowKit.Below w.heap.size w w'
theorem IsErr.base {B B':Nat} {w:World} {v:Value} {c:Int} (h:IsErr B w v c) (hb:B'<=B):IsErr B' w v c:=by
 obtain ⟨b,rfl,h1,h2⟩:=h
 exact ⟨b,rfl,by omega,h2⟩
set_option maxRecDepth 100000 in
set_option maxHeartbeats 8000000 in
theorem join_at (h:RAt S w rb mb g f) (hh:Heads f) (n id via:Int) (hn:okInt n) (hv:okInt via) (hid:isPlace id) :
 Calls Tryz.prog 19 #[.pointer (some ⟨rb,0,none⟩),.int .i64 n,.int .u64 id,.int .i64 via] w (JoinPost S w rb mb f n id via):=by
 have HNo:Hid (∀ (c:Int) e w',joinC f n id via=c->c≠0->(∃ v,e = .returned v∧IsErr w.heap.size w' v c∧RowKit.Below w.heap.size w w')->JoinPost S w rb mb f n id via e w'):=fun c e w' h1 h2 h3=>by
  unfold JoinPost;rw [h1,if_neg h2];exact h3
 have HYes:Hid (∀ e w',joinC f n id via=0->e = .returned .nilIface->Kept S w w'->(∃ g',RAt S w' rb mb g' (joinR f n id via))->JoinPost S w rb mb f n id via e w'):=fun e w' h1 h2 h3 h4=>by
  unfold JoinPost;rw [if_pos h1];exact ⟨h2,h3,h4⟩
 have r0:=h.root
 have z0:=h.rbz
 by_cases hr:n<0∨32<=n
 · have hc:Hid (joinC f n id via=1):=show joinC f n id via=1 by unfold joinC;rw [if_pos hr]
   clear h
   rcases hr with hr | hr
   all_goals
    go_enter Tryz.func19,Tryz.ntmps19
    go_wp2_with fail
    refine (fault_any _ _).mono ?_
    rintro e w' ⟨v,rfl,hE,hB⟩
    go_wp2_with fail
    go_ret
    exact HNo.out 1 _ _ hc.out (by decide) ⟨_,rfl,hE,hB⟩
 have hr0:0<=n:=by omega
 have hr1:n<32:=by omega
 have HR:=Lib.hid hr
 clear hr
 cases hfn:f n with
 | some m =>
   have hc:Hid (joinC f n id via=7):=show joinC f n id via=7 by unfold joinC;rw [if_neg HR.out,hfn];rfl
   obtain ⟨_,_,_,zn,ln⟩:=h.at hfn hn
   clear h hfn
   go_enter Tryz.func19,Tryz.ntmps19
   go_wp2_with fail
   refine (fault_any _ _).mono ?_
   rintro e w' ⟨v,rfl,hE,hB⟩
   go_wp2_with fail
   go_ret
   exact HNo.out 7 _ _ hc.out (by decide) ⟨_,rfl,hE,hB⟩
 | none =>
   have ln:=h.out hfn hn
   have cl:=Lib.hid (lives_at h via hv)
   cases hlv:livesR f via with
   | false =>
     have hc:Hid (joinC f n id via=6):=show joinC f n id via=6 by unfold joinC;rw [if_neg HR.out,hfn,hlv];rfl
     rw [hlv] at cl
     clear h hfn
     go_enter Tryz.func19,Tryz.ntmps19
     go_wp2_with (go_at_call 20;refine cl.out.mono ?_;rintro e w' ⟨rfl,rfl⟩)
     refine (fault_any _ _).mono ?_
     rintro e w' ⟨v,rfl,hE,hB⟩
     go_wp2_with fail
     go_ret
     exact HNo.out 6 _ _ hc.out (by decide) ⟨_,rfl,hE,hB⟩
   | true =>
     rw [hlv] at cl
     have H:=Lib.hid h
     have HH:=Lib.hid hh
     have HF:=Lib.hid hfn
     have HV:=Lib.hid hlv
     have CL:=Lib.hid (live_at h)
     have hdm:=Lib.hid (fun x (hx:x∈liveL f)=>(mem_liveL h.dom).1 hx)
     have hlen:=length_liveL f
     have hC4:Hid (joinC f n id via=if (liveL f).any (fun k=>idR f k == id) then 8 else match joinAt f id 33 via with | some _=>0 | none=>5) :=
      show joinC f n id via=_ by unfold joinC;rw [if_neg HR.out,hfn,hlv];rfl
     obtain ⟨L,hL⟩:∃ L,L=liveL f:=⟨_,rfl⟩
     rw [← hL] at CL hdm hlen hC4
     clear h hh hfn hlv hL
     go_enter Tryz.func19,Tryz.ntmps19
     go_wp2_with (go_at_call 20;refine cl.out.mono ?_;rintro e w' ⟨rfl,rfl⟩)
     refine CL.out.mono ?_
     rintro e w1 ⟨v,rfl,hs,hB⟩
     obtain ⟨a,q,rfl,_⟩:=hs.slice
     have HS:=Lib.hid hs
     have HB:=Lib.hid hB
     clear hs hB
     go_wp2_with fail
     go_loopw [10,37] (fun _ i wr=>∃ k:Nat,k<=L.length∧i = .int .i64 k∧wr=w1∧Hid (∀ j,j<k->idR f (nth L j)≠id)) (fun _ i _=>L.length - (intOf i).toNat)
     case atStart=>exact ⟨0,Nat.zero_le _,rfl,rfl,fun j hj=>absurd hj (by omega)⟩
     case round =>
      obtain ⟨k,hk,rfl,rfl,hno⟩:=hrel
      by_cases hlt:k<L.length
      · obtain ⟨b,off,rfl,_,hb,hc⟩:=HS.out.at k hlt wr (RowKit.Below.refl _ _)
        have hin:nth L k∈L:=nth_mem.2 ⟨k,hlt,rfl⟩
        have hdk:=livesR_dom H.out.dom (hdm.out _ hin)
        have ci:=Lib.hid (id_at (H.out.below HB.out) (nth L k) (okInt_dom (by omega) (by omega)))
        by_cases he:idR f (nth L k)=id
        · have hC:Hid (joinC f n id via=8):=show joinC f n id via=8 by rw [hC4.out,if_pos (List.any_eq_true.2 ⟨_,hin,by simpa using he⟩)]
          rw [he] at ci
          clear hdk hin he
          go_wp2_with fail
          refine ci.out.mono ?_
          rintro e w' ⟨rfl,rfl⟩
          go_wp2_with fail
          refine (fault_any _ _).mono ?_
          rintro e w' ⟨v,rfl,hE,hB⟩
          go_wp2_with fail
          go_ret
          exact HNo.out 8 _ _ hC.out (by decide) ⟨_,rfl,hE.base HB.out.size,bel_below HB.out hB⟩
        · have heb:(idR f (nth L k) == id)=false:=by simpa using he
          have HE:=Lib.hid he
          clear hdk hin he
          go_wp2_with fail
          refine ci.out.mono ?_
          rintro e w' ⟨rfl,rfl⟩
          go_wp2_with fail
          go_roundw
          case rel =>
           go_light
           refine ⟨k+1,by omega,by go_num,trivial,fun j hj=>?_⟩
           by_cases e:j=k
           · subst e;exact HE.out
           · exact hno.out j (by omega)
          case measure=>go_light;simp [intOf];omega
      · obtain rfl:k=L.length:=by omega
        have hC5:Hid (joinC f n id via=match joinAt f id 33 via with | some _=>0 | none=>5):=show joinC f n id via=_ by
         rw [hC4.out,if_neg]
         intro h
         obtain ⟨x,hx,e⟩:=List.any_eq_true.1 h
         obtain ⟨j,hj,rfl⟩:=nth_mem.1 hx
         exact hno.out j hj (by simpa using e)
        clear hlt
        go_wp2_with fail
        have hB0:=HB.out
        go_loopw [11,12,13,49] (fun at_ _ _ i wr2=>∃ (k:Nat) (x:Int),k<=33∧i = .int .i64 k∧at_ = .int .i64 x∧Hid (livesR f x=true∧joinAt f id 33 via=joinAt f id (33 - k) x)∧Hid (RowKit.Below w.heap.size w wr2)) (fun _ _ _ i _=>33 - (intOf i).toNat)
        case atStart=>exact ⟨0,via,by omega,rfl,rfl,⟨HV.out,rfl⟩,hB0⟩
        case round =>
         obtain ⟨k,x,hk,rfl,rfl,hx,hB2⟩:=hrel
         by_cases hlt:k<33
         · have h2:=H.out.below hB2.out
           have hxd:=livesR_dom H.out.dom hx.out.1
           have okx:okInt x:=okInt_dom (by omega) (by omega)
           obtain ⟨m,hm,hml⟩:=livesR_some hx.out.1
           obtain ⟨c0,c1,c2,zn,lx⟩:=h2.at hm okx
           obtain ⟨_,_,_,v3,c3,hv3⟩:=h2.mem x m hm
           obtain ⟨a3,q3,rfl,_⟩:∃ a c,v3 = .slice a m.succ.length c∧True:=by obtain ⟨a,c,rfl,_⟩:=hv3;exact ⟨a,c,rfl,trivial⟩
           have r2:=h2.root
           have z2:=h2.rbz
           have hd:=h2.dom x m hm
           have HV3:=Lib.hid hv3.slAt
           have hl3:m.succ.length<=3:=hd.2.2.2.1
           have hidx:Hid (idR f x=m.id):=show idR f x=m.id by unfold idR;rw [hm]
           have hsx:Hid (succR f x=m.succ):=show succR f x=m.succ by unfold succR;rw [hm]
           have hhx:Hid (headR f x=headL f m.succ):=show headR f x=headL f m.succ by unfold headR;rw [hsx.out]
           have hnx:=Lib.hid (HH.out x hx.out.1)
           have hwB:Hid (RowKit.Below w.heap.size w (wr.alloc (.cells #[.int .u64 m.id,.int .i64 m.pred,.slice a3 m.succ.length q3] 67))):=bel_alloc hB2.out _
           have ch:=Lib.hid (head_at (H.out.below hwB.out) m.succ (by omega) (fun y hy=>okInt_dom (by have:=hd.2.2.2.2.2 y hy;omega) (by have:=hd.2.2.2.2.2 y hy;omega)) (.slice a3 m.succ.length q3) (HV3.out.below (bel_alloc (RowKit.Below.refl _ _) _)) m.id m.pred)
           have HM:=Lib.hid hm
           clear h2 hm hml hv3 hd hxd
           go_wp2_with fail
           refine ch.out.mono ?_
           rintro e w5 ⟨rfl,hB5⟩
           obtain ⟨y,hy⟩:∃ y,y=headL f m.succ:=⟨_,rfl⟩
           rw [← hy] at hhx ⊢
           have hyl:Hid (livesR f y=true):=show livesR f y=true by rw [← hhx.out];exact hnx.out
           have hyd:=livesR_dom H.out.dom hyl.out
           have oky:okInt y:=okInt_dom (by omega) (by omega)
           have p0:w5.cell? ⟨wr.heap.size,0,none⟩=some (.int .u64 m.id):=by rw [hB5.cell (by simp)];simp [go_sem]
           have p2:w5.cell? ⟨wr.heap.size,2,none⟩=some (.slice a3 m.succ.length q3):=by rw [hB5.cell (by simp)];simp [go_sem]
           have hp5:wr.heap.size<w5.heap.size:=by have:=hB5.size;simp at this;omega
           have B5:=Lib.hid (bel_below hwB.out hB5)
           have V5:=Lib.hid ((HV3.out.below (bel_alloc (RowKit.Below.refl _ _) _)).below hB5)
           have cd:=Lib.hid (fun wr' (hb:RowKit.Below w5.heap.size w5 wr')=>id_at (H.out.below (bel_below B5.out hb)) y oky)
           have hx':=Lib.hid hx.out.2
           have hxl:=Lib.hid hx.out.1
           clear hy hyd c0 c1 c2 c3 zn lx r2 z2 hB5
           cases hw:withinB id m.id (idR f y) with
           | false =>
             have CW:Hid (∀ w',Calls Tryz.prog 72 #[.int .u64 id,.int .u64 m.id,.int .u64 (idR f y)] w' fun e w''=>e = .returned (.bool false)∧w'=w''):=fun w'=>hw ▸ within_any _ _ _ _
             have hj:Hid (joinAt f id 33 via=joinAt f id (33 - (k+1)) y):=show joinAt f id 33 via=_ by
              rw [hx'.out,show 33 - k=(33 - (k+1))+1 by omega]
              show (if _ then _ else _)=_
              rw [hhx.out,hidx.out,hw]
              rfl
             clear hw
             go_wp2_with fail
             refine wp_region_calm (by kernel_rfl) (by kernel_rfl) ?_
             repeat (first | (go_big_quiet_step ((first | (go_at_call 43;exact calls_calm_same (cd.out _ (by (repeat (first | exact Below.refl _ _ | (with_reducible assumption) | (with_reducible refine bel_later ?_ _) | (with_reducible refine bel_alloc ?_ _) | (with_reducible refine bel_drew ?_) | (with_reducible refine bel_drewN ?_ _) | (with_reducible refine bel_set ?_ (by first | (simp;done) | (simp;omega) | (dsimp only;omega)) _)))))) | (go_at_call 72;exact calls_calm_same (CW.out _))))) | (refine wpQuiet_step (fun K hK=>?_);go_simp;first | (refine hK _ ?_;clear hK K) | (apply Exists.intro;refine ⟨fun _=>?_,hK _ ?_⟩;(first | (go_at_call 43;exact calls_calm_same (cd.out _ (by (repeat (first | exact Below.refl _ _ | (with_reducible assumption) | (with_reducible refine bel_later ?_ _) | (with_reducible refine bel_alloc ?_ _) | (with_reducible refine bel_drew ?_) | (with_reducible refine bel_drewN ?_ _) | (with_reducible refine bel_set ?_ (by first | (simp;done) | (simp;omega) | (dsimp only;omega)) _)))))) | (go_at_call 72;exact calls_calm_same (CW.out _)));clear hK K)))
             refine wpQuiet_nil ?_
             intro _ hw'
             obtain ⟨xq,hw''⟩:=hw'
             subst hw''
             go_wp2_with fail
             go_roundw
             case rel=>go_light;exact ⟨k+1,y,by omega,by go_num,rfl,⟨hyl.out,hj.out⟩,bel_later B5.out xq⟩
             case measure=>go_light;simp [intOf];omega
           | true =>
             have CW:Hid (∀ w',Calls Tryz.prog 72 #[.int .u64 id,.int .u64 m.id,.int .u64 (idR f y)] w' fun e w''=>e = .returned (.bool true)∧w'=w''):=fun w'=>hw ▸ within_any _ _ _ _
             have hj:Hid (joinAt f id 33 via=some x):=show joinAt f id 33 via=_ by
              rw [hx'.out,show 33 - k=(33 - (k+1))+1 by omega]
              show (if _ then _ else _)=_
              rw [hhx.out,hidx.out,hw]
              rfl
             have hC:Hid (joinC f n id via=0):=show joinC f n id via=0 by rw [hC5.out,hj.out]
             have hR:Hid (joinR f n id via=setM f n ⟨true,id,x,m.succ⟩):=show joinR f n id via=_ by unfold joinR;rw [if_pos hC.out,hj.out,← hsx.out]
             have hdm2:Hid (Dom (setM f n ⟨true,id,x,m.succ⟩)):=show Dom _ by rw [← hsx.out];exact dom_join H.out.dom hr0 hr1 hid hxl.out
             clear hw
             go_wp2_with fail
             refine wp_region_calm (by kernel_rfl) (by kernel_rfl) ?_
             repeat (first | (go_big_quiet_step ((first | (go_at_call 43;exact calls_calm_same (cd.out _ (by (repeat (first | exact Below.refl _ _ | (with_reducible assumption) | (with_reducible refine bel_later ?_ _) | (with_reducible refine bel_alloc ?_ _) | (with_reducible refine bel_drew ?_) | (with_reducible refine bel_drewN ?_ _) | (with_reducible refine bel_set ?_ (by first | (simp;done) | (simp;omega) | (dsimp only;omega)) _)))))) | (go_at_call 72;exact calls_calm_same (CW.out _))))) | (refine wpQuiet_step (fun K hK=>?_);go_simp;first | (refine hK _ ?_;clear hK K) | (apply Exists.intro;refine ⟨fun _=>?_,hK _ ?_⟩;(first | (go_at_call 43;exact calls_calm_same (cd.out _ (by (repeat (first | exact Below.refl _ _ | (with_reducible assumption) | (with_reducible refine bel_later ?_ _) | (with_reducible refine bel_alloc ?_ _) | (with_reducible refine bel_drew ?_) | (with_reducible refine bel_drewN ?_ _) | (with_reducible refine bel_set ?_ (by first | (simp;done) | (simp;omega) | (dsimp only;omega)) _)))))) | (go_at_call 72;exact calls_calm_same (CW.out _)));clear hK K)))
             refine wpQuiet_nil ?_
             intro _ hw'
             obtain ⟨xq,hw''⟩:=hw'
             subst hw''
             obtain ⟨wq,hwq⟩:∃ wq,wq=xq.world:=⟨_,rfl⟩
             have Bq:Hid (RowKit.Below w.heap.size w wq):=by rw [hwq];exact bel_later B5.out xq
             have p2q:wq.cell? ⟨wr.heap.size,2,none⟩=some (.slice a3 m.succ.length q3):=by rw [hwq,later_cell xq _ _ hp5];exact p2
             have hpq:wr.heap.size<wq.heap.size:=by rw [hwq];exact Nat.lt_of_lt_of_le hp5 xq.below.size
             have Vq:=Lib.hid (V5.out.below xq.below)
             rw [← hwq] at Vq ⊢
             have Hq:=Lib.hid (H.out.below Bq.out)
             have rq:=Hq.out.root
             have rz:=Hq.out.rbz
             clear hwq xq p0 p2 hp5 V5 B5
             go_wp2_with fail
             refine wp_region_tame 9 13 (fun w'=>∃ x:Later wq,w'=x.world) (by kernel_rfl) (by kernel_rfl) ⟨⟨{ wq with drawn:=wq.drawn+1 },(RowKit.Below.refl _ _).drew⟩,rfl⟩ ?_ ?_
             · intro d v c a w h
               cases d <;> exact h
             · simp only [List.take_succ_cons,List.take_zero,List.drop_succ_cons,List.drop_zero]
               repeat (refine wpTame_step (fun K hK=>?_);go_simp;refine hK _ ?_;clear hK K)
               refine wpTame_nil ?_
               refine wpSeqC_step (by decide) (fun R hR=>?_)
               go_wp2_with fail
               refine (clonei_any _ _ m.succ (Vq.out.below (bel_drew (RowKit.Below.refl _ _))) (by omega)).mono ?_
               rintro e w6 ⟨v6,rfl,ho6,hB6⟩
               have B6:RowKit.Below wq.heap.size wq w6:=(bel_drew (RowKit.Below.refl _ _)).trans (hB6.mono (by simp))
               have hs6:=own_ints ho6
               obtain ⟨a6,q6,rfl,_⟩:=hs6.slice
               have S6:Hid (SlAt wq.heap.size (fun i=>.int .i64 (nth m.succ i)) m.succ.length w6 (.slice a6 m.succ.length q6)):=hs6.base (by simp)
               clear ho6 hs6 hB6
               go_wp2_with fail
               refine hR _ _ ⟨⟨w6,B6⟩,rfl⟩ ?_
               clear hR R
               refine wpSeqC_step (by decide) (fun R hR=>?_)
               go_wp2_with fail
               refine hR _ _ ⟨⟨w6,B6⟩,rfl⟩ ?_
               clear hR R
               refine wpSeqC_step (by decide) (fun R hR=>?_)
               go_wp2_with fail
               refine hR _ _ ⟨⟨w6,B6⟩,rfl⟩ ?_
               clear hR R
               refine wpSeqC_step (by decide) (fun R hR=>?_)
               go_wp2_with fail
               obtain ⟨W8,hW8⟩:∃ z,z=w6.alloc (.cells #[.bool true,.int .u64 id,.int .i64 x,.slice a6 m.succ.length q6] 134):=⟨_,rfl⟩
               have b0:W8.cell? ⟨w6.heap.size,0,none⟩=some (.bool true):=by rw [hW8];simp [go_sem]
               have b1:W8.cell? ⟨w6.heap.size,1,none⟩=some (.int .u64 id):=by rw [hW8];simp [go_sem]
               have b2:W8.cell? ⟨w6.heap.size,2,none⟩=some (.int .i64 x):=by rw [hW8];simp [go_sem]
               have b3:W8.cell? ⟨w6.heap.size,3,none⟩=some (.slice a6 m.succ.length q6):=by rw [hW8];simp [go_sem]
               have bfz:∀ o,W8.frozen? ⟨w6.heap.size,o,none⟩=false:=fun o=>by rw [hW8];simp [go_sem]
               have hbb2:w6.heap.size<W8.heap.size:=by rw [hW8];simp
               have B68:RowKit.Below w6.heap.size w6 W8:=by rw [hW8];exact bel_alloc (RowKit.Below.refl _ _) _
               rw [← hW8]
               refine hR _ _ ⟨⟨W8,bel_below B6 B68⟩,rfl⟩ ?_
               clear hR R hW8
               refine wpSeqC_list (by decide) ?_
               obtain ⟨w9,hrun,hmp,hg9⟩:=(Hq.out.below (bel_below B6 B68)).map.store keyInt Tryz.underlying3 Tryz.underlying130 (by have:=cntM_le f;simp only [maxLen];omega) n hn w6.heap.size
               have hrun':(Instr.mapUpdate 130 (.map (some mb)) (.int .i64 n) (.pointer (some ⟨w6.heap.size,0,none⟩))).run Tryz.prog W8 = .ok () w9:=hrun
               have RN:=Lib.hid (join_member (M:=⟨true,id,x,m.succ⟩) Hq.out HF.out B6 B68 (Nat.le_refl _) hbb2 hdm2.out bfz b0 b1 b2 b3 S6.out hmp hg9)
               have K9:Hid (Kept S w w9):=(((Kept.refl S w).below Bq.out).below (bel_below B6 B68)).trans ⟨hg9.os,hg9.tape,hg9.output,hg9.size,fun b hb hS=>hg9.block b hb (fun e=>by cases e;exact hS H.out.mbS)⟩
               clear hmp hg9 hrun b0 b1 b2 b3 bfz hbb2 B68 B6
               go_wp2_with fail
               go_ret
               exact HYes.out _ _ hC.out rfl K9.out ⟨_,by rw [hR.out];exact RN.out⟩
         · obtain rfl:k=33:=by omega
           have hC:Hid (joinC f n id via=5):=show joinC f n id via=5 by rw [hC5.out,hx.out.2];rfl
           go_wp2_with fail
           refine (fault_any _ _).mono ?_
           rintro e w' ⟨v,rfl,hE,hB⟩
           go_wp2_with fail
           go_ret
           exact HNo.out 5 _ _ hC.out (by decide) ⟨_,rfl,hE.base hB2.out.size,bel_below hB2.out hB⟩
end Go.Proofs.YtahiahjhpakeiaaGreatDoor
namespace Go.Proofs.YtahiahjhpakeiaaGreatDoor
open Go.RowKit Go.Maps Go.Sort
set_option linter.unusedVariables false
set_option linter.unusedSimpArgs false
attribute [local go_sem] later_cell later_frozen later_lt cell_set_off cell_set_block
variable {S:Nat->Prop} {w:World} {rb mb:Nat} {g:Int->Nat} {f:RS}
theorem RingIs.setLive (h:RAt S w rb mb g f) {n:Int} {m:Mem} (hn:f n=some m) (b:Bool) :
 RAt S (w.setCell ⟨g n,0,none⟩ (.bool b)) rb mb g (setM f n ⟨b,m.id,m.pred,m.succ⟩):=by
 obtain ⟨c0,c1,c2,u,c3,hu⟩:=h.mem n m hn
 have hd:Dom (setM f n ⟨b,m.id,m.pred,m.succ⟩):=fun j mj e=>by
  by_cases ej:j=n
  · subst ej;rw [setM_same] at e;cases e;exact h.dom j m hn
  · rw [setM_ne f _ ej] at e;exact h.dom j mj e
 refine h.write hn (size_set _ _ _) (fun b' hb=>Below.heap_setCell _ _ _ _ hb) (fun o=>by rw [World.frozen?_setCell];exact (h.memS n m hn).2.2.2.2 o) hd (v:=u) (set_at c0) ?_ ?_ ?_ hu
 · rw [cell_set_off _ _ _ _ _ (by decide)];exact c1
 · rw [cell_set_off _ _ _ _ _ (by decide)];exact c2
 · rw [cell_set_off _ _ _ _ _ (by decide)];exact c3
def FailPost (S:Nat->Prop) (w:World) (rb mb:Nat) (g:Int->Nat) (f:RS) (n:Int) (e:Ending) (w':World):Prop :=
 (if failC f n=0 then e = .returned .nilIface else ∃ v,e = .returned v∧IsErr w.heap.size w' v (failC f n))∧RAt S w' rb mb g (failR f n)∧Kept S w w'
set_option maxRecDepth 100000 in
set_option maxHeartbeats 8000000 in
theorem fail_at (h:RAt S w rb mb g f) (n:Int) (hi:okInt n):Calls Tryz.prog 35 #[.pointer (some ⟨rb,0,none⟩),.int .i64 n] w (FailPost S w rb mb g f n):=by
 have HNo:Hid (∀ (c:Int) v w',failC f n=c->c≠0->IsErr w.heap.size w' v c->RAt S w' rb mb g f->Kept S w w'->FailPost S w rb mb g f n (.returned v) w'):=fun c v w' h1 h2 h3 h4 h5=>by
  unfold FailPost failR;rw [h1,if_neg h2,if_neg h2];exact ⟨⟨v,rfl,h3⟩,h4,h5⟩
 have HYes:Hid (∀ w',failC f n=0->RAt S w' rb mb g (diesR f n)->Kept S w w'->FailPost S w rb mb g f n (.returned .nilIface) w'):=fun w' h1 h2 h3=>by
  unfold FailPost failR;rw [if_pos h1,if_pos h1];exact ⟨rfl,h2,h3⟩
 have r0:=h.root
 have z0:=h.rbz
 have cl:=Lib.hid (lives_at h n hi)
 have H:=Lib.hid h
 cases hlv:livesR f n with
 | false =>
   have hc:Hid (failC f n=6):=show failC f n=6 by unfold failC;rw [if_pos hlv]
   rw [hlv] at cl
   clear h
   go_enter Tryz.func35,Tryz.ntmps35
   go_wp2_with (go_at_call 20;refine cl.out.mono ?_;rintro e w' ⟨rfl,rfl⟩)
   refine (fault_any _ _).mono ?_
   rintro e w' ⟨v,rfl,hE,hB⟩
   go_wp2_with fail
   go_ret
   exact HNo.out 6 _ _ hc.out (by decide) hE (H.out.below hB) ((Kept.refl S w).below hB)
 | true =>
   rw [hlv] at cl
   by_cases h4:n<4
   · have hc:Hid (failC f n=5):=show failC f n=5 by unfold failC;rw [if_neg (by simp [hlv]),if_pos h4]
     clear h hlv
     go_enter Tryz.func35,Tryz.ntmps35
     go_wp2_with (go_at_call 20;refine cl.out.mono ?_;rintro e w' ⟨rfl,rfl⟩)
     refine (fault_any _ _).mono ?_
     rintro e w' ⟨v,rfl,hE,hB⟩
     go_wp2_with fail
     go_ret
     exact HNo.out 5 _ _ hc.out (by decide) hE (H.out.below hB) ((Kept.refl S w).below hB)
   · obtain ⟨m,hm,hml⟩:=livesR_some hlv
     obtain ⟨c0,c1,c2,zn,ln⟩:=h.at hm hi
     have fz:=(h.memS n m hm).2.2.2.2 0
     have hS:=(h.memS n m hm).1
     have hdf:Hid (diesR f n=setM f n ⟨false,m.id,m.pred,m.succ⟩):=show diesR f n=_ by unfold diesR idR predR succR;rw [hm]
     have h2:=h.setLive hm false
     rw [← hdf.out] at h2
     obtain ⟨w2,hw2⟩:∃ w2,w2=w.setCell ⟨g n,0,none⟩ (.bool false):=⟨_,rfl⟩
     have hz2:w2.heap.size=w.heap.size:=by rw [hw2];exact size_set _ _ _
     have K2:Hid (Kept S w w2):=by rw [hw2];exact (Kept.refl S w).set (p:=⟨g n,0,none⟩) hS _
     rw [← hw2] at h2
     have H2:=Lib.hid h2
     have CL:=Lib.hid (live_at h2)
     have hdm:=Lib.hid (fun x (hx:x∈liveL (diesR f n))=>(mem_liveL h2.dom).1 hx)
     have hlen:=length_liveL (diesR f n)
     have hC4:Hid (failC f n=if (liveL (diesR f n)).any (fun k=>headR (diesR f n) k == -1) then 5 else 0):=show failC f n=_ by unfold failC;rw [if_neg (by simp [hlv]),if_neg h4]
     have HM:Hid (diesR f n n=some ⟨false,m.id,m.pred,m.succ⟩):=show _=_ by rw [hdf.out,setM_same]
     have hback:Hid (setM (diesR f n) n ⟨true,m.id,m.pred,m.succ⟩=f):=show _=_ by
      rw [hdf.out,setM_setM]
      funext j
      unfold setM
      split
      · rename_i e;rw [e,hm,← hml]
      · rfl
     obtain ⟨f2,hf2⟩:∃ f2,f2=diesR f n:=⟨_,rfl⟩
     rw [← hf2] at CL hdm hlen hC4 HM hback H2 HYes
     obtain ⟨L,hL⟩:∃ L,L=liveL f2:=⟨_,rfl⟩
     rw [← hL] at CL hdm hlen hC4
     have HW2:=Lib.hid hw2
     clear h h2 hm hml hlv hL hdf hf2 hw2 c1 c2
     go_enter Tryz.func35,Tryz.ntmps35
     go_wp2_with (go_at_call 20;refine cl.out.mono ?_;rintro e w' ⟨rfl,rfl⟩)
     rw [← HW2.out]
     refine CL.out.mono ?_
     rintro e w3 ⟨v,rfl,hs,hB⟩
     obtain ⟨a,q,rfl,_⟩:=hs.slice
     have HS:=Lib.hid hs
     have HB:=Lib.hid hB
     clear hs hB HW2 c0 fz r0 z0 zn ln
     go_wp2_with fail
     go_loopw [6,26] (fun _ i wr=>∃ k:Nat,k<=L.length∧i = .int .i64 k∧Hid (RowKit.Below w3.heap.size w3 wr)∧Hid (∀ j,j<k->headR f2 (nth L j) ≠ -1)) (fun _ i _=>L.length - (intOf i).toNat)
     case atStart=>exact ⟨0,Nat.zero_le _,rfl,RowKit.Below.refl _ _,fun j hj=>absurd hj (by omega)⟩
     case round =>
      obtain ⟨k,hk,rfl,hB3,hno⟩:=hrel
      have B2:=Lib.hid (bel_below HB.out hB3.out)
      have h3:=H2.out.below B2.out
      by_cases hlt:k<L.length
      · obtain ⟨b,off,rfl,_,hb,hc⟩:=HS.out.at k hlt wr hB3.out
        have hin:nth L k∈L:=nth_mem.2 ⟨k,hlt,rfl⟩
        have hlx:=hdm.out _ hin
        have hxd:=livesR_dom H2.out.dom hlx
        have okx:okInt (nth L k):=okInt_dom (by omega) (by omega)
        obtain ⟨mx,hmx,_⟩:=livesR_some hlx
        obtain ⟨d0,d1,d2,zx,lx⟩:=h3.at hmx okx
        obtain ⟨_,_,_,v3,d3,hv3⟩:=h3.mem _ mx hmx
        obtain ⟨a3,q3,rfl,_⟩:∃ a c,v3 = .slice a mx.succ.length c∧True:=by obtain ⟨a,c,rfl,_⟩:=hv3;exact ⟨a,c,rfl,trivial⟩
        have r3:=h3.root
        have z3:=h3.rbz
        have hd:=h3.dom _ mx hmx
        have ch:=Lib.hid (head_at h3 mx.succ (by omega) (fun y hy=>okInt_dom (by have:=hd.2.2.2.2.2 y hy;omega) (by have:=hd.2.2.2.2.2 y hy;omega)) _ hv3.slAt mx.id mx.pred)
        have hhx:headR f2 (nth L k)=headL f2 mx.succ:=by unfold headR succR;rw [hmx]
        by_cases he:headL f2 mx.succ = -1
        · have hC:Hid (failC f n=5):=show failC f n=5 by rw [hC4.out,if_pos (List.any_eq_true.2 ⟨_,hin,by simp [hhx,he]⟩)]
          rw [he] at ch
          clear hhx he hd hv3 hmx hlx hxd hin
          go_wp2_with fail
          refine ch.out.mono ?_
          rintro e w5 ⟨rfl,hB5⟩
          have h5:=H2.out.below (bel_below B2.out hB5)
          obtain ⟨e0,_,_,zn,ln⟩:=h5.at HM.out hi
          have fz:=(h5.memS n _ HM.out).2.2.2.2 0
          have r5:=h5.root
          have z5:=h5.rbz
          have h6:=h5.setLive HM.out true
          rw [hback.out] at h6
          have K6:=Lib.hid (((K2.out.below B2.out).below hB5).set (p:=⟨g n,0,none⟩) hS (.bool true))
          have H6:=Lib.hid h6
          have hz6:w.heap.size<=(w5.setCell ⟨g n,0,none⟩ (.bool true)).heap.size:=K6.out.size
          clear h5 h6 h3 d0 d1 d2 d3 zx lx r3 z3
          go_wp2_with fail
          refine (fault_any _ _).mono ?_
          rintro e w' ⟨v,rfl,hE,hB⟩
          go_wp2_with fail
          go_ret
          exact HNo.out 5 _ _ hC.out (by decide) (hE.base hz6) (H6.out.below hB) (K6.out.below hB)
        · have heb:(headL f2 mx.succ == -1)=false:=by simpa using he
          have HE:=Lib.hid (show headR f2 (nth L k) ≠ -1 by rw [hhx];exact he)
          clear hhx he hd hv3 hmx hlx hxd hin h3
          go_wp2_with fail
          refine ch.out.mono ?_
          rintro e w5 ⟨rfl,hB5⟩
          have B5:=Lib.hid (bel_below hB3.out hB5)
          clear hB5
          go_wp2_with fail
          go_roundw
          case rel =>
           go_light
           refine ⟨k+1,by omega,by go_num,B5.out,fun j hj=>?_⟩
           by_cases e:j=k
           · subst e;exact HE.out
           · exact hno.out j (by omega)
          case measure=>go_light;simp [intOf];omega
      · obtain rfl:k=L.length:=by omega
        have hC:Hid (failC f n=0):=show failC f n=_ by
         rw [hC4.out,if_neg]
         intro h
         obtain ⟨x,hx,e⟩:=List.any_eq_true.1 h
         obtain ⟨j,hj,rfl⟩:=nth_mem.1 hx
         exact hno.out j hj (by simpa using e)
        clear hlt h3
        go_wp2_with fail
        go_ret
        exact HYes.out _ hC.out (H2.out.below B2.out) (K2.out.below B2.out)
end Go.Proofs.YtahiahjhpakeiaaGreatDoor
namespace Go.Proofs.YtahiahjhpakeiaaGreatDoor
open Go.RowKit Go.Maps Go.Sort
set_option linter.unusedVariables false
set_option linter.unusedSimpArgs false
attribute [local go_sem] later_cell later_frozen later_lt cell_set_off cell_set_block
def ids0:List Int:=[10,20,30,40]
theorem up0:Up ids0:=by unfold Up ids0;decide
theorem set0:setI ids0=ids0:=setI_of_up up0
theorem four0:Four ids0 ids0:=by
 have:=four_of (ids:=ids0) rfl (by rw [set0];rfl) (by unfold ids0 isPlace;simp)
 rwa [set0] at this
def F0:RS:=newF ids0 ids0 4
def F1:RS:=setM F0 4 ⟨true,25,1,[2,3,0]⟩
def F2:RS:=stabR F1 4
def F3:RS:=stabR F2 1
theorem inv0:Inv F0:=inv_new four0
attribute [irreducible] F0 F1 F2 F3
theorem base_any (w:World):Calls Tryz.prog 18 #[] w fun e w'=>∃ v,e = .returned v∧SlAt w.heap.size (fun i=>.int .u64 (nth ids0 i)) 4 w' v∧Below w.heap.size w w':=by
 go_enter Tryz.func18,Tryz.ntmps18
 go_wp2
 go_ret
 exact ⟨_,rfl,own_ints (own_lit w (ids0.map (Value.int .u64)) 43 w.heap.size _ 4 rfl rfl (Nat.le_refl _) (by simp [maxLen])),by (repeat (first | exact Below.refl _ _ | (with_reducible assumption) | (with_reducible refine bel_later ?_ _) | (with_reducible refine bel_alloc ?_ _) | (with_reducible refine bel_drew ?_) | (with_reducible refine bel_drewN ?_ _) | (with_reducible refine bel_set ?_ (by first | (simp;done) | (simp;omega) | (dsimp only;omega)) _)))⟩
end Go.Proofs.YtahiahjhpakeiaaGreatDoor
end
section
namespace Go.Proofs.YtahiahjhpakeiaaGreatDoor
open Go.RowKit Go.Maps Go.Sort Go.WideShapes Go.ChangeShapes
set_option linter.unusedVariables false
set_option linter.unusedSimpArgs false
attribute [local go_sem] later_cell later_frozen later_lt cell_set_off cell_set_block
theorem placeOf {a:Int} (h:(Lit.int .u64 a).wf=true):isPlace a:=by
 simp [Lit.wf,IntKind.min,IntKind.max,IntKind.bits,IntKind.signed] at h;unfold isPlace;omega
theorem cellsId1:Tryz.prog.cellsOf 43=1:=by kernel_rfl
set_option maxRecDepth 100000 in
theorem ids_open {H:Type} {enc:TypeId × Value->H} {W:World} {v0:Value} {d0:DataW H} {p0:List MemPlace} {r0:Reach} {b0:Nat} (ok0:Value.okWide Tryz.prog W r0 b0 22 v0) (h0:DataW.Trod enc Tryz.prog W 0 (fun _=>true) true 22 v0 d0 p0) :
 ∃ l:List Int,SlAt 0 (fun i=>.int .u64 (nth l i)) l.length W v0 ∧ ∀ z∈l,isPlace z:=by
 obtain ⟨a,n,c,rfl⟩:=okWide_slice Tryz.underlying22 ok0
 obtain ⟨fuel,hf⟩:=h0
 obtain ⟨l,hl,hw⟩:=ints_of_trod Tryz.underlying22 cellsId1 Tryz.underlying43 hf
 exact ⟨l,hl,fun z hz=>placeOf (hw z hz)⟩
end Go.Proofs.YtahiahjhpakeiaaGreatDoor
namespace Go.Proofs.YtahiahjhpakeiaaGreatDoor
open Go.RowKit Go.Maps Go.Sort Go.WideShapes Go.ChangeShapes Go.Deep
set_option linter.unusedVariables false
set_option linter.unusedSimpArgs false
attribute [local go_sem] later_cell later_frozen later_lt cell_set_off cell_set_block
structure ActD where
 kind:Int
 n:Int
 via:Int
 id:Int
deriving Inhabited
def ActD.cell (a:ActD):Nat->Value
 | 0=>.int .i64 a.kind
 | 1=>.int .i64 a.n
 | 2=>.int .i64 a.via
 | _=>.int .u64 a.id
structure ActD.ok (a:ActD):Prop where
 n:okInt a.n
 via:okInt a.via
 id:isPlace a.id
 kind:okInt a.kind
def actAt (l:List ActD) (k:Nat):ActD:=l.getD k default
def ActsAt (l:List ActD) (w:World) (v:Value):Prop :=
 ∃ (a:Option Addr) (cap:Nat),v = .slice a l.length cap∧l.length<=cap∧cap<=maxLen ∧
   (l.length=0 ∨ ∃ b off:Nat,a=some ⟨b,off,none⟩∧b<w.heap.size ∧ ∀ i,i<l.length -> ∀ j,j<4->w.cell? ⟨b,off+(i * 4+j),none⟩=some ((actAt l i).cell j))
theorem ActsAt.slice {l:List ActD} {w:World} {v:Value} (h:ActsAt l w v):∃ a cap,v = .slice a l.length cap∧l.length<=cap∧cap<=maxLen:=by
 obtain ⟨a,cap,rfl,h1,h2,_⟩:=h;exact ⟨a,cap,rfl,h1,h2⟩
theorem ActsAt.at {l:List ActD} {w:World} {a:Option Addr} {cap:Nat} (h:ActsAt l w (.slice a l.length cap)) (k:Nat) (hk:k<l.length) (wr:World) (hB:RowKit.Below w.heap.size w wr) :
 ∃ b off:Nat,a=some ⟨b,off,none⟩∧b<wr.heap.size∧wr.cell? ⟨b,off+k * 4,none⟩=some (.int .i64 (actAt l k).kind)∧wr.cell? ⟨b,off+k * 4+1,none⟩=some (.int .i64 (actAt l k).n) ∧
   wr.cell? ⟨b,off+k * 4+2,none⟩=some (.int .i64 (actAt l k).via)∧wr.cell? ⟨b,off+k * 4+3,none⟩=some (.int .u64 (actAt l k).id):=by
 obtain ⟨a',cap',e,_,_,h3⟩:=h
 injection e with e1 e2 e3
 subst e1
 obtain ⟨b,off,rfl,h5,h6⟩:=h3.resolve_left (by omega)
 have hc:=fun j hj=>(hB.cell (p:=⟨b,off+(k * 4+j),none⟩) h5).trans (h6 k hk j hj)
 exact ⟨b,off,rfl,Nat.lt_of_lt_of_le h5 hB.size,hc 0 (by omega),by rw [Nat.add_assoc];exact hc 1 (by omega),by rw [Nat.add_assoc];exact hc 2 (by omega),by rw [Nat.add_assoc];exact hc 3 (by omega)⟩
section
variable {H:Type} {enc:TypeId × Value->H} {P:Program} {w:World} {base:Nat} {spare:Nat->Bool} {held:Bool}
theorem open_slice_fields {t e:TypeId} {fs:Array Field} {fuel:Nat} {cs:List Value} {x:DataW H × List MemPlace} (ht:P.underlying t=some (.slice e)) (he:P.underlying e=some (.struct fs))
 (hone:oneCellFields P fs=true) (hC:P.cellsOf e=fs.size) (h:DataW.trod enc P w base spare held fuel t cs=some x) :
 (cs=[.slice none 0 0]∧x=(.nil,[])) ∨
 ∃ (a:Addr) (len cap m:Nat) (D:Nat->DataW H) (Pl:Nat->List MemPlace),cs=[.slice (some a) len cap]∧base<=a.block∧len<=cap∧cap<=maxLen∧m=(if spare a.block then cap else len) ∧
   x=(.slice ((List.range len).map D) ((List.range (m - len)).map fun j=>D (len+j)),MemPlace.row a (m * fs.size) ++ (List.range m).flatMap Pl) ∧
   ∀ i,i<m -> ∃ (ys:List (DataW H × List MemPlace)) (n:Nat),D i = .agg (ys.map (·.1))∧Pl i=ys.flatMap (·.2)∧ys.length=fs.size ∧
     ∀ (j:Nat) (f:Field),fs[j]? = some f -> ∃ (v:Value) (y:DataW H × List MemPlace),w.cell? (a.add (i * fs.size+j))=some v∧ys[j]? = some y∧DataW.trod enc P w base spare held n f.type [v]=some y:=by
 rcases open_slice ht h with h0 | ⟨a,len,cap,m,n,D,Pl,hcs,hb,hl,hm,hmm,hx,hi⟩
 · exact .inl h0
 · refine .inr ⟨a,len,cap,m,D,Pl,hcs,hb,hl,hm,hmm,by rw [hC] at hx;exact hx,fun i him=>?_⟩
   obtain ⟨cs',hc,ht'⟩:=hi i him
   rw [hC] at hc
   obtain ⟨ys,n',hn',hy,hlen,hyl,hf⟩:=DataW.trod_struct he ht'
   obtain ⟨_,hcl,hat⟩:=World.cells?_some hc
   simp only [Prod.mk.injEq] at hy
   refine ⟨ys,n',hy.1,hy.2,hyl,fun j f hj=>?_⟩
   obtain ⟨ho,hk⟩:=hone_of hone j f hj
   have hjl:j<fs.size:=(Array.getElem?_eq_some_iff.1 hj).1
   have hcell:=hat j hjl
   have hv:cs'[j]? = some (cs'[j]'(by omega)):=List.getElem?_eq_getElem (by omega)
   have h1:=hf j f hj
   rw [ho,hk] at h1
   have hone':(cs'.drop j).take 1=[cs'[j]'(by omega)]:=by
    rw [List.drop_eq_getElem_cons (by omega)]
    rfl
   rw [hone'] at h1
   have hys:ys[j]? = some (ys[j]'(by omega)):=List.getElem?_eq_getElem (by omega)
   refine ⟨_,_,?_,hys,h1.trans hys⟩
   rw [← Go.Deep.add_add,hcell,hv]
end
theorem spot_of_cell {w:World} {a:Addr} {v:Value} (h:w.cell? a=some v):a.spot=none∧a.block<w.heap.size:=by
 unfold World.cell? at h
 constructor
 · cases hsp:a.spot with
   | none=>rfl
   | some s=>rw [hsp] at h;simp at h;split at h <;> simp_all
 · rcases Nat.lt_or_ge a.block w.heap.size with h' | h'
   · exact h'
   · rw [Array.getElem?_eq_none h'] at h;simp at h
set_option maxRecDepth 100000 in
theorem acts_open {H:Type} {enc:TypeId × Value->H} {W:World} {v0:Value} {d0:DataW H} {p0:List MemPlace} {r0:Reach} {b0:Nat} (ok0:Value.okWide Tryz.prog W r0 b0 23 v0) (h0:DataW.Trod enc Tryz.prog W 0 (fun _=>true) true 23 v0 d0 p0) :
 ∃ l:List ActD,ActsAt l W v0 ∧ ∀ k,k<l.length->(actAt l k).ok:=by
 obtain ⟨a,n,c,rfl⟩:=okWide_slice Tryz.underlying23 ok0
 obtain ⟨fuel,hf⟩:=h0
 have hu:∃ f0 f1 f2 f3:Field,Tryz.prog.underlying 45=some (.struct #[f0,f1,f2,f3])∧f0.type=3∧f1.type=3∧f2.type=3∧f3.type=43∧oneCellFields Tryz.prog #[f0,f1,f2,f3]=true:=⟨_,_,_,_,Tryz.underlying45,rfl,rfl,rfl,rfl,by kernel_rfl⟩
 obtain ⟨f0,f1,f2,f3,hu,t0,t1,t2,t3,hone⟩:=hu
 rcases open_slice_fields Tryz.underlying23 hu hone (by kernel_rfl) hf with ⟨hcs,_⟩ | ⟨a',len,cap,m,D,Pl,hcs,_,hl,hm,hmm,_,hV⟩
 · simp [Value.cells] at hcs
   obtain ⟨rfl,rfl,rfl⟩:=hcs
   exact ⟨[],⟨none,0,rfl,Nat.le_refl _,Nat.zero_le _,Or.inl rfl⟩,fun k hk=>by simp at hk⟩
 · simp [Value.cells] at hcs
   obtain ⟨rfl,rfl,rfl⟩:=hcs
   simp only [if_true] at hmm
   subst hmm
   have hx:∀ i,i<n -> ∃ A:ActD,A.ok ∧ ∀ j,j<4->W.cell? (a'.add (i * 4+j))=some (A.cell j):=by
    intro i hi
    obtain ⟨ys,m,_,_,_,hg⟩:=hV i (by omega)
    obtain ⟨v0,y0,c0,_,e0⟩:=hg 0 f0 rfl
    obtain ⟨v1,y1,c1,_,e1⟩:=hg 1 f1 rfl
    obtain ⟨v2,y2,c2,_,e2⟩:=hg 2 f2 rfl
    obtain ⟨v3,y3,c3,_,e3⟩:=hg 3 f3 rfl
    rw [t0] at e0;rw [t1] at e1;rw [t2] at e2;rw [t3] at e3
    obtain ⟨z0,h0,_,w0⟩:=DataW.trod_int Tryz.underlying3 e0
    obtain ⟨z1,h1,_,w1⟩:=DataW.trod_int Tryz.underlying3 e1
    obtain ⟨z2,h2,_,w2⟩:=DataW.trod_int Tryz.underlying3 e2
    obtain ⟨z3,h3,_,w3⟩:=DataW.trod_int Tryz.underlying43 e3
    simp at h0 h1 h2 h3
    subst h0 h1 h2 h3
    refine ⟨⟨z0,z1,z2,z3⟩,⟨w1,w2,placeOf w3,w0⟩,fun j hj=>?_⟩
    have:j=0∨j=1∨j=2∨j=3:=by omega
    rcases this with rfl | rfl | rfl | rfl
    · exact c0
    · exact c1
    · exact c2
    · exact c3
   obtain ⟨f,hf⟩:=choose_lt hx
   have hat:∀ k,k<n->actAt ((List.range n).map f) k=f k:=fun k hk=>by unfold actAt;simp [hk]
   refine ⟨(List.range n).map f,⟨some a',_,by simp,by simpa using hl,hm,?_⟩,fun k hk=>?_⟩
   · by_cases hn0:n=0
     · exact Or.inl (by simpa using hn0)
     · right
       have h1:=(hf 0 (by omega)).2 0 (by omega)
       have hs:=spot_of_cell (by simpa [Addr.add] using h1)
       refine ⟨a'.block,a'.off,by cases a';simp at hs;simp [hs.1],hs.2,fun i hi j hj=>?_⟩
       simp at hi
       rw [hat i hi,← (hf i hi).2 j hj,add_spot a' _ hs.1]
   · simp at hk
     rw [hat k hk];exact (hf k hk).1
end Go.Proofs.YtahiahjhpakeiaaGreatDoor
namespace Go.Proofs.YtahiahjhpakeiaaGreatDoor
open Go.RowKit Go.Maps Go.Sort Go.WideShapes Go.ChangeShapes Go.Deep
set_option linter.unusedVariables false
set_option linter.unusedSimpArgs false
def stabC (f:RS) (n:Int):Int:=if livesR f n=true then 0 else 6
def stabE (f:RS) (n:Int):RS:=if livesR f n=true then stabR f n else f
def CodeIs (B:Nat) (w:World) (v:Value) (c:Int):Prop:=(c=0∧v = .nilIface)∨(c≠0∧IsErr B w v c)
def ActPost (S:Nat->Prop) (w:World) (rb mb:Nat) (f:RS) (c:Int) (e:Ending) (w':World):Prop:=∃ v,e = .returned v∧CodeIs w.heap.size w' v c∧(∃ g,RAt S w' rb mb g f)∧Kept S w w'
variable {S:Nat->Prop} {w:World} {rb mb:Nat} {g:Int->Nat} {f:RS}
theorem join_act (h:RAt S w rb mb g f) (hh:Heads f) (n id via:Int) (hn:okInt n) (hv:okInt via) (hid:isPlace id) :
 Calls Tryz.prog 19 #[.pointer (some ⟨rb,0,none⟩),.int .i64 n,.int .u64 id,.int .i64 via] w (ActPost S w rb mb (joinR f n id via) (joinC f n id via)) :=
 (join_at h hh n id via hn hv hid).mono fun e w' hp=>by
  unfold JoinPost at hp
  split at hp
  · rename_i hc
    obtain ⟨rfl,hk,hg⟩:=hp
    exact ⟨_,rfl,Or.inl ⟨hc,rfl⟩,hg,hk⟩
  · rename_i hc
    obtain ⟨v,rfl,hE,hb⟩:=hp
    rw [joinR_not hc]
    exact ⟨_,rfl,Or.inr ⟨hc,hE⟩,⟨g,h.below hb⟩,(Kept.refl S w).below hb⟩
theorem fail_act (h:RAt S w rb mb g f) (n:Int) (hn:okInt n) :
 Calls Tryz.prog 35 #[.pointer (some ⟨rb,0,none⟩),.int .i64 n] w (ActPost S w rb mb (failR f n) (failC f n)) :=
 (fail_at h n hn).mono fun e w' hp=>by
  obtain ⟨h1,h2,h3⟩:=hp
  split at h1
  · rename_i hc
    exact ⟨_,h1,Or.inl ⟨hc,rfl⟩,⟨g,h2⟩,h3⟩
  · rename_i hc
    obtain ⟨v,rfl,hE⟩:=h1
    exact ⟨_,rfl,Or.inr ⟨hc,hE⟩,⟨g,h2⟩,h3⟩
theorem stab_act (h:RAt S w rb mb g f) (hh:Heads f) (n:Int) (hn:okInt n) :
 Calls Tryz.prog 49 #[.pointer (some ⟨rb,0,none⟩),.int .i64 n] w (ActPost S w rb mb (stabE f n) (stabC f n)) :=
 (stab_at h n hn hh).mono fun e w' hp=>by
  unfold StabPost at hp
  unfold stabE stabC
  split at hp
  · rename_i hc
    obtain ⟨rfl,h1,h2⟩:=hp
    rw [if_pos hc,if_pos hc]
    exact ⟨_,rfl,Or.inl ⟨rfl,rfl⟩,⟨g,h1⟩,h2⟩
  · rename_i hc
    obtain ⟨v,rfl,hE,hb⟩:=hp
    rw [if_neg hc,if_neg hc]
    exact ⟨_,rfl,Or.inr ⟨by decide,hE⟩,⟨g,h.below hb⟩,(Kept.refl S w).below hb⟩
theorem inv_stabE {f:RS} (I:Inv f) (n:Int):Inv (stabE f n):=by
 unfold stabE;split
 · rename_i h;exact inv_stab I h
 · exact I
def actR (ks:List Int) (f:RS) (a:ActD):RS :=
 if a.kind ∉ ks then f else if a.kind=1 then joinR f a.n a.id a.via else if a.kind=2 then failR f a.n else if a.kind=3 then stabE f a.n else if a.kind=4 then roundR f else f
structure RingOk (B:Nat) (w0 w:World) (rb mb:Nat) (f:RS):Prop where
 ring:∃ g,RAt (fun b=>B<=b) w rb mb g f
 inv:Inv f
 below:RowKit.Below B w0 w
def Born (W:World) (ids:List Int) (e:Ending) (w':World):Prop :=
 if fourB ids=true then ∃ rb mb,e = .returned (.tuple #[.pointer (some ⟨rb,0,none⟩),.nilIface])∧RingOk W.heap.size W w' rb mb (newF ids (setI ids) 4)
 else ∃ b,e = .returned (.tuple #[.pointer none,.iface 146 (.pointer (some ⟨b,0,none⟩))])∧RowKit.Below W.heap.size W w'
theorem fourB_four {ids:List Int} (h:fourB ids=true) (hp:∀ x∈ids,isPlace x):Four ids (setI ids):=by
 unfold fourB at h
 simp at h
 exact four_of h.1 h.2 hp
theorem born_any (W wr:World) (hb:RowKit.Below W.heap.size W wr) (v:Value) (ids:List Int) (hi:SlAt 0 (fun i=>.int .u64 (nth ids i)) ids.length wr v) (hp:∀ x∈ids,isPlace x) :
 Calls Tryz.prog 38 #[v] wr (Born W ids):=(new_any wr v ids hi hp).mono fun e w' h=>by
 unfold AskPost at h
 unfold Born
 split at h
 · rename_i hf
   obtain ⟨rb,mb,g,rfl,R,hB⟩:=h
   rw [if_pos hf]
   exact ⟨rb,mb,rfl,⟨g,R.same (Nat.le_refl _) (fun _ _ _=>rfl) (fun b _ hS=>by have:=hb.size;omega) (fun b hb'=>by have:=hb.size;have:=hB.size;omega)⟩,inv_new (fourB_four hf hp),bel_below hb hB⟩
 · rename_i hf
   obtain ⟨v,rfl,⟨b,rfl,_⟩,hB⟩:=h
   rw [if_neg hf]
   exact ⟨b,rfl,bel_below hb hB⟩
end Go.Proofs.YtahiahjhpakeiaaGreatDoor
end
