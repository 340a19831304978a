/-
  chord.New. The document's New: who is nearest behind a place of the base. No program is named here.
-/
import Derived.Test.YtahiahjhpakeiaaGreatDoorPlans1
import Derived.Test.YtahiahjhpakeiaaGreatDoorPlans12
import Derived.Test.YtahiahjhpakeiaaGreatDoorPlans6
import Derived.Test.YtahiahjhpakeiaaGreatDoorPlans7
import Derived.Deep.AppendLies
namespace Go.Proofs.YtahiahjhpakeiaaGreatDoor
open Go.RowKit Go.Maps Go.Sort
set_option linter.unusedVariables false
set_option linter.unusedSimpArgs false
section
attribute [local go_sem] later_cell later_frozen later_lt cell_set_off cell_set_block
theorem ring_none (w:World) (T:TypeId) (S:Nat->Prop) (hS:∀ b,w.heap.size<=b->S b) :
 RAt S ((w.alloc (.map #[] 0)).alloc (.cells #[.map (some w.heap.size)] T)) (w.heap.size+1) w.heap.size (fun _=>0) (fun _=>none) where
 dom:=fun n m e=>by cases e
 up:=fun b hb=>hS b (by simp at hb;omega)
 rbS:=hS _ (by omega)
 mbS:=hS _ (Nat.le_refl _)
 ne:=by omega
 rbz:=by simp
 root:=by simp [go_sem]
 map:=by
  have h:=mapAt_new (P:=Tryz.prog) (k:=3) w
  have h2:=h.kept (World.grownBy_alloc (w.alloc (.map #[] 0)) (.cells #[.map (some w.heap.size)] T) none) (by simp)
  exact h2
 memS:=fun n m e=>by cases e
 mem:=fun n m e=>by cases e
 inj:=fun i j m m' e=>by cases e
theorem owns_below {w w':World} {base e n:Nat} {v:Value} {xs:List Value} (h:w.ownsRow base e 1 v n xs) (hb:RowKit.Below w.heap.size w w'):w'.ownsRow base e 1 v n xs:=by
 refine ⟨h.1,h.2.imp id ?_⟩
 rintro ⟨g,cap,cur,e1,h1,h2,h3⟩
 exact ⟨g,cap,cur,e1,h1,(hb.block g (Array.getElem?_eq_some_iff.1 h2).1).trans h2,h3⟩
theorem owns_blocks {w w':World} {base e n:Nat} {v:Value} {xs:List Value} (h:w.ownsRow base e 1 v n xs) (hb:∀ g,base<=g->g<w.heap.size->w'.heap[g]? = w.heap[g]?):w'.ownsRow base e 1 v n xs:=by
 refine ⟨h.1,h.2.imp id ?_⟩
 rintro ⟨g,cap,cur,e1,h1,h2,h3⟩
 exact ⟨g,cap,cur,e1,h1,(hb g h1 (Array.getElem?_eq_some_iff.1 h2).1).trans h2,h3⟩
abbrev Old (m p:Nat) (w:World) (b:Nat):Prop:=(m<=b∧b<p)∨w.heap.size<=b
theorem old_blocks {w w':World} {rb mb m p:Nat} {g:Int->Nat} {f:RS} (h:RAt (Old m p w) w rb mb g f) (hs:w.heap.size<=w'.heap.size) (hb:∀ b,b<p->w'.heap[b]? = w.heap[b]?):RAt (Old m p w') w' rb mb g f :=
 h.same hs (fun b hb' hS=>hb b (by rcases hS with h | h <;> omega)) (fun b hb' hS=>by rcases hS with h | h <;> first | exact Or.inl h | omega) (fun b hb'=>Or.inr hb')
theorem old_wide {w:World} {rb mb m p:Nat} {g:Int->Nat} {f:RS} (h:RAt (Old m p w) w rb mb g f) (hm:m<=w.heap.size):RAt (fun b=>m<=b) w rb mb g f :=
 h.same (Nat.le_refl _) (fun _ _ _=>rfl) (fun b hb' hS=>by rcases hS with h | h <;> omega) (fun b hb'=>by omega)
theorem old_lt {w:World} {rb mb m p:Nat} {g:Int->Nat} {f:RS} (h:RAt (Old m p w) w rb mb g f):rb<p∧mb<p ∧ ∀ j mj,f j=some mj->g j<p:=by
 refine ⟨?_,?_,fun j mj e=>?_⟩
 · have:=h.rbS;have:=h.rbz;simp only [Old] at *;omega
 · have:=h.mbS;have:=h.mbz;simp only [Old] at *;omega
 · have:=h.memS j mj e;simp only [Old] at *;omega
def sucs (ids s:List Int) (k j:Nat):List Int:=(List.range j).map fun t:Nat=>atI ids s ((k:Int)+(t:Int)+1)
theorem sucs_three (ids s:List Int) (k:Nat):sucs ids s k 3=(memAt ids s k).succ:=by
 simp [sucs,memAt,List.range_succ,Int.add_assoc]
theorem new_member {wr W w8:World} {m p b rb mb:Nat} {g:Int->Nat} {f:RS} {n:Int} {M:Mem} {sv:Value} (h:RAt (Old m p wr) wr rb mb g f) (hm:m<=p) (hp:p<wr.heap.size) (hn:f n=none)
 (hB:RowKit.Below wr.heap.size wr W) (hb1:wr.heap.size<=b) (hb2:b<W.heap.size) (hd:Dom (setM f n M))
 (hfz:∀ o,W.frozen? ⟨b,o,none⟩=false) (c0:W.cell? ⟨b,0,none⟩=some (.bool M.live)) (c1:W.cell? ⟨b,1,none⟩=some (.int .u64 M.id)) (c2:W.cell? ⟨b,2,none⟩=some (.int .i64 M.pred)) (c3:W.cell? ⟨b,3,none⟩=some sv)
 (hsv:wr.ownsRow (p+1) 3 1 sv M.succ.length (M.succ.map (Value.int .i64)))
 (hmap:MapAt Tryz.prog 3 w8 mb (cntM f+1) (setF (ptrM f g) n b)) (hg:W.grownBy w8 (some mb)):RAt (fun b=>m<=b) w8 rb mb (fun j=>if j=n then b else g j) (setM f n M):=by
 obtain ⟨l1,l2,l3⟩:=old_lt h
 have hw:=old_wide h (by omega)
 have hsz:W.heap.size<=w8.heap.size:=hg.size
 have hne:b≠mb:=by omega
 have hfar:∀ c,c<W.heap.size->c≠mb->w8.heap[c]? = W.heap[c]?:=fun c hc hcm=>hg.block c hc (by simpa using hcm)
 refine hw.add hn (by have:=hB.size;omega) hb1 (by omega) (fun c hc hcm=>?_) hd (fun o=>?_) hmap ((World.cell?_of_block (hfar b hb2 hne)).trans c0) ((World.cell?_of_block (hfar b hb2 hne)).trans c1) ((World.cell?_of_block (hfar b hb2 hne)).trans c2) ((World.cell?_of_block (hfar b hb2 hne)).trans c3) ?_
 · rw [hfar c (by have:=hB.size;omega) hcm,hB.block c hc]
 · exact (World.frozen?_of_block (hfar b hb2 hne)).trans (hfz o)
 · have h1:=own_ints hsv
   obtain ⟨a,cap,rfl,k1,k2,k3,k4⟩:=h1
   refine ⟨a,cap,rfl,k1,k2,k3,k4.imp id ?_⟩
   rintro ⟨q,off,rfl,q1,q2,q3⟩
   have hqW:q<W.heap.size:=Nat.lt_of_lt_of_le q2 hB.size
   refine ⟨q,off,rfl,⟨by omega,by omega,by omega,by omega,fun j mj e=>by have:=l3 j mj e;omega⟩,by omega,fun i hi=>?_⟩
   rw [World.cell?_of_block (hfar q hqW (by omega)),hB.cell (p:=⟨q,off+i,none⟩) q2]
   exact q3 i hi
def NewPost (w:World) (ids:List Int) (e:Ending) (w':World):Prop :=
 ∃ rb mb g,e = .returned (.tuple #[.pointer (some ⟨rb,0,none⟩),.nilIface])∧RAt (fun b=>w.heap.size<=b) w' rb mb g (newF ids (setI ids) 4)∧RowKit.Below w.heap.size w w'
def NotPost (w:World) (c:Int) (e:Ending) (w':World):Prop:=∃ v,e = .returned (.tuple #[.pointer none,v])∧IsErr w.heap.size w' v c∧RowKit.Below w.heap.size w w'
set_option maxRecDepth 100000 in
set_option maxHeartbeats 8000000 in
theorem new_yes (w:World) (v:Value) (ids:List Int) (hi:SlAt 0 (fun i=>.int .u64 (nth ids i)) ids.length w v) (h4:ids.length=4) (hs4:(setI ids).length=4) (hF:Four ids (setI ids)) :
 Calls Tryz.prog 38 #[v] w (NewPost w ids):=by
 obtain ⟨i0,hi0,hz0,hz1,hz2⟩:∃ i0,Tryz.prog.info? 3=some i0∧i0.zero=some (Value.int .i64 0)∧i0.size=1∧i0.bytes=8:=⟨intI,intI_at,by kernel_rfl,by kernel_rfl,by kernel_rfl⟩
 obtain ⟨a0,q0,rfl,_,_⟩:=hi.slice
 have HI:=Lib.hid hi
 have CS:=Lib.hid (fun wr (hb:Below w.heap.size w wr)=>sorted_any wr _ ids (hi.below hb) (by omega))
 have HP:Hid (∀ e w' rb mb g,e = .returned (.tuple #[.pointer (some ⟨rb,0,none⟩),.nilIface])->RAt (fun b=>w.heap.size<=b) w' rb mb g (newF ids (setI ids) 4)->RowKit.Below w.heap.size w w'->NewPost w ids e w') :=
  fun e w' rb mb g h1 h2 h3=>⟨rb,mb,g,h1,h2,h3⟩
 obtain ⟨s,hs⟩:∃ s,s=setI ids:=⟨_,rfl⟩
 rw [← hs] at CS hs4 hF HP
 have HF:=Lib.hid hF
 rw [h4] at CS ⊢
 rw [hs4] at CS
 clear hi hF hs
 have hmk:∀ (w:World),(Instr.makeMap 130 none).run Tryz.prog w = .ok (.map (some w.heap.size)) (w.alloc (.map #[] 0)):=fun w=>run_makeMap 130 w
 go_enter Tryz.func38,Tryz.ntmps38
 go_wp2_with fail
 refine (CS.out _ (by (repeat (first | exact Below.refl _ _ | (with_reducible assumption) | (with_reducible refine bel_later ?_ _) | (with_reducible refine bel_alloc ?_ _) | (with_reducible refine bel_drew ?_) | (with_reducible refine bel_drewN ?_ _) | (with_reducible refine bel_set ?_ (by first | (simp;done) | (simp;omega) | (dsimp only;omega)) _))))).mono ?_
 rintro e w1 ⟨v1,rfl,hs1,hB1⟩
 obtain ⟨a1,q1,rfl,_⟩:=hs1.slice
 have k0:w1.cell? ⟨w.heap.size,0,none⟩=some (.slice a0 4 q0):=by rw [hB1.cell (by simp)];simp [go_sem]
 have zz:w.heap.size<w1.heap.size:=by have:=hB1.size;simp at this;omega
 have S1:=Lib.hid hs1
 have B1:Below w.heap.size w w1:=bel_below (bel_alloc (Below.refl _ _) _) hB1
 clear hs1 hB1
 have R0:=Lib.hid (ring_none (w1.alloc (.cells #[.slice a1 4 q1] 22)) 132 (fun b=>w1.heap.size+1<=b) (fun b hb=>by simpa using hb))
 go_wp2_with fail
 obtain ⟨w3,hw3⟩:∃ w3,w3=((w1.alloc (.cells #[.slice a1 4 q1] 22)).alloc (.map #[] 0)).alloc (.cells #[.map (some (w1.heap.size+1))] 132):=⟨_,rfl⟩
 have R1:Hid (RAt (fun b=>w1.heap.size+1<=b) w3 (w1.heap.size+1+1) (w1.heap.size+1) (fun _=>0) (newF ids s 0)):=by
  have:=R0.out
  simp at this
  rw [hw3]
  exact this
 have B3:Below w1.heap.size w1 w3:=by rw [hw3];(repeat (first | exact Below.refl _ _ | (with_reducible assumption) | (with_reducible refine bel_later ?_ _) | (with_reducible refine bel_alloc ?_ _) | (with_reducible refine bel_drew ?_) | (with_reducible refine bel_drewN ?_ _) | (with_reducible refine bel_set ?_ (by first | (simp;done) | (simp;omega) | (dsimp only;omega)) _)))
 have kI:w3.cell? ⟨w.heap.size,0,none⟩=some (.slice a0 4 q0):=by rw [B3.cell (by exact zz)];exact k0
 have kS:w3.cell? ⟨w1.heap.size,0,none⟩=some (.slice a1 4 q1):=by rw [hw3];simp [go_sem]
 have z3:w1.heap.size+3=w3.heap.size:=by rw [hw3];simp
 rw [← hw3]
 clear hw3 R0
 have KB:=Lib.hid (fun wr (hK:RowKit.Below (w1.heap.size+1) w3 wr)=>(B3.trans (hK.mono (by omega)):Below w1.heap.size w1 wr))
 have CAT:=Lib.hid (fun wr (hK:RowKit.Below (w1.heap.size+1) w3 wr) (i:Int) (h0 : -1<=i) (h10:i<=10)=>at_any wr w.heap.size w1.heap.size ids s (.slice a0 4 q0) (.slice a1 4 q1)
  ((World.cell?_of_block (hK.block w.heap.size (by omega))).trans kI) ((World.cell?_of_block (hK.block w1.heap.size (by omega))).trans kS) (by have:=hK.size;omega) (by have:=hK.size;omega)
  (by have:=HI.out.below (bel_below B1 (KB.out wr hK));rwa [h4] at this ⊢) (by have:=(S1.out.base (Nat.zero_le _)).below (KB.out wr hK);rwa [hs4]) h4 hs4 i h0 h10)
 go_loopw [7,8,9,10,27] (fun _ _ _ _ i wr=>∃ (k:Nat) (g:Int->Nat),k<=4∧i = .int .i64 k∧Hid (RAt (fun b=>w1.heap.size+1<=b) wr (w1.heap.size+1+1) (w1.heap.size+1) g (newF ids s k))∧Hid (RowKit.Below (w1.heap.size+1) w3 wr)) (fun _ _ _ _ i _=>4 - (intOf i).toNat)
 case atStart=>exact ⟨0,_,by omega,rfl,R1.out,RowKit.Below.refl _ _⟩
 case round =>
  obtain ⟨k,g,hk,rfl,hR,hK⟩:=hrel
  by_cases hlt:k<4
  · obtain ⟨b,off,rfl,_,hb,hc⟩:=S1.out.at k (by omega) wr (KB.out wr hK.out)
    have ca:=Lib.hid (CAT.out wr hK.out ((k:Int) - 1) (by omega) (by omega))
    go_wp2_with fail
    refine ca.out.mono ?_
    rintro e w4 ⟨rfl,hB4⟩
    have K4:Hid (RowKit.Below (w1.heap.size+1) w3 w4):=hK.out.trans (hB4.mono (by have:=hK.out.size;omega))
    have R4:=Lib.hid (hR.out.below hB4)
    go_wp2_with fail
    obtain ⟨w5,hw5⟩:∃ w5,w5=w4.alloc (.cells #[.int .u64 (nth s k),.int .i64 (atI ids s ((k:Int) - 1)),.slice none 0 0] 67):=⟨_,rfl⟩
    have P5:Hid (w5.cell? ⟨w4.heap.size,0,none⟩=some (.int .u64 (nth s k))∧w5.cell? ⟨w4.heap.size,1,none⟩=some (.int .i64 (atI ids s ((k:Int) - 1)))∧w5.cell? ⟨w4.heap.size,2,none⟩=some (.slice none 0 0)∧(∀ o,w5.frozen? ⟨w4.heap.size,o,none⟩=false)∧w4.heap.size<w5.heap.size):=by
     show _∧_
     rw [hw5]
     refine ⟨by simp [go_sem],by simp [go_sem],by simp [go_sem],fun o=>by simp [go_sem],by simp⟩
    have K5:Hid (RowKit.Below (w1.heap.size+1) w3 w5):=by rw [hw5];exact K4.out.alloc (by have:=K4.out.size;omega) _
    have R5:Hid (RAt (Old (w1.heap.size+1) w4.heap.size w5) w5 (w1.heap.size+1+1) (w1.heap.size+1) g (newF ids s k)):=by
     rw [hw5]
     exact R4.out.same (by simp) (fun b hb' _=>(bel_alloc (RowKit.Below.refl _ w4) _).block b hb') (fun b hb' hS=>Or.inl ⟨hS,hb'⟩) (fun b hb'=>Or.inr hb')
    rw [← hw5]
    clear hw5
    obtain ⟨p,hp⟩:∃ p,p=w4.heap.size:=⟨_,rfl⟩
    rw [← hp] at P5 R5 ⊢
    have hpz:w1.heap.size+3<=p:=by have:=K4.out.size;omega
    clear hp
    go_loopw [10,38] (fun _ i wr=>∃ (j:Nat) (sv:Value),j<=3∧i = .int .i64 j∧Hid (wr.cell? ⟨p,0,none⟩=some (.int .u64 (nth s k))∧wr.cell? ⟨p,1,none⟩=some (.int .i64 (atI ids s ((k:Int) - 1)))∧wr.cell? ⟨p,2,none⟩=some sv∧(∀ o,wr.frozen? ⟨p,o,none⟩=false)∧p<wr.heap.size) ∧
     Hid (wr.ownsRow (p+1) 3 1 sv j ((sucs ids s k j).map (Value.int .i64)))∧Hid (RAt (Old (w1.heap.size+1) p wr) wr (w1.heap.size+1+1) (w1.heap.size+1) g (newF ids s k))∧Hid (RowKit.Below (w1.heap.size+1) w3 wr)) (fun _ i _=>3 - (intOf i).toNat)
    case atStart=>exact ⟨0,_,by omega,rfl,P5.out,World.ownsRow_nil _ _ _ _,R5.out,K5.out⟩
    case round =>
     obtain ⟨j,sv,hj,rfl,hP,hO,hR2,hK2⟩:=hrel
     by_cases hj3:j<3
     · obtain ⟨c0,c1,c2,fz,hpw⟩:=hP.out
       have ca2:=Lib.hid (fun wr' (hK':RowKit.Below (w1.heap.size+1) w3 wr')=>CAT.out wr' hK' ((k:Int)+(j:Int)+1) (by omega) (by omega))
       go_wp2_with fail
       refine wp_region_tame 7 9 (fun w'=>∃ x:Later wr,w'=x.world) (by kernel_rfl) (by kernel_rfl) ⟨⟨{ wr with drawn:=wr.drawn+1 },(RowKit.Below.refl _ _).drew⟩,rfl⟩ ?_ ?_
       · intro d v c a w h
         cases d <;> exact h
       · simp only [List.take_succ_cons,List.take_zero,List.drop_succ_cons,List.drop_zero]
         repeat (refine wpTame_step (fun K hK=>?_);go_simp;refine hK _ ?_;clear hK K)
         refine wpTame_nil ?_
         refine wpSeqC_step (by decide) (fun R hR=>?_)
         go_wp2_with fail
         refine (ca2.out _ hK2.out.drew).mono ?_
         rintro e w6 ⟨rfl,hB6⟩
         have B6:RowKit.Below wr.heap.size wr w6:=(bel_drew (RowKit.Below.refl _ _)).trans (hB6.mono (by simp))
         go_wp2_with fail
         refine hR _ _ ⟨⟨w6,B6⟩,rfl⟩ ?_
         clear hR R
         refine wpSeqC_step (by decide) (fun R hR=>?_)
         go_wp2_with fail
         refine hR _ _ ⟨⟨_,bel_alloc B6 _⟩,rfl⟩ ?_
         clear hR R
         refine wpSeqC_list (by decide) ?_
         have O6:=Lib.hid (owns_below hO.out B6)
         have hp6:p<w6.heap.size:=Nat.lt_of_lt_of_le hpw B6.size
         go_wp2_with (at_builtin;refine wpList_app rfl _ _ 36 rfl (p+1) 3 i0 (.int .i64 0) 8 Tryz.underlying36 hi0 hz0 hz1 hz2 rfl _ j _ rfl (O6.out.alloc _) 0 _ 1 _ rfl (sl_new _ .i64 [atI ids s ((k:Int)+(j:Int)+1)] 3 _ 1 rfl rfl (by simp [maxLen])) (fun _=>rfl) ?qc1 ?qc2 ?qc3 ?_)
         case qc1=>simp only [maxLen];omega
         case qc2=>omega
         case qc3=>simp;omega
         intro v7 w7 ho7 hg7
         have hown:∀ q,sv.ownBlock=some q->p+1<=q:=fun q hq=>(O6.out.lt q hq).1
         have B6a:=bel_alloc B6 (.cells [Value.int IntKind.i64 (atI ids s ((k:Int)+(j:Int)+1))].toArray 3)
         have hfar:∀ b,b<=p->w7.heap[b]? = wr.heap[b]?:=fun b hb'=>by
          rw [hg7.block b (by simp;omega) (fun e=>by have:=hown b e.symm;omega)]
          exact B6a.block b (by omega)
         have hp7:p<w7.heap.size:=by have:=hg7.size;simp at this;omega
         have d0:=(World.cell?_of_block (a:=⟨p,0,none⟩) (hfar p (Nat.le_refl _))).trans c0
         have d1:=(World.cell?_of_block (a:=⟨p,1,none⟩) (hfar p (Nat.le_refl _))).trans c1
         have d2:=(World.cell?_of_block (a:=⟨p,2,none⟩) (hfar p (Nat.le_refl _))).trans c2
         have dz:∀ o,w7.frozen? ⟨p,o,none⟩=false:=fun o=>(World.frozen?_of_block (hfar p (Nat.le_refl _))).trans (fz o)
         have dz2:=dz 2
         have DZ:=Lib.hid dz
         have hs7:=own_slAt ho7
         obtain ⟨a7,q7,rfl,_⟩:=hs7.slice
         have O7:=Lib.hid ho7
         have R7:=Lib.hid (old_blocks hR2.out (w':=w7) (by have:=hg7.size;have:=B6a.size;omega) (fun b hb'=>hfar b (by omega)))
         have K7:Hid (RowKit.Below (w1.heap.size+1) w3 w7):=(hK2.out.trans (B6a.mono (by have:=hK2.out.size;omega))).grown hg7 (by have:=hK2.out.size;have:=B6a.size;omega) (fun q hq=>by have:=hown q hq;omega)
         clear ho7 hg7 hs7 c0 c1 c2 hfar dz B6a fz
         go_wp2_with fail
         go_roundw
         case rel =>
          refine ⟨j+1,_,by omega,by go_num,⟨?_,?_,set_at d2,fun o=>by rw [World.frozen?_setCell];exact DZ.out o,by rw [size_set];exact hp7⟩,?_,?_,?_⟩
          · rw [cell_set_off _ _ _ _ _ (by decide)];exact d0
          · rw [cell_set_off _ _ _ _ _ (by decide)];exact d1
          · refine owns_blocks (w:=w7) ?_ (fun g hg _=>Below.heap_setCell _ _ _ _ (by dsimp only;omega))
            have:=O7.out
            simpa [sucs,List.range_succ,nth] using this
          · exact old_blocks R7.out (by rw [size_set];exact Nat.le_refl _) (fun b hb'=>Below.heap_setCell _ _ _ _ (by dsimp only;omega))
          · exact K7.out.setCell (by dsimp only;omega) _
         case measure=>go_light;simp [intOf];omega
     · obtain rfl:j=3:=by omega
       obtain ⟨c0,c1,c2,fz,hpw⟩:=hP.out
       have hold:=Lib.hid (newF_old HF.out k hk k (Nat.le_refl _) hlt)
       have hdom:Hid (Dom (setM (newF ids s k) (atI ids s k) (memAt ids s k))):=newF_dom HF.out (k+1) (by omega)
       have hat:=HF.out.at (k:Int)
       have oka:okInt (atI ids s k):=okInt_dom (by omega) (by omega)
       have R2w:=Lib.hid (old_wide hR2.out (by omega))
       have r0:=hR2.out.root
       have rz:=hR2.out.rbz
       have ca2:=Lib.hid (fun wr' (hK':RowKit.Below (w1.heap.size+1) w3 wr')=>CAT.out wr' hK' (k:Int) (by omega) (by omega))
       obtain ⟨la,lc,rfl,_⟩:=(own_slAt hO.out).slice
       clear hat
       go_wp2_with fail
       refine wp_region_heads [0,1,2,3,4,5,7,8] 10 (fun w'=>∃ x:Later wr,w'=x.world) (by kernel_rfl) (by kernel_rfl) ⟨⟨{ wr with drawn:=wr.drawn+1 },(RowKit.Below.refl _ _).drew⟩,rfl⟩ ?_ ?_
       · intro d v c a w h
         cases d <;> exact h
       · simp only [headOps]
         repeat (refine wpTame_step (fun K hK=>?_);go_simp;refine hK _ ?_;clear hK K)
         refine wpTame_nil ?_
         refine wpAnyC_step (f:=2) [6,9] (by kernel_rfl) rfl rfl (fun i hi=>?_)
         simp only [List.mem_cons,List.not_mem_nil,or_false] at hi
         rcases hi with rfl | rfl
         · refine ⟨_,rfl,fun R hR=>?_⟩
           go_wp2_with fail
           refine (ca2.out _ hK2.out.drew).mono ?_
           rintro e w6 ⟨rfl,hB6⟩
           have B6:RowKit.Below wr.heap.size wr w6:=(bel_drew (RowKit.Below.refl _ _)).trans (hB6.mono (by simp))
           go_wp2_with fail
           refine hR _ _ ⟨⟨w6,B6⟩,rfl⟩ ?_
           clear hR R
           refine wpAnyC_step (f:=1) [9] (by kernel_rfl) rfl rfl (fun i hi=>?_)
           simp only [List.mem_cons,List.not_mem_nil,or_false] at hi
           subst hi
           refine ⟨_,rfl,fun R hR=>?_⟩
           go_wp2_with fail
           obtain ⟨W8,hW8⟩:∃ x,x=((w6).alloc (.cells #[.bool true,.int .u64 (nth s k),.int .i64 (atI ids s ((k:Int) - 1)),.slice la 3 lc] 134)):=⟨_,rfl⟩
           have b0:W8.cell? ⟨(w6).heap.size,0,none⟩=some (.bool true):=by rw [hW8];simp [go_sem]
           have b1:W8.cell? ⟨(w6).heap.size,1,none⟩=some (.int .u64 (nth s k)):=by rw [hW8];simp [go_sem]
           have b2:W8.cell? ⟨(w6).heap.size,2,none⟩=some (.int .i64 (atI ids s ((k:Int) - 1))):=by rw [hW8];simp [go_sem]
           have b3:W8.cell? ⟨(w6).heap.size,3,none⟩=some (.slice la 3 lc):=by rw [hW8];simp [go_sem]
           have bfz:∀ o,W8.frozen? ⟨(w6).heap.size,o,none⟩=false:=fun o=>by rw [hW8];simp [go_sem]
           have hbb2:(w6).heap.size<W8.heap.size:=by rw [hW8];simp
           rw [← hW8]
           have B8:RowKit.Below wr.heap.size wr W8:=by rw [hW8];exact bel_alloc B6 _
           have hbb1:=B6.size
           obtain ⟨bb,hbb⟩:∃ x,x=w6.heap.size:=⟨_,rfl⟩
           rw [← hbb] at b0 b1 b2 b3 bfz hbb1 hbb2 ⊢
           refine hR _ _ ⟨⟨W8,B8⟩,rfl⟩ ?_
           clear hW8 hbb hB6 B6
           clear hR R
           have hst:=(R2w.out.below B8).map.store keyInt Tryz.underlying3 Tryz.underlying130 (by have:=cntM_le (newF ids s k);simp only [maxLen];omega) (atI ids s k) oka bb
           obtain ⟨w9,hrun,hmp,hg9⟩:=hst
           have hrun':(Instr.mapUpdate 130 (.map (some (w1.heap.size+1))) (.int .i64 (atI ids s k)) (.pointer (some ⟨bb,0,none⟩))).run Tryz.prog W8 = .ok () w9:=hrun
           have RN:=Lib.hid (new_member (M:=memAt ids s k) hR2.out (by omega) hpw hold.out B8 hbb1 hbb2 hdom.out bfz b0 b1 b2 b3 (by have:=hO.out;rw [sucs_three] at this;exact this) hmp hg9)
           have B9:Hid (RowKit.Below (w1.heap.size+1) w3 w9):=(hK2.out.trans (B8.mono (by have:=hK2.out.size;omega))).grown hg9 (by have:=hK2.out.size;have:=B8.size;omega) (fun q hq=>by cases hq;omega)
           clear hmp hg9 hrun
           refine wpAnyC_end (k:=10) (by decide) rfl rfl (by kernel_rfl) ?_
           go_wp2_with fail
           go_roundw
           case rel=>go_light;exact ⟨k+1,_,by omega,by go_num,RN.out,B9.out⟩
           case measure=>go_light;simp [intOf];omega
         · refine ⟨_,rfl,fun R hR=>?_⟩
           go_wp2_with fail
           obtain ⟨W8,hW8⟩:∃ x,x=((wr).alloc (.cells #[.bool true,.int .u64 (nth s k),.int .i64 (atI ids s ((k:Int) - 1)),.slice la 3 lc] 134)).drew:=⟨_,rfl⟩
           have b0:W8.cell? ⟨(wr).heap.size,0,none⟩=some (.bool true):=by rw [hW8];simp [go_sem]
           have b1:W8.cell? ⟨(wr).heap.size,1,none⟩=some (.int .u64 (nth s k)):=by rw [hW8];simp [go_sem]
           have b2:W8.cell? ⟨(wr).heap.size,2,none⟩=some (.int .i64 (atI ids s ((k:Int) - 1))):=by rw [hW8];simp [go_sem]
           have b3:W8.cell? ⟨(wr).heap.size,3,none⟩=some (.slice la 3 lc):=by rw [hW8];simp [go_sem]
           have bfz:∀ o,W8.frozen? ⟨(wr).heap.size,o,none⟩=false:=fun o=>by rw [hW8];simp [go_sem]
           have hbb2:(wr).heap.size<W8.heap.size:=by rw [hW8];simp
           rw [← hW8]
           have B7:RowKit.Below wr.heap.size wr W8:=by rw [hW8];exact bel_drew (bel_alloc (RowKit.Below.refl _ _) _)
           obtain ⟨bb,hbb⟩:∃ x,x=wr.heap.size:=⟨_,rfl⟩
           have hbb1:wr.heap.size<=bb:=by omega
           rw [← hbb] at b0 b1 b2 b3 bfz hbb2
           rw [← hbb]
           refine hR _ _ ⟨⟨W8,B7⟩,rfl⟩ ?_
           clear hR R hW8 hbb
           refine wpAnyC_step (f:=1) [6] (by kernel_rfl) rfl rfl (fun i hi=>?_)
           simp only [List.mem_cons,List.not_mem_nil,or_false] at hi
           subst hi
           refine ⟨_,rfl,fun R hR=>?_⟩
           go_wp2_with fail
           refine (ca2.out _ (hK2.out.trans (B7.mono (by have:=hK2.out.size;omega)))).mono ?_
           rintro e w6 ⟨rfl,hB6⟩
           have c0':=(hB6.cell (p:=⟨bb,0,none⟩) hbb2).trans b0
           have c1':=(hB6.cell (p:=⟨bb,1,none⟩) hbb2).trans b1
           have c2':=(hB6.cell (p:=⟨bb,2,none⟩) hbb2).trans b2
           have c3':=(hB6.cell (p:=⟨bb,3,none⟩) hbb2).trans b3
           have cfz:∀ o,w6.frozen? ⟨bb,o,none⟩=false:=fun o=>(hB6.frozen (p:=⟨bb,o,none⟩) hbb2).trans (bfz o)
           have hbb3:bb<w6.heap.size:=Nat.lt_of_lt_of_le hbb2 hB6.size
           have B8':RowKit.Below wr.heap.size wr w6:=B7.trans (hB6.mono B7.size)
           clear b0 b1 b2 b3 bfz hbb2 B7 hB6
           go_wp2_with fail
           refine hR _ _ ⟨⟨w6,B8'⟩,rfl⟩ ?_
           obtain ⟨W8,hW8,b0,b1,b2,b3,bfz,hbb2,B8⟩:∃ W8,W8=w6∧W8.cell? ⟨bb,0,none⟩=some (.bool true)∧W8.cell? ⟨bb,1,none⟩=some (.int .u64 (nth s k))∧W8.cell? ⟨bb,2,none⟩=some (.int .i64 (atI ids s ((k:Int) - 1)))∧W8.cell? ⟨bb,3,none⟩=some (.slice la 3 lc)∧(∀ o,W8.frozen? ⟨bb,o,none⟩=false)∧bb<W8.heap.size∧RowKit.Below wr.heap.size wr W8:=⟨w6,rfl,c0',c1',c2',c3',cfz,hbb3,B8'⟩
           rw [← hW8]
           clear hW8 c0' c1' c2' c3' cfz hbb3 B8'
           clear hR R
           have hst:=(R2w.out.below B8).map.store keyInt Tryz.underlying3 Tryz.underlying130 (by have:=cntM_le (newF ids s k);simp only [maxLen];omega) (atI ids s k) oka bb
           obtain ⟨w9,hrun,hmp,hg9⟩:=hst
           have hrun':(Instr.mapUpdate 130 (.map (some (w1.heap.size+1))) (.int .i64 (atI ids s k)) (.pointer (some ⟨bb,0,none⟩))).run Tryz.prog W8 = .ok () w9:=hrun
           have RN:=Lib.hid (new_member (M:=memAt ids s k) hR2.out (by omega) hpw hold.out B8 hbb1 hbb2 hdom.out bfz b0 b1 b2 b3 (by have:=hO.out;rw [sucs_three] at this;exact this) hmp hg9)
           have B9:Hid (RowKit.Below (w1.heap.size+1) w3 w9):=(hK2.out.trans (B8.mono (by have:=hK2.out.size;omega))).grown hg9 (by have:=hK2.out.size;have:=B8.size;omega) (fun q hq=>by cases hq;omega)
           clear hmp hg9 hrun
           refine wpAnyC_end (k:=10) (by decide) rfl rfl (by kernel_rfl) ?_
           go_wp2_with fail
           go_roundw
           case rel=>go_light;exact ⟨k+1,_,by omega,by go_num,RN.out,B9.out⟩
           case measure=>go_light;simp [intOf];omega
  · obtain rfl:k=4:=by omega
    go_wp2_with fail
    go_ret2
    exact HP.out _ _ _ _ _ rfl (hR.out.same (Nat.le_refl _) (fun _ _ _=>rfl) (fun b _ hS=>by omega) (fun b hb'=>by have:=hK.out.size;omega)) (B1.trans ((B3.trans (hK.out.mono (by omega))).mono (by omega)))
theorem new_no1 (w:World) (v:Value) (ids:List Int) (hi:SlAt 0 (fun i=>.int .u64 (nth ids i)) ids.length w v) (h4:ids.length≠4):Calls Tryz.prog 38 #[v] w (NotPost w 1):=by
 obtain ⟨a0,q0,rfl,h1,h2⟩:=hi.slice
 have hne:(((ids.length:Int) != 4):Bool)=true:=by simp;omega
 have hm:ids.length<=9223372036854775807:=by unfold maxLen at h2;omega
 clear hi
 go_enter Tryz.func38,Tryz.ntmps38
 go_wp2_with fail
 refine (fault_any _ _).mono ?_
 rintro e w' ⟨v,rfl,hE,hB⟩
 go_wp2_with fail
 go_ret2
 obtain ⟨b,rfl,e1,e2,e3⟩:=hE
 exact ⟨_,rfl,⟨b,rfl,by simp at e1;omega,e2,e3⟩,bel_below (bel_alloc (RowKit.Below.refl _ _) _) hB⟩
theorem new_no2 (w:World) (v:Value) (ids:List Int) (hi:SlAt 0 (fun i=>.int .u64 (nth ids i)) ids.length w v) (h4:ids.length=4) (hs4:(setI ids).length≠4):Calls Tryz.prog 38 #[v] w (NotPost w 8):=by
 obtain ⟨a0,q0,rfl,h1,h2⟩:=hi.slice
 have CS:=Lib.hid (fun wr (hb:Below w.heap.size w wr)=>sorted_any wr _ ids (hi.below hb) (by omega))
 obtain ⟨s,hs⟩:∃ s,s=setI ids:=⟨_,rfl⟩
 have hle:=setI_len ids
 rw [← hs] at CS hs4 hle
 rw [h4] at CS hle ⊢
 have hne:(((s.length:Int) != 4):Bool)=true:=by simp;omega
 clear hi hs
 go_enter Tryz.func38,Tryz.ntmps38
 go_wp2_with fail
 refine (CS.out _ (by (repeat (first | exact Below.refl _ _ | (with_reducible assumption) | (with_reducible refine bel_later ?_ _) | (with_reducible refine bel_alloc ?_ _) | (with_reducible refine bel_drew ?_) | (with_reducible refine bel_drewN ?_ _) | (with_reducible refine bel_set ?_ (by first | (simp;done) | (simp;omega) | (dsimp only;omega)) _))))).mono ?_
 rintro e w1 ⟨v1,rfl,hs1,hB1⟩
 obtain ⟨a1,q1,rfl,_⟩:=hs1.slice
 have B1:Below w.heap.size w w1:=bel_below (bel_alloc (Below.refl _ _) _) hB1
 clear hs1 hB1
 go_wp2_with fail
 refine (fault_any _ _).mono ?_
 rintro e w' ⟨v,rfl,hE,hB⟩
 go_wp2_with fail
 go_ret2
 obtain ⟨b,rfl,e1,e2,e3⟩:=hE
 have hB1:=B1.size
 exact ⟨_,rfl,⟨b,rfl,by simp at e1;omega,e2,e3⟩,bel_below (bel_alloc B1 _) hB⟩
theorem setI_nodup {l:List Int} (h:(setI l).length=l.length):l.Nodup:=by
 refine List.pairwise_iff_getElem.2 fun i j hi hj hij e=>?_
 have h1:setI (l.eraseIdx i)=setI l:=up_uniq (setI_up _) (setI_up _) fun x=>by
  rw [mem_setI,mem_setI,List.mem_eraseIdx_iff_getElem]
  constructor
  · rintro ⟨k,hk,_,rfl⟩;exact List.getElem_mem hk
  · intro hx
    obtain ⟨k,hk,rfl⟩:=List.getElem_of_mem hx
    by_cases hki:k=i
    · subst hki;exact ⟨j,hj,by omega,e.symm⟩
    · exact ⟨k,hk,hki,rfl⟩
 have h2:=setI_len (l.eraseIdx i)
 rw [h1,List.length_eraseIdx_of_lt hi] at h2
 omega
theorem four_of {ids:List Int} (h4:ids.length=4) (hs:(setI ids).length=4) (hp:∀ x∈ids,isPlace x):Four ids (setI ids) :=
 ⟨h4,hs,setI_nodup (by omega),setI_up ids,fun x=>mem_setI,hp⟩
def fourB (ids:List Int):Bool:=ids.length == 4 && (setI ids).length == 4
def AskPost (w:World) (ids:List Int) (e:Ending) (w':World):Prop:=if fourB ids=true then NewPost w ids e w' else NotPost w (if ids.length=4 then 8 else 1) e w'
theorem new_any (w:World) (v:Value) (ids:List Int) (hi:SlAt 0 (fun i=>.int .u64 (nth ids i)) ids.length w v) (hp:∀ x∈ids,isPlace x):Calls Tryz.prog 38 #[v] w (AskPost w ids):=by
 by_cases h4:ids.length=4
 · by_cases hs:(setI ids).length=4
   · exact (new_yes w v ids hi h4 hs (four_of h4 hs hp)).mono fun e w' h=>by unfold AskPost fourB;simpa [h4,hs] using h
   · exact (new_no2 w v ids hi h4 hs).mono fun e w' h=>by unfold AskPost fourB;simpa [h4,hs] using h
 · exact (new_no1 w v ids hi h4).mono fun e w' h=>by unfold AskPost fourB;simpa [h4] using h
end
end Go.Proofs.YtahiahjhpakeiaaGreatDoor
section
namespace Go.Proofs.YtahiahjhpakeiaaGreatDoor
open Go.RowKit Go.Maps Go.Sort
set_option linter.unusedVariables false
set_option linter.unusedSimpArgs false
def Near (ids:List Int) (x:Int) (k:Nat) (b:Int):Prop :=
 (b = -1 ∧ ∀ j,j<k->nth ids j=x) ∨ ∃ i:Nat,b=i∧i<k∧nth ids i≠x ∧ ∀ j,j<k->nth ids j≠x->dist x (nth ids i)<=dist x (nth ids j)
theorem near_zero (ids:List Int) (x:Int):Near ids x 0 (-1):=Or.inl ⟨rfl,fun j hj=>absurd hj (by omega)⟩
theorem near_self {ids:List Int} {x:Int} {k:Nat} {b:Int} (h:Near ids x k b) (e:nth ids k=x):Near ids x (k+1) b:=by
 rcases h with ⟨h1,h2⟩ | ⟨i,h1,h2,h3,h4⟩
 · exact Or.inl ⟨h1,fun j hj=>by
    by_cases ej:j=k
    · rw [ej,e]
    · exact h2 j (by omega)⟩
 · exact Or.inr ⟨i,h1,by omega,h3,fun j hj hne=>by
    by_cases ej:j=k
    · exact absurd (ej ▸ e) hne
    · exact h4 j (by omega) hne⟩
theorem near_take {ids:List Int} {x:Int} {k:Nat} {b:Int} (h:Near ids x k b) (e:nth ids k≠x) (hb:b<0 ∨ ∃ i:Nat,b=i∧dist x (nth ids k)<dist x (nth ids i)):Near ids x (k+1) k:=by
 refine Or.inr ⟨k,rfl,Nat.lt_succ_self _,e,fun j hj hne=>?_⟩
 by_cases ej:j=k
 · rw [ej];exact Int.le_refl _
 · rcases h with ⟨h1,h2⟩ | ⟨i,h1,h2,h3,h4⟩
   · exact absurd (h2 j (by omega)) hne
   · rcases hb with hb | ⟨i',h5,h6⟩
     · omega
     · have:i'=i:=by omega
       subst this
       have:=h4 j (by omega) hne
       omega
theorem near_skip {ids:List Int} {x:Int} {k i:Nat} (h:Near ids x k i) (hd:¬ dist x (nth ids k)<dist x (nth ids i)):Near ids x (k+1) i:=by
 rcases h with ⟨h1,_⟩ | ⟨i',h1,h2,h3,h4⟩
 · omega
 · have:i=i':=by omega
   subst this
   refine Or.inr ⟨i,rfl,by omega,h3,fun j hj hne=>?_⟩
   by_cases ej:j=k
   · rw [ej];omega
   · exact h4 j (by omega) hne
theorem near_lt {ids:List Int} {x:Int} {k:Nat} {b:Int} (h:Near ids x k b):b = -1 ∨ ∃ i:Nat,b=i∧i<k:=by
 rcases h with ⟨h1,_⟩ | ⟨i,h1,h2,_⟩
 · exact Or.inl h1
 · exact Or.inr ⟨i,h1,h2⟩
section
variable {ids s:List Int}
theorem Four.at_place (F:Four ids s) (t:Int):∃ k:Nat,k<4∧atI ids s t=k∧nth ids k=nth s ((t+4) % 4).toNat:=by
 obtain ⟨k,hk,e1,e2⟩:=F.pos (j:=((t+4) % 4).toNat) (by omega)
 exact ⟨k,hk,e2,e1⟩
theorem Four.next_min (F:Four ids s) {j m:Nat} (hj:j<4) (hm:m<4) (hne:m≠j) (h:dist (nth s j) (nth s m)<=dist (nth s j) (nth s ((j+1) % 4))):m=(j+1) % 4:=by
 obtain ⟨p0,p3,h01,h12,h23⟩:=F.places
 unfold isPlace at p0 p3
 unfold dist at h
 have cj:j=0∨j=1∨j=2∨j=3:=by omega
 have cm:m=0∨m=1∨m=2∨m=3:=by omega
 rcases cj with rfl | rfl | rfl | rfl <;> rcases cm with rfl | rfl | rfl | rfl <;> simp at h hne ⊢ <;> omega
theorem Four.near (F:Four ids s) {t:Int} {b:Int} (h:Near ids (nth s ((t+4) % 4).toNat) 4 b):b=atI ids s (t+1):=by
 obtain ⟨j,hj⟩:∃ j,j=((t+4) % 4).toNat:=⟨_,rfl⟩
 rw [← hj] at h
 have hj4:j<4:=by omega
 have e1:(((t+1)+4) % 4).toNat=(j+1) % 4:=by omega
 obtain ⟨y,hy,ey,iy⟩:=F.pos (j:=(j+1) % 4) (by omega)
 have hne:nth s ((j+1) % 4)≠nth s j:=fun e=>by
  rcases Nat.lt_or_ge ((j+1) % 4) j with h1 | h1
  · have:=up_nth F.up h1 (by rw [F.ls];omega);omega
  · have:=up_nth F.up (i:=j) (j:=(j+1) % 4) (by omega) (by rw [F.ls];omega);omega
 rcases h with ⟨_,h2⟩ | ⟨i,h1,h2,h3,h4⟩
 · exact absurd (ey.symm.trans (h2 y hy)) (fun e=>hne e)
 · have hin:nth ids i∈s:=(F.mem _).2 (nth_mem.2 ⟨i,by rw [F.li];exact h2,rfl⟩)
   obtain ⟨m,hm,em⟩:=nth_mem.1 hin
   rw [F.ls] at hm
   have h5:=h4 y hy (by rw [ey];exact hne)
   rw [← em,ey] at h5
   have h6:=F.next_min hj4 hm (fun e=>h3 (by rw [← em,e])) h5
   subst h6
   have h7:idxI ids (nth ids i)=i:=idxI_at F.nodup (by rw [F.li];exact h2)
   rw [h1]
   unfold atI
   rw [e1,em,h7]
theorem Four.mem_of (F:Four ids s) {n:Nat} (hn:n<4):∃ t:Int,(n:Int)=atI ids s t∧nth ids n=nth s ((t+4) % 4).toNat∧newF ids s 4 (n:Int)=some ⟨true,nth ids n,atI ids s (t+3),[atI ids s (t+1),atI ids s (t+2),atI ids s (t+3)]⟩:=by
 obtain ⟨j,hj,e1,e2⟩:=F.onto (b:=(n:Int)) (by omega) (by omega)
 have e3:(((j:Int)+4) % 4).toNat=j:=by omega
 refine ⟨j,e1,by rw [e3,e2];simp,?_⟩
 rw [e1,F.mk_at,e3]
 simp only [memAt,Option.some.injEq,Mem.mk.injEq,true_and,and_true]
 refine ⟨by rw [e2];simp,?_⟩
 rw [atI_mod ids s ((j:Int) - 1),atI_mod ids s ((j:Int)+3)]
 congr 2
 omega
theorem Four.none_of (F:Four ids s) {n:Nat} (hn:4<=n):newF ids s 4 (n:Int)=none:=by
 cases e:newF ids s 4 (n:Int) with
 | none=>rfl
 | some m =>
   obtain ⟨i,hi,e1,_⟩:=newF_inv 4 _ m e
   have:=F.at i
   omega
end
def partF (ids s:List Int) (m:Nat):RS:=fun n=>if n<m then newF ids s 4 n else none
theorem partF_all (ids s:List Int) (F:Four ids s):partF ids s 4=newF ids s 4:=funext fun n=>by
 unfold partF
 split
 · rfl
 · rename_i h
   have:=F.none_of (n:=n.toNat) (by omega)
   rw [← this];congr 1;omega
end Go.Proofs.YtahiahjhpakeiaaGreatDoor
namespace Go.Proofs.YtahiahjhpakeiaaGreatDoor
open Go.RowKit Go.Maps Go.Sort
set_option linter.unusedVariables false
set_option linter.unusedSimpArgs false
attribute [local go_sem] later_cell later_frozen later_lt cell_set_off cell_set_block
set_option maxRecDepth 100000 in
set_option maxHeartbeats 4000000 in
theorem rbehind_any (w:World) (v:Value) (ids:List Int) (hi:SlAt 0 (fun i=>.int .u64 (nth ids i)) ids.length w v) (h4:ids.length=4) (hp:∀ z∈ids,isPlace z) (x:Int) (px:isPlace x) :
 Calls Tryz.prog 92 #[v,.int .u64 x] w fun e w'=>∃ b,e = .returned (.int .i64 b)∧Near ids x 4 b∧RowKit.Below w.heap.size w w':=by
 rw [h4] at hi
 obtain ⟨a,c,rfl,hc,hm⟩:=hi.slice
 have hA:=Lib.hid hi
 have hpl:Hid (∀ j,j<4->isPlace (nth ids j)):=fun j hj=>hp _ (nth_mem.2 ⟨j,by omega,rfl⟩)
 clear hi hp
 go_enter Tryz.func92,Tryz.ntmps92
 go_wp2_with fail
 go_loopw [5,6,7,10] (fun bv _ _ i wr=>∃ (k:Nat) (b:Int),k<=4∧i = .int .i64 k∧bv = .int .i64 b∧Hid (Near ids x k b)∧Hid (RowKit.Below w.heap.size w wr)) (fun _ _ _ i _=>4 - (intOf i).toNat)
 case atStart=>exact ⟨0,-1,by omega,rfl,rfl,near_zero ids x,RowKit.Below.refl _ _⟩
 case round =>
  obtain ⟨k,b,hk,rfl,rfl,hN,hB⟩:=hrel
  by_cases hlt:k<4
  · obtain ⟨bb,off,rfl,_,hb,hck⟩:=hA.out.at k hlt wr hB.out
    have py:=hpl.out k hlt
    by_cases he:nth ids k=x
    · have h1:(nth ids k != x)=false:=by simp [he]
      have F:=Lib.hid (near_self hN.out he)
      go_wp2_with fail
      refine wp_region_calm (by kernel_rfl) (by kernel_rfl) ?_
      repeat (first | (go_big_quiet_step ((go_at_call 116;exact calls_calm_same (rdist_any _ _ _ (by assumption) (by assumption))))) | (refine wpQuiet_step (fun K hK=>?_);go_simp;first | (refine hK _ ?_;clear hK K) | (apply Exists.intro;refine ⟨fun _=>?_,hK _ ?_⟩;(go_at_call 116;exact calls_calm_same (rdist_any _ _ _ (by assumption) (by assumption)));clear hK K)))
      refine wpQuiet_nil ?_
      intro _ hw'
      obtain ⟨xq,hw''⟩:=hw'
      subst hw''
      have B2:=Lib.hid (bel_below hB.out xq.below)
      go_wp2_with fail
      go_roundw
      case rel=>go_light;exact ⟨k+1,b,by omega,by go_num,by first | rfl | trivial,F.out,B2.out⟩
      case measure=>go_light;simp [intOf];omega
    · have h1:(nth ids k != x)=true:=by simpa using he
      rcases near_lt hN.out with hb1 | ⟨i,hb1,hik⟩
      · have hb0:b<0:=by omega
        have F:=Lib.hid (near_take hN.out he (Or.inl hb0))
        go_wp2_with fail
        refine wp_region_calm (by kernel_rfl) (by kernel_rfl) ?_
        repeat (first | (go_big_quiet_step ((go_at_call 116;exact calls_calm_same (rdist_any _ _ _ (by assumption) (by assumption))))) | (refine wpQuiet_step (fun K hK=>?_);go_simp;first | (refine hK _ ?_;clear hK K) | (apply Exists.intro;refine ⟨fun _=>?_,hK _ ?_⟩;(go_at_call 116;exact calls_calm_same (rdist_any _ _ _ (by assumption) (by assumption)));clear hK K)))
        refine wpQuiet_nil ?_
        intro _ hw'
        obtain ⟨xq,hw''⟩:=hw'
        subst hw''
        have B2:=Lib.hid (bel_below hB.out xq.below)
        go_wp2_with fail
        go_roundw
        case rel=>go_light;exact ⟨k+1,(k:Int),by omega,by go_num,by first | rfl | trivial,F.out,B2.out⟩
        case measure=>go_light;simp [intOf];omega
      · subst hb1
        have hbn:¬ ((i:Nat):Int)<0:=by omega
        have hi4:((i:Nat):Int)<4:=by omega
        have pi:=hpl.out i (by omega)
        obtain ⟨bb2,off2,e2,_,hb2,hck2⟩:=hA.out.at i (by omega) wr hB.out
        cases e2
        by_cases hd:dist x (nth ids k)<dist x (nth ids i)
        · have F:=Lib.hid (near_take hN.out he (Or.inr ⟨i,rfl,hd⟩))
          go_wp2_with fail
          refine wp_region_calm (by kernel_rfl) (by kernel_rfl) ?_
          repeat (first | (go_big_quiet_step ((go_at_call 116;exact calls_calm_same (rdist_any _ _ _ (by assumption) (by assumption))))) | (refine wpQuiet_step (fun K hK=>?_);go_simp;first | (refine hK _ ?_;clear hK K) | (apply Exists.intro;refine ⟨fun _=>?_,hK _ ?_⟩;(go_at_call 116;exact calls_calm_same (rdist_any _ _ _ (by assumption) (by assumption)));clear hK K)))
          refine wpQuiet_nil ?_
          intro _ hw'
          obtain ⟨xq,hw''⟩:=hw'
          subst hw''
          have B2:=Lib.hid (bel_below hB.out xq.below)
          go_wp2_with fail
          go_roundw
          case rel=>go_light;exact ⟨k+1,(k:Int),by omega,by go_num,by first | rfl | trivial,F.out,B2.out⟩
          case measure=>go_light;simp [intOf];omega
        · have F:=Lib.hid (near_skip hN.out hd)
          go_wp2_with fail
          refine wp_region_calm (by kernel_rfl) (by kernel_rfl) ?_
          repeat (first | (go_big_quiet_step ((go_at_call 116;exact calls_calm_same (rdist_any _ _ _ (by assumption) (by assumption))))) | (refine wpQuiet_step (fun K hK=>?_);go_simp;first | (refine hK _ ?_;clear hK K) | (apply Exists.intro;refine ⟨fun _=>?_,hK _ ?_⟩;(go_at_call 116;exact calls_calm_same (rdist_any _ _ _ (by assumption) (by assumption)));clear hK K)))
          refine wpQuiet_nil ?_
          intro _ hw'
          obtain ⟨xq,hw''⟩:=hw'
          subst hw''
          have B2:=Lib.hid (bel_below hB.out xq.below)
          go_wp2_with fail
          go_roundw
          case rel=>go_light;exact ⟨k+1,(i:Int),by omega,by go_num,by first | rfl | trivial,F.out,B2.out⟩
          case measure=>go_light;simp [intOf];omega
  · obtain rfl:k=4:=by omega
    go_wp2_with fail
    go_ret
    exact ⟨b,rfl,hN.out,hB.out⟩
end Go.Proofs.YtahiahjhpakeiaaGreatDoor
namespace Go.Proofs.YtahiahjhpakeiaaGreatDoor
open Go.RowKit Go.Maps Go.Sort
set_option linter.unusedVariables false
set_option linter.unusedSimpArgs false
attribute [local go_sem] later_cell later_frozen later_lt cell_set_off cell_set_block
theorem owns_block {w w':World} {base e s n:Nat} {v:Value} {xs:List Value} (h:w.ownsRow base e s v n xs) (hb:∀ g,v.ownBlock=some g->w'.heap[g]? = w.heap[g]?):w'.ownsRow base e s v n xs:=by
 refine ⟨h.1,h.2.imp id ?_⟩
 rintro ⟨g,cap,cur,e1,h1,h2,h3⟩
 exact ⟨g,cap,cur,e1,h1,(hb g (by rw [e1];rfl)).trans h2,h3⟩
theorem owns_shape {w:World} {base e s n:Nat} {v:Value} {xs:List Value} (h:w.ownsRow base e s v n xs) (hn:0<n):∃ g cap,v = .slice (some ⟨g,0,none⟩) n cap:=by
 rcases h.2 with ⟨_,h0⟩ | ⟨g,cap,cur,rfl,_⟩
 · omega
 · exact ⟨g,cap,rfl⟩
def upd {α:Type} (f:Nat->α) (j:Nat) (x:α):Nat->α:=fun i=>if i=j then x else f i
structure NewSt (u:World) (R:Nat) (v:Nat->Value) (e s n:Nat->Nat) (l:Nat->List Value):Prop where
 box:∀ j,j<4->u.cell? ⟨R,j,none⟩=some (v j)∧u.frozen? ⟨R,j,none⟩=false
 z:R<u.heap.size
 own:∀ j,j<4->u.ownsRow (R+1) (e j) (s j) (v j) (n j) (l j)
 apart:∀ i j,i<4->j<4->i≠j -> ∀ b,(v i).ownBlock=some b->(v j).ownBlock≠some b
theorem NewSt.app {u u1 u2 u3:World} {R:Nat} {v:Nat->Value} {e s n:Nat->Nat} {l:Nat->List Value} (h:NewSt u R v e s n l) (h1:RowKit.Below u.heap.size u u1) {j:Nat} (hj:j<4) {v':Value} {n':Nat} {l':List Value}
 (hg:u1.grownBy u2 (v j).ownBlock) (hr:v'.ownBlock=(v j).ownBlock∨v'.ownBlock=some u1.heap.size) (ho:u2.ownsRow (R+1) (e j) (s j) v' n' l') (hu:u3=u2.setCell ⟨R,j,none⟩ v') :
 NewSt u3 R (upd v j v') e s (upd n j n') (upd l j l')∧RowKit.Below R u u3:=by
 have hlt:=fun i (hi:i<4) b (hb:(v i).ownBlock=some b)=>(h.own i hi).lt b hb
 have hz:=h.z
 have hz1:=h1.size
 have hz2:=hg.size
 have hR2:u2.heap[R]? = u.heap[R]?:=(hg.block R (by omega) (fun e'=>by have:=hlt j hj R e'.symm;omega)).trans (h1.block R hz)
 have hlow:∀ b,b<R->u2.heap[b]? = u.heap[b]?:=fun b hb=>(hg.block b (by omega) (fun e'=>by have:=hlt j hj b e'.symm;omega)).trans (h1.block b (by omega))
 have hset:∀ b,b≠R->u3.heap[b]? = u2.heap[b]?:=fun b hb=>by rw [hu];exact Below.heap_setCell _ _ _ _ hb
 have hs3:u3.heap.size=u2.heap.size:=by rw [hu];exact size_set _ _ _
 have hb2:∀ i,i<4->u2.cell? ⟨R,i,none⟩=some (v i)∧u2.frozen? ⟨R,i,none⟩=false:=fun i hi=>⟨(World.cell?_of_block hR2).trans (h.box i hi).1,(World.frozen?_of_block hR2).trans (h.box i hi).2⟩
 refine ⟨⟨fun i hi=>?_,by omega,fun i hi=>?_,fun a c ha hc hac b hb=>?_⟩,?_⟩
 · subst hu
   refine ⟨?_,by rw [World.frozen?_setCell];exact (hb2 i hi).2⟩
   unfold upd
   by_cases e':i=j
   · subst e';rw [if_pos rfl];exact World.cell?_setCell_same _ _ _ (hb2 i hi).1
   · rw [if_neg e',cell_set_off _ _ _ _ _ (Ne.symm e')];exact (hb2 i hi).1
 · unfold upd
   by_cases e':i=j
   · subst e'
     rw [if_pos rfl,if_pos rfl,if_pos rfl]
     exact owns_block ho fun g hg'=>hset g (by have:=ho.lt g hg';omega)
   · rw [if_neg e',if_neg e',if_neg e']
     refine owns_block (h.own i hi) fun g hg'=>?_
     have hgl:=hlt i hi g hg'
     rw [hset g (by omega),hg.block g (by omega) (fun e2=>h.apart i j hi hj e' g hg' e2.symm),h1.block g (by omega)]
 · unfold upd at hb ⊢
   by_cases ea:a=j
   · rw [if_pos ea] at hb
     by_cases ec:c=j
     · omega
     · rw [if_neg ec]
       rcases hr with hr | hr
       · rw [hr] at hb;exact h.apart j c hj hc (by omega) b hb
       · rw [hr] at hb
         intro hb3
         have:=hlt c hc b hb3
         injection hb with hb
         omega
   · rw [if_neg ea] at hb
     by_cases ec:c=j
     · rw [if_pos ec]
       rcases hr with hr | hr
       · rw [hr];exact h.apart a j ha hj ea b hb
       · rw [hr]
         intro hb3
         have:=hlt a ha b hb
         injection hb3 with hb3
         omega
     · rw [if_neg ec]
       exact h.apart a c ha hc hac b hb
 · rw [hu]
   exact ((h1.mono (by omega)).grown hg (by omega) (fun g hg'=>by have:=hlt j hj g hg';omega)).setCell (by exact Nat.le_refl _) _
theorem NewSt.mid {u u1 u2:World} {R:Nat} {v:Nat->Value} {e s n:Nat->Nat} {l:Nat->List Value} (h:NewSt u R v e s n l) (h1:RowKit.Below u.heap.size u u1) {j:Nat} (hj:j<4)
 (hg:u1.grownBy u2 (v j).ownBlock):(∀ i,i<4->u2.cell? ⟨R,i,none⟩=some (v i)∧u2.frozen? ⟨R,i,none⟩=false)∧R<u2.heap.size:=by
 have hlt:=fun i (hi:i<4) b (hb:(v i).ownBlock=some b)=>(h.own i hi).lt b hb
 have hz:=h.z
 have hz1:=h1.size
 have hz2:=hg.size
 have hR2:u2.heap[R]? = u.heap[R]?:=(hg.block R (by omega) (fun e'=>by have:=hlt j hj R e'.symm;omega)).trans (h1.block R hz)
 exact ⟨fun i hi=>⟨(World.cell?_of_block hR2).trans (h.box i hi).1,(World.frozen?_of_block hR2).trans (h.box i hi).2⟩,by omega⟩
theorem NewSt.congr {u:World} {R:Nat} {v v':Nat->Value} {e s n n':Nat->Nat} {l l':Nat->List Value} (h:NewSt u R v e s n l) (hv:∀ j,j<4->v j=v' j) (hn:∀ j,j<4->n j=n' j) (hl:∀ j,j<4->l j=l' j):NewSt u R v' e s n' l':=by
 refine ⟨fun j hj=>by rw [← hv j hj];exact h.box j hj,h.z,fun j hj=>by rw [← hv j hj,← hn j hj,← hl j hj];exact h.own j hj,fun i j hi hj hij b hb=>?_⟩
 rw [← hv j hj];rw [← hv i hi] at hb
 exact h.apart i j hi hj hij b hb
def newE:Nat->Nat:=fun j=>if j=0 then 4 else if j=1 then 4 else if j=2 then 42 else 126
def newS:Nat->Nat:=fun j=>if j=3 then 3 else 1
def boolsK (k:Nat):List Value:=(List.range (k * 1)).map fun j=>.bool (decide (j<4))
def zerosK (k:Nat):List Value:=(List.range (k * 1)).map fun _=>.int .u64 0
abbrev nilC:Nat->Value:=peerC (fun _=>none) (fun _=>.slice none 0 0)
def peersK (k:Nat):List Value:=(List.range (k * 3)).map nilC
def newL (k:Nat):Nat->List Value:=fun j=>if j=0 then boolsK k else if j=1 then boolsK k else if j=2 then zerosK k else peersK k
theorem boolsK_succ (k:Nat) (b:Bool) (hb:b=decide (k<4)):boolsK (k+1)=boolsK k ++ (List.range (1 * 1)).map fun _=>.bool b:=by
 unfold boolsK
 rw [Nat.mul_one,Nat.mul_one,List.range_succ,List.map_append,hb]
 rfl
theorem zerosK_succ (k:Nat):zerosK (k+1)=zerosK k ++ (List.range (1 * 1)).map fun _=>.int .u64 0:=by
 unfold zerosK
 rw [Nat.mul_one,Nat.mul_one,List.range_succ,List.map_append]
 rfl
theorem nilC_add (k j:Nat):nilC (k * 3+j)=nilC j:=by
 unfold nilC peerC
 simp only [idR,predR,show (k * 3+j) % 3=j % 3 by omega]
theorem peersK_succ (k:Nat):peersK (k+1)=peersK k ++ (List.range (1 * 3)).map nilC:=by
 unfold peersK
 rw [show (k+1) * 3=k * 3+3 by omega,List.range_add,List.map_append,List.map_map]
 congr 1
 exact List.map_congr_left fun j _=>nilC_add k j
theorem newSt_start {u:World} {R:Nat} (hb:∀ j,j<4->u.cell? ⟨R,j,none⟩=some (.slice none 0 0)∧u.frozen? ⟨R,j,none⟩=false) (hz:R<u.heap.size) :
 NewSt u R (fun _=>.slice none 0 0) newE newS (fun _=>0) (newL 0):=by
 refine ⟨hb,hz,fun j hj=>?_,fun i j _ _ _ b hb=>by simp [Value.ownBlock] at hb⟩
 have e:newL 0 j=[]:=by unfold newL boolsK zerosK peersK;split <;> (try split) <;> (try split) <;> rfl
 rw [e];exact World.ownsRow_nil _ _ _ _
structure NewRows (u:World) (R:Nat) (p:Where) (gI gP:Nat->Value):Prop where
 box:BoxOf u R p
 used:Row32 (fun b=>R<b) u 1 (fun j=>.bool (decide (j<4))) p.b1 p.o1 p.k1
 live:Row32 (fun b=>R<b) u 1 (fun j=>.bool (decide (j<4))) p.b2 p.o2 p.k2
 ids:Row32 (fun b=>R<b) u 1 gI p.b3 p.o3 p.k3
 peers:Row32 (fun b=>R<b) u 3 gP p.b4 p.o4 p.k4
 fresh:FreshRows (R+1) u p
theorem NewRows.later {u u':World} {R:Nat} {p:Where} {gI gP:Nat->Value} (h:NewRows u R p gI gP) (hb:RowKit.Below u.heap.size u u'):NewRows u' R p gI gP :=
 ⟨h.box.later hb,h.used.imp (fun h=>h) hb.size (hb.block _ h.used.z),h.live.imp (fun h=>h) hb.size (hb.block _ h.live.z),h.ids.imp (fun h=>h) hb.size (hb.block _ h.ids.z),h.peers.imp (fun h=>h) hb.size (hb.block _ h.peers.z),
  h.fresh.same (hb.block _ h.used.z) (hb.block _ h.live.z) (hb.block _ h.ids.z) (hb.block _ h.peers.z)⟩
theorem NewRows.setId {u u':World} {R:Nat} {p:Where} {gI gP:Nat->Value} (h:NewRows u R p gI gP) {k:Nat} (hk:k<32) (x:Value) (hu:u'=u.setCell ⟨p.b3,p.o3+k,none⟩ x):NewRows u' R p (fun i=>if i=k then x else gI i) gP:=by
 subst hu
 have:=h.ids.q
 exact ⟨h.box.other (by show R≠p.b3;omega) _,h.used.other _ _ h.fresh.n13.symm _,h.live.other _ _ h.fresh.n23.symm _,h.ids.set (by omega) _,h.peers.other _ _ h.fresh.n34 _,h.fresh.set _ _⟩
theorem NewRows.setPeer {u u':World} {R:Nat} {p:Where} {gI gP:Nat->Value} (h:NewRows u R p gI gP) {k:Nat} (hk:k<32) (x0 x1 x2:Value)
 (hu:u'=((u.setCell ⟨p.b4,p.o4+k * 3,none⟩ x0).setCell ⟨p.b4,p.o4+k * 3+1,none⟩ x1).setCell ⟨p.b4,p.o4+k * 3+2,none⟩ x2) :
 NewRows u' R p gI (fun i=>if i=k * 3+2 then x2 else if i=k * 3+1 then x1 else if i=k * 3 then x0 else gP i):=by
 subst hu
 have:=h.peers.q
 refine ⟨((h.box.other (by show R≠p.b4;omega) _).other (by show R≠p.b4;omega) _).other (by show R≠p.b4;omega) _,((h.used.other _ _ h.fresh.n14.symm _).other _ _ h.fresh.n14.symm _).other _ _ h.fresh.n14.symm _,
  ((h.live.other _ _ h.fresh.n24.symm _).other _ _ h.fresh.n24.symm _).other _ _ h.fresh.n24.symm _,((h.ids.other _ _ h.fresh.n34.symm _).other _ _ h.fresh.n34.symm _).other _ _ h.fresh.n34.symm _,?_,((h.fresh.set _ _).set _ _).set _ _⟩
 rw [Nat.add_assoc,Nat.add_assoc]
 exact ((h.peers.set (by omega) _).set (by omega) _).set (by omega) _
theorem NewRows.congr {u:World} {R:Nat} {p:Where} {gI gP gI' gP':Nat->Value} (h:NewRows u R p gI gP) (h1:∀ j,j<32->gI j=gI' j) (h2:∀ j,j<32 * 3->gP j=gP' j):NewRows u R p gI' gP' :=
 ⟨h.box,h.used,h.live,h.ids.congr fun j hj=>h1 j (by omega),h.peers.congr h2,h.fresh⟩
def idsK (ids:List Int) (k:Nat):Nat->Value:=fun j=>if j<k then .int .u64 (nth ids j) else .int .u64 0
theorem idsK_succ (ids:List Int) (k j:Nat):(if j=k then Value.int .u64 (nth ids k) else idsK ids k j)=idsK ids (k+1) j:=by
 unfold idsK
 by_cases e:j=k
 · rw [if_pos e,if_pos (by omega),e]
 · rw [if_neg e]
   by_cases h:j<k
   · rw [if_pos h,if_pos (by omega)]
   · rw [if_neg h,if_neg (by omega)]
def sucT (ids s:List Int) (t:Int) (j:Nat):List Int:=(List.range j).map fun q:Nat=>atI ids s (t+(q:Int)+1)
theorem sucT_succ (ids s:List Int) (t:Int) (j:Nat):sucT ids s t (j+1)=sucT ids s t j ++ [atI ids s (t+(j:Int)+1)]:=by
 unfold sucT;rw [List.range_succ,List.map_append];rfl
theorem sucT_len (ids s:List Int) (t:Int) (j:Nat):(sucT ids s t j).length=j:=by simp [sucT]
theorem sucT_three (ids s:List Int) (t:Int):sucT ids s t 3=[atI ids s (t+1),atI ids s (t+2),atI ids s (t+3)]:=by
 simp [sucT,List.range_succ,Int.add_assoc]
theorem partF_zero (ids s:List Int) (j:Nat):partF ids s 0 (j:Int)=none:=by unfold partF;rw [if_neg (by omega)]
theorem partF_same (ids s:List Int) {k j:Nat} (h:j≠k):partF ids s (k+1) (j:Int)=partF ids s k (j:Int):=by
 unfold partF
 by_cases h1:j<k
 · rw [if_pos (by omega),if_pos (by omega)]
 · rw [if_neg (by omega),if_neg (by omega)]
theorem partF_at (ids s:List Int) (k:Nat):partF ids s (k+1) (k:Int)=newF ids s 4 (k:Int):=by unfold partF;rw [if_pos (by omega)]
theorem peerC_step {f f':RS} {V V':Nat->Value} {k:Nat} {M:Mem} {sv:Value} (h1:f' (k:Int)=some M) (h2:∀ j:Nat,j≠k->f' (j:Int)=f (j:Int)) (hV:V'=fun i=>if i=k then sv else V i) (i:Nat) :
 (if i=k * 3+2 then sv else if i=k * 3+1 then Value.int .i64 M.pred else if i=k * 3 then Value.int .u64 M.id else peerC f V i)=peerC f' V' i:=by
 subst hV
 by_cases e2:i=k * 3+2
 · subst e2
   rw [if_pos rfl,peerC2,if_pos rfl]
 · rw [if_neg e2]
   by_cases e1:i=k * 3+1
   · subst e1
     rw [if_pos rfl,peerC1]
     unfold predR;rw [h1]
   · rw [if_neg e1]
     by_cases e0:i=k * 3
     · subst e0
       rw [if_pos rfl,peerC0]
       unfold idR;rw [h1]
     · rw [if_neg e0]
       have hd:i / 3≠k:=by omega
       unfold peerC idR predR
       rw [h2 _ hd]
       simp only [if_neg hd]
theorem newRows_of {u:World} {R:Nat} {v:Nat->Value} (h:NewSt u R v newE newS (fun _=>32) (newL 32)):∃ p:Where,NewRows u R p (fun _=>.int .u64 0) nilC:=by
 obtain ⟨b1,k1,e1,o1,m1,r1,f1⟩:=row_of_owns (s:=1) (g:=fun j=>.bool (decide (j<4))) (by decide) rfl (show u.ownsRow (R+1) 4 1 (v 0) 32 (boolsK 32) from h.own 0 (by decide))
 obtain ⟨b2,k2,e2,o2,m2,r2,f2⟩:=row_of_owns (s:=1) (g:=fun j=>.bool (decide (j<4))) (by decide) rfl (show u.ownsRow (R+1) 4 1 (v 1) 32 (boolsK 32) from h.own 1 (by decide))
 obtain ⟨b3,k3,e3,o3,m3,r3,f3⟩:=row_of_owns (s:=1) (g:=fun j=>.int .u64 0) (by decide) rfl (show u.ownsRow (R+1) 42 1 (v 2) 32 (zerosK 32) from h.own 2 (by decide))
 obtain ⟨b4,k4,e4,o4,m4,r4,f4⟩:=row_of_owns (s:=3) (g:=nilC) (by decide) rfl (show u.ownsRow (R+1) 126 3 (v 3) 32 (peersK 32) from h.own 3 (by decide))
 have ap:=fun i j hi hj hij b hb=>h.apart i j hi hj hij b hb
 have n12:b1≠b2:=fun e=>ap 0 1 (by decide) (by decide) (by decide) b1 o1 (by rw [o2,e])
 have n13:b1≠b3:=fun e=>ap 0 2 (by decide) (by decide) (by decide) b1 o1 (by rw [o3,e])
 have n14:b1≠b4:=fun e=>ap 0 3 (by decide) (by decide) (by decide) b1 o1 (by rw [o4,e])
 have n23:b2≠b3:=fun e=>ap 1 2 (by decide) (by decide) (by decide) b2 o2 (by rw [o3,e])
 have n24:b2≠b4:=fun e=>ap 1 3 (by decide) (by decide) (by decide) b2 o2 (by rw [o4,e])
 have n34:b3≠b4:=fun e=>ap 2 3 (by decide) (by decide) (by decide) b3 o3 (by rw [o4,e])
 have q:=fun j hj=>h.box j hj
 have q0:=q 0 (by decide)
 have q1:=q 1 (by decide)
 have q2:=q 2 (by decide)
 have q3:=q 3 (by decide)
 rw [e1] at q0;rw [e2] at q1;rw [e3] at q2;rw [e4] at q3
 exact ⟨⟨b1,0,k1,b2,0,k2,b3,0,k3,b4,0,k4⟩,⟨q0.1,q1.1,q2.1,q3.1,q0.2,q1.2,q2.2,q3.2,h.z⟩,r1.imp (fun h=>h) (Nat.le_refl _) rfl,r2.imp (fun h=>h) (Nat.le_refl _) rfl,r3.imp (fun h=>h) (Nat.le_refl _) rfl,r4.imp (fun h=>h) (Nat.le_refl _) rfl,
  ⟨m1,m2,m3,m4,n12,n13,n14,n23,n24,n34,f1,f2,f3,f4⟩⟩
def newC (ids:List Int):Int:=if ids.length=4 then (if (setI ids).length=4 then 0 else 8) else 1
set_option maxRecDepth 100000 in
set_option maxHeartbeats 4000000 in
theorem rnew_no (w:World) (v:Value) (ids:List Int) (hi:SlAt 0 (fun i=>.int .u64 (nth ids i)) ids.length w v) (hl:ids.length<=1000) (hn:newC ids≠0) :
 Calls Tryz.prog 39 #[v] w fun e w'=>e = .returned (.tuple #[.agg #[.slice none 0 0,.slice none 0 0,.slice none 0 0,.slice none 0 0],.int .i64 (newC ids)])∧RowKit.Below w.heap.size w w':=by
 obtain ⟨a,c,rfl,hc,hm⟩:=hi.slice
 unfold newC at hn ⊢
 by_cases h4:ids.length=4
 · by_cases hs:(setI ids).length=4
   · simp [h4,hs] at hn
   · rw [if_pos h4,if_neg hs]
     have CS:=Lib.hid fun (wr:World) (hb:RowKit.Below w.heap.size w wr)=>rsort_any wr _ ids (hi.below hb) hl
     have hsb:(((setI ids).length:Int) != 4)=true:=by rw [bne_iff_ne];omega
     rw [h4] at CS ⊢
     clear hi hn
     go_enter Tryz.func39,Tryz.ntmps39
     go_wp2_with fail
     refine (CS.out _ (by (repeat (first | exact Below.refl _ _ | (with_reducible assumption) | (with_reducible refine bel_later ?_ _) | (with_reducible refine bel_alloc ?_ _) | (with_reducible refine bel_drew ?_) | (with_reducible refine bel_drewN ?_ _) | (with_reducible refine bel_set ?_ (by first | (simp;done) | (simp;omega) | (dsimp only;omega)) _))))).mono ?_
     rintro e w1 ⟨v1,rfl,hs1,hb1⟩
     obtain ⟨a1,c1,rfl,_⟩:=hs1.slice
     have r0:w1.cell? ⟨w.heap.size,0,none⟩=some (.slice none 0 0):=by rw [hb1.cell (by simp)];simp [go_sem]
     have r1:w1.cell? ⟨w.heap.size,1,none⟩=some (.slice none 0 0):=by rw [hb1.cell (by simp)];simp [go_sem]
     have r2:w1.cell? ⟨w.heap.size,2,none⟩=some (.slice none 0 0):=by rw [hb1.cell (by simp)];simp [go_sem]
     have r3:w1.cell? ⟨w.heap.size,3,none⟩=some (.slice none 0 0):=by rw [hb1.cell (by simp)];simp [go_sem]
     have rf0:∀ o,w1.frozen? ⟨w.heap.size,o,none⟩=false:=fun o=>by rw [hb1.frozen (by simp)];simp [go_sem]
     have zr:w.heap.size<w1.heap.size:=by have:=hb1.size;simp at this;omega
     have hB:RowKit.Below w.heap.size w w1:=bel_below (bel_alloc (RowKit.Below.refl _ _) _) hb1
     go_wp2_with fail
     refine bodyPost_ret (v:=.tuple #[.agg #[.slice none 0 0,.slice none 0 0,.slice none 0 0,.slice none 0 0],.int .i64 8]) ?_ rfl ⟨rfl,by (repeat (first | exact Below.refl _ _ | (with_reducible assumption) | (with_reducible refine bel_later ?_ _) | (with_reducible refine bel_alloc ?_ _) | (with_reducible refine bel_drew ?_) | (with_reducible refine bel_drewN ?_ _) | (with_reducible refine bel_set ?_ (by first | (simp;done) | (simp;omega) | (dsimp only;omega)) _)))⟩
     simp [results,Tryz.results39,go_sem,r0,r1,r2,r3]
 · rw [if_neg h4]
   have h4b:((ids.length:Int) != 4)=true:=by rw [bne_iff_ne];omega
   clear hi hn
   go_enter Tryz.func39,Tryz.ntmps39
   go_wp2_with fail
   refine bodyPost_ret (v:=.tuple #[.agg #[.slice none 0 0,.slice none 0 0,.slice none 0 0,.slice none 0 0],.int .i64 1]) ?_ rfl ⟨rfl,by (repeat (first | exact Below.refl _ _ | (with_reducible assumption) | (with_reducible refine bel_later ?_ _) | (with_reducible refine bel_alloc ?_ _) | (with_reducible refine bel_drew ?_) | (with_reducible refine bel_drewN ?_ _) | (with_reducible refine bel_set ?_ (by first | (simp;done) | (simp;omega) | (dsimp only;omega)) _)))⟩
   simp [results,Tryz.results39,go_sem]
theorem lt4 {j:Nat} (h:j<4):j=0∨j=1∨j=2∨j=3:=by omega
set_option maxRecDepth 100000 in
set_option maxHeartbeats 8000000 in
theorem rnew_yes (w:World) (v:Value) (ids:List Int) (hi:SlAt 0 (fun i=>.int .u64 (nth ids i)) ids.length w v) (h4:ids.length=4) (hs4:(setI ids).length=4) (F:Four ids (setI ids)) :
 Calls Tryz.prog 39 #[v] w fun e w'=>∃ x,e = .returned (.tuple #[x,.int .i64 0])∧RefNew (fun _=>False) w (newF ids (setI ids) 4) x w':=by
 obtain ⟨i1,hi1,hzi1,hsi1,hbi1⟩:∃ i0,Tryz.prog.info? 4=some i0∧i0.zero=some (Value.bool false)∧i0.size=1∧i0.bytes=1:=⟨boolI,boolI_at,by kernel_rfl,by kernel_rfl,by kernel_rfl⟩
 obtain ⟨i3,hi3,hzi3,hsi3,hbi3⟩:∃ i0,Tryz.prog.info? 42=some i0∧i0.zero=some (Value.int .u64 0)∧i0.size=1∧i0.bytes=8:=⟨u64I,u64I_at,by kernel_rfl,by kernel_rfl,by kernel_rfl⟩
 obtain ⟨i4,hi4,hzi4,hsi4,hbi4⟩:∃ i0,Tryz.prog.info? 126=some i0∧i0.zero=some (.agg #[.int .u64 0,.int .i64 0,.slice none 0 0])∧i0.size=3∧i0.bytes=40:=⟨rpeerI,rpeerI_at,by kernel_rfl,by kernel_rfl,by kernel_rfl⟩
 obtain ⟨i5,hi5,hzi5,hsi5,hbi5⟩:∃ i0,Tryz.prog.info? 3=some i0∧i0.zero=some (Value.int .i64 0)∧i0.size=1∧i0.bytes=8:=⟨intRI,intRI_at,by kernel_rfl,by kernel_rfl,by kernel_rfl⟩
 obtain ⟨a,c,rfl,hc,hm⟩:=hi.slice
 have CS:=Lib.hid fun (wr:World) (hb:RowKit.Below w.heap.size w wr)=>rsort_any wr _ ids (hi.below hb) (by omega)
 have CB:=Lib.hid fun (wr:World) (hb:RowKit.Below w.heap.size w wr) (x:Int) (px:isPlace x)=>rbehind_any wr _ ids (hi.below hb) h4 F.place x px
 obtain ⟨s,hs⟩:∃ s,s=setI ids:=⟨_,rfl⟩
 rw [← hs] at F CS hs4 ⊢
 have hNm:newF ids s 4=partF ids s 4:=(partF_all ids s F).symm
 rw [hNm]
 clear hs hNm
 have HI:=Lib.hid hi
 have HF:=Lib.hid F
 have H4:=Lib.hid h4
 rw [h4] at CS CB ⊢
 rw [hs4] at CS
 clear hi F hs4 h4
 go_enter Tryz.func39,Tryz.ntmps39
 go_wp2_with fail
 refine (CS.out _ (by (repeat (first | exact Below.refl _ _ | (with_reducible assumption) | (with_reducible refine bel_later ?_ _) | (with_reducible refine bel_alloc ?_ _) | (with_reducible refine bel_drew ?_) | (with_reducible refine bel_drewN ?_ _) | (with_reducible refine bel_set ?_ (by first | (simp;done) | (simp;omega) | (dsimp only;omega)) _))))).mono ?_
 rintro e w1 ⟨v1,rfl,hs1,hb1⟩
 obtain ⟨a1,c1,rfl,_⟩:=hs1.slice
 have B1:RowKit.Below w.heap.size w w1:=bel_below (bel_alloc (RowKit.Below.refl _ _) _) hb1
 have RN1:BoxNil w1 w.heap.size:=by
  refine ⟨?_,?_,?_,?_,?_,?_,?_,?_,by have:=hb1.size;simp at this;omega⟩
  · rw [hb1.cell (by simp)];simp [go_sem]
  · rw [hb1.cell (by simp)];simp [go_sem]
  · rw [hb1.cell (by simp)];simp [go_sem]
  · rw [hb1.cell (by simp)];simp [go_sem]
  · rw [hb1.frozen (by simp)];simp [go_sem]
  · rw [hb1.frozen (by simp)];simp [go_sem]
  · rw [hb1.frozen (by simp)];simp [go_sem]
  · rw [hb1.frozen (by simp)];simp [go_sem]
 clear hs1 hb1
 go_wp2_with fail
 obtain ⟨w3,hw3⟩:∃ z,z=w1.alloc (.cells #[.slice none 0 0,.slice none 0 0,.slice none 0 0,.slice none 0 0] 32):=⟨_,rfl⟩
 obtain ⟨R,hR⟩:∃ R,R=w1.heap.size:=⟨_,rfl⟩
 have B3:Hid (RowKit.Below w.heap.size w w3):=by rw [hw3];exact bel_alloc B1 _
 have RN3:Hid (BoxNil w3 w.heap.size):=by rw [hw3];exact RN1.later (bel_alloc (RowKit.Below.refl _ _) _)
 have S3:Hid (NewSt w3 R (fun _=>.slice none 0 0) newE newS (fun _=>0) (newL 0)):=by
  refine newSt_start (fun j hj=>?_) (by rw [hw3,hR];simp)
  rw [hw3,hR]
  rcases lt4 hj with rfl | rfl | rfl | rfl <;> exact ⟨by simp [go_sem],by simp [go_sem]⟩
 have hwR:w.heap.size<R:=by rw [hR];exact RN1.z
 rw [← hw3,← hR]
 clear hw3 hR RN1 B1 CS
 go_loopw [5] (fun i wr=>∃ (k:Nat) (v:Nat->Value),k<=32∧i = .int .i64 k∧Hid (NewSt wr R v newE newS (fun _=>k) (newL k))∧Hid (RowKit.Below R w3 wr)) (fun i _=>32 - (intOf i).toNat)
 case atStart=>exact ⟨0,_,by omega,rfl,S3.out,RowKit.Below.refl _ _⟩
 case round =>
  obtain ⟨k,v,hk,rfl,hS,hK⟩:=hrel
  by_cases hlt:k<32
  · obtain ⟨bk,hbk⟩:∃ bk:Bool,decide ((k:Int)<4)=bk:=⟨_,rfl⟩
    have hbk2:Hid (bk=decide (k<4)):=show bk=decide (k<4) by rw [← hbk];exact decide_eq_decide.2 (by omega)
    have hkI:((k:Nat):Int)<32:=by omega
    have O:=Lib.hid (show World.ownsRow wr (R+1) 4 1 _ k (boolsK k) from (hS).out.own 0 (by decide))
    have cc:=((hS).out.box 0 (by decide)).1
    have cf:=((hS).out.box 0 (by decide)).2
    have zR:=(hS).out.z
    obtain ⟨N,hN⟩:∃ N,N=(List.range (1 * 1)).map (fun _:Nat=>Value.bool bk):=⟨_,rfl⟩
    have HN:=Lib.hid hN
    clear hN
    go_wp2_with (at_builtin;go_loud (refine wpList_app_wide rfl _ _ 26 rfl (R+1) 4 (i1) (.bool false) 1 1 Tryz.underlying26 hi1 hzi1 hsi1 hbi1 rfl (by decide) _ k _ rfl (O.out.alloc _) _ 0 1 1 (fun _:Nat=>Value.bool bk) rfl (by decide) ?c2x0 (fun _ _=>rfl) ?c4x0 ?c5x0 ?c3x0 N HN.out ?_))
    try (case c2x0=>intro q hq;(obtain rfl:q=0:=by omega);simp [go_sem])
    try (case c4x0=>first | omega | (simp only [maxLen];omega))
    try (case c5x0=>omega)
    try (case c3x0=>first | omega | (simp;omega))
    intro v' w2 ho hg hr
    obtain ⟨g0,q0,rfl⟩:=owns_shape ho (by omega)
    have M:=(hS).out.mid (bel_alloc (RowKit.Below.refl _ _) _) (j:=0) (by decide) hg
    have mc:=(M.1 0 (by decide)).1
    have mf:=(M.1 0 (by decide)).2
    have mz:=M.2
    clear M
    go_upto_region 10 with (fail)
    obtain ⟨u1,hu⟩:∃ z,z=w2.setCell ⟨R,0,none⟩ (.slice (some ⟨g0,0,none⟩) (k+1) q0):=⟨_,rfl⟩
    have A:=(hS).out.app (bel_alloc (RowKit.Below.refl _ _) _) (j:=0) (by decide) hg (by simpa using hr) (l':=(boolsK k ++ (List.range (1 * 1)).map (fun _:Nat=>Value.bool bk))) (by rw [HN.out] at ho;exact ho) hu
    have S1:=Lib.hid A.1
    have K1:Hid (RowKit.Below R w3 u1):=(hK).out.trans A.2
    rw [← hu]
    clear A hu ho hg hr O HN cc cf zR mc mf mz hS
    have O:=Lib.hid (show World.ownsRow u1 (R+1) 4 1 _ k (boolsK k) from (S1).out.own 1 (by decide))
    have cc:=((S1).out.box 1 (by decide)).1
    have cf:=((S1).out.box 1 (by decide)).2
    have zR:=(S1).out.z
    obtain ⟨N,hN⟩:∃ N,N=(List.range (1 * 1)).map (fun _:Nat=>Value.bool bk):=⟨_,rfl⟩
    have HN:=Lib.hid hN
    clear hN
    go_wp2_with (at_builtin;go_loud (refine wpList_app_wide rfl _ _ 26 rfl (R+1) 4 (i1) (.bool false) 1 1 Tryz.underlying26 hi1 hzi1 hsi1 hbi1 rfl (by decide) _ k _ rfl (O.out.alloc _) _ 0 1 1 (fun _:Nat=>Value.bool bk) rfl (by decide) ?c2x1 (fun _ _=>rfl) ?c4x1 ?c5x1 ?c3x1 N HN.out ?_))
    try (case c2x1=>intro q hq;(obtain rfl:q=0:=by omega);simp [go_sem])
    try (case c4x1=>first | omega | (simp only [maxLen];omega))
    try (case c5x1=>omega)
    try (case c3x1=>first | omega | (simp;omega))
    intro v' w2 ho hg hr
    obtain ⟨g0,q0,rfl⟩:=owns_shape ho (by omega)
    have M:=(S1).out.mid (bel_alloc (RowKit.Below.refl _ _) _) (j:=1) (by decide) hg
    have mc:=(M.1 1 (by decide)).1
    have mf:=(M.1 1 (by decide)).2
    have mz:=M.2
    clear M
    go_upto_region 11 with (fail)
    obtain ⟨u2,hu⟩:∃ z,z=w2.setCell ⟨R,1,none⟩ (.slice (some ⟨g0,0,none⟩) (k+1) q0):=⟨_,rfl⟩
    have A:=(S1).out.app (bel_alloc (RowKit.Below.refl _ _) _) (j:=1) (by decide) hg (by simpa using hr) (l':=(boolsK k ++ (List.range (1 * 1)).map (fun _:Nat=>Value.bool bk))) (by rw [HN.out] at ho;exact ho) hu
    have S2:=Lib.hid A.1
    have K2:Hid (RowKit.Below R w3 u2):=(K1).out.trans A.2
    rw [← hu]
    clear A hu ho hg hr O HN cc cf zR mc mf mz S1
    have O:=Lib.hid (show World.ownsRow u2 (R+1) 42 1 _ k (zerosK k) from (S2).out.own 2 (by decide))
    have cc:=((S2).out.box 2 (by decide)).1
    have cf:=((S2).out.box 2 (by decide)).2
    have zR:=(S2).out.z
    obtain ⟨N,hN⟩:∃ N,N=(List.range (1 * 1)).map (fun _:Nat=>Value.int .u64 0):=⟨_,rfl⟩
    have HN:=Lib.hid hN
    clear hN
    go_wp2_with (at_builtin;go_loud (refine wpList_app_wide rfl _ _ 27 rfl (R+1) 42 (i3) (.int .u64 0) 1 8 Tryz.underlying27 hi3 hzi3 hsi3 hbi3 rfl (by decide) _ k _ rfl (O.out.alloc _) _ 0 1 1 (fun _:Nat=>Value.int .u64 0) rfl (by decide) ?c2x2 (fun _ _=>rfl) ?c4x2 ?c5x2 ?c3x2 N HN.out ?_))
    try (case c2x2=>intro q hq;(obtain rfl:q=0:=by omega);simp [go_sem])
    try (case c4x2=>first | omega | (simp only [maxLen];omega))
    try (case c5x2=>omega)
    try (case c3x2=>first | omega | (simp;omega))
    intro v' w2 ho hg hr
    obtain ⟨g0,q0,rfl⟩:=owns_shape ho (by omega)
    have M:=(S2).out.mid (bel_alloc (RowKit.Below.refl _ _) _) (j:=2) (by decide) hg
    have mc:=(M.1 2 (by decide)).1
    have mf:=(M.1 2 (by decide)).2
    have mz:=M.2
    clear M
    go_upto_region 12 with (fail)
    obtain ⟨u4,hu⟩:∃ z,z=w2.setCell ⟨R,2,none⟩ (.slice (some ⟨g0,0,none⟩) (k+1) q0):=⟨_,rfl⟩
    have A:=(S2).out.app (bel_alloc (RowKit.Below.refl _ _) _) (j:=2) (by decide) hg (by simpa using hr) (l':=(zerosK k ++ (List.range (1 * 1)).map (fun _:Nat=>Value.int .u64 0))) (by rw [HN.out] at ho;exact ho) hu
    have S4:=Lib.hid A.1
    have K4:Hid (RowKit.Below R w3 u4):=(K2).out.trans A.2
    rw [← hu]
    clear A hu ho hg hr O HN cc cf zR mc mf mz S2
    have O:=Lib.hid (show World.ownsRow u4 (R+1) 126 3 _ k (peersK k) from (S4).out.own 3 (by decide))
    have cc:=((S4).out.box 3 (by decide)).1
    have cf:=((S4).out.box 3 (by decide)).2
    have zR:=(S4).out.z
    obtain ⟨N,hN⟩:∃ N,N=(List.range (1 * 3)).map nilC:=⟨_,rfl⟩
    have HN:=Lib.hid hN
    clear hN
    go_wp2_with (at_builtin;go_loud (refine wpList_app_wide rfl _ _ 30 rfl (R+1) 126 (i4) (.agg #[.int .u64 0,.int .i64 0,.slice none 0 0]) 3 40 Tryz.underlying30 hi4 hzi4 hsi4 hbi4 rfl (by decide) _ k _ rfl (O.out.alloc _) _ 0 1 1 nilC rfl (by decide) ?c2x3 (fun q hq=>peerC_one (fun _ _=>rfl) q (by omega)) ?c4x3 ?c5x3 ?c3x3 N HN.out ?_))
    try (case c2x3=>intro q hq;(rcases (show q=0∨q=1∨q=2 by omega) with rfl | rfl | rfl <;> simp [go_sem,nilC,peerC,idR,predR]))
    try (case c4x3=>first | omega | (simp only [maxLen];omega))
    try (case c5x3=>omega)
    try (case c3x3=>first | omega | (simp;omega))
    intro v' w2 ho hg hr
    obtain ⟨g0,q0,rfl⟩:=owns_shape ho (by omega)
    have M:=(S4).out.mid (bel_alloc (RowKit.Below.refl _ _) _) (j:=3) (by decide) hg
    have mc:=(M.1 3 (by decide)).1
    have mf:=(M.1 3 (by decide)).2
    have mz:=M.2
    clear M
    go_upto_region 8 with (fail)
    obtain ⟨u5,hu⟩:∃ z,z=w2.setCell ⟨R,3,none⟩ (.slice (some ⟨g0,0,none⟩) (k+1) q0):=⟨_,rfl⟩
    have A:=(S4).out.app (bel_alloc (RowKit.Below.refl _ _) _) (j:=3) (by decide) hg (by simpa using hr) (l':=(peersK k ++ (List.range (1 * 3)).map nilC)) (by rw [HN.out] at ho;exact ho) hu
    have S5:=Lib.hid A.1
    have K5:Hid (RowKit.Below R w3 u5):=(K4).out.trans A.2
    rw [← hu]
    clear A hu ho hg hr O HN cc cf zR mc mf mz S4
    have SF:Hid (NewSt u5 R _ newE newS (fun _=>k+1) (newL (k+1))):=S5.out.congr (fun _ _=>rfl) (fun j hj=>by rcases lt4 hj with rfl | rfl | rfl | rfl <;> rfl) (fun j hj=>by
     rcases lt4 hj with rfl | rfl | rfl | rfl
     · exact (boolsK_succ k bk hbk2.out).symm
     · exact (boolsK_succ k bk hbk2.out).symm
     · exact (zerosK_succ k).symm
     · exact (peersK_succ k).symm)
    clear S5
    go_wp2_with fail
    go_roundw
    case rel=>go_light;exact ⟨k+1,_,by omega,by go_num,SF.out,K5.out⟩
    case measure=>go_light;simp [intOf];omega
  · have hk32:k=32:=by omega
    have hnI:¬ ((k:Nat):Int)<32:=by omega
    rw [hk32] at hS
    obtain ⟨p,hp⟩:=newRows_of hS.out
    have HP:=Lib.hid hp
    clear hp hlt hS hk32
    have hA:Hid (SlAt 0 (fun i=>.int .u64 (nth ids i)) 4 w (.slice a 4 c)):=by have:=HI.out;rw [H4.out] at this;exact this
    have hpl:Hid (∀ j,j<4->isPlace (nth ids j)):=fun j hj=>HF.out.place _ (nth_mem.2 ⟨j,by rw [H4.out];exact hj,rfl⟩)
    clear HI
    obtain ⟨w5,hw5⟩:∃ z,z=wr:=⟨_,rfl⟩
    rw [← hw5] at HP hK ⊢
    clear hw5 hk
    have K5:=hK
    clear hK
    go_wp2_with fail
    clear hnI
    go_loopw [6,7,59] (fun _ _ i wr=>∃ k:Nat,k<=4∧i = .int .i64 k∧Hid (NewRows wr R p (idsK ids k) nilC)∧Hid (RowKit.Below R w3 wr)) (fun _ _ i _=>4 - (intOf i).toNat)
    case atStart=>exact ⟨0,by omega,rfl,HP.out.congr (fun j _=>by unfold idsK;rw [if_neg (by omega)]) (fun _ _=>rfl),K5.out⟩
    case round =>
     obtain ⟨k,hk,rfl,hP,hK⟩:=hrel
     by_cases hlt:k<4
     · obtain ⟨bb,off,rfl,_,hb,hck⟩:=hA.out.at k hlt wr (B3.out.trans (hK.out.mono (by omega)))
       have c2:=hP.out.box.c2
       have zR:=hP.out.box.z
       have ci:=hP.out.ids.cell k (by omega)
       have fi:=hP.out.fresh.f3 (p.o3+k)
       have zi:=hP.out.ids.z
       have hkI:((k:Nat):Int)<32:=by omega
       have hqi:=hP.out.ids.q
       go_wp2_with fail
       go_roundw
       case rel =>
        go_light
        exact ⟨k+1,by omega,by go_num,(hP.out.setId (by omega) _ rfl).congr (fun j _=>idsK_succ ids k j) (fun _ _=>rfl),hK.out.setCell (by show R<=p.b3;omega) _⟩
       case measure=>go_light;simp [intOf];omega
     · have hk4:k=4:=by omega
       have hnI:¬ ((k:Nat):Int)<4:=by omega
       rw [hk4] at hP
       obtain ⟨w6,hw6⟩:∃ z,z=wr:=⟨_,rfl⟩
       rw [← hw6] at hP hK ⊢
       clear hw6 hlt hk HP K5 hk4
       have P6:=hP
       have K6:=hK
       clear hP hK
       go_wp2_with fail
       clear hnI
       go_loopw [8,9,10,11,12,13,73] (fun _ _ _ _ _ _ i wr=>∃ (k:Nat) (V:Nat->Value),k<=4∧i = .int .i64 k∧Hid (NewRows wr R p (idsK ids 4) (peerC (partF ids s k) V))∧Hid (∀ j:Nat,j<32->SlIn (fun b=>R<b∧b≠p.b4) (succR (partF ids s k) j) wr (V j))∧Hid (RowKit.Below R w3 wr)) (fun _ _ _ _ _ _ i _=>4 - (intOf i).toNat)
       case atStart =>
        refine ⟨0,fun _=>.slice none 0 0,by omega,rfl,P6.out.congr (fun _ _=>rfl) (fun j _=>?_),fun j hj=>?_,K6.out⟩
        · unfold nilC peerC idR predR
          rw [partF_zero]
        · unfold succR
          rw [partF_zero]
          exact ⟨none,0,rfl,Nat.le_refl _,Nat.zero_le _,fun _=>rfl,Or.inl rfl⟩
       case round =>
        obtain ⟨k,V,hk,rfl,hP,hLs,hK⟩:=hrel
        by_cases hlt:k<4
        · have hkI4:((k:Nat):Int)<4:=by omega
          obtain ⟨t,ht1,ht2,ht3⟩:=HF.out.mem_of hlt
          have hBW:RowKit.Below w.heap.size w wr:=B3.out.trans (hK.out.mono (by omega))
          obtain ⟨bb,off,rfl,_,hb,hck⟩:=hA.out.at k hlt wr hBW
          have HT1:=Lib.hid ht1
          have HT2:=Lib.hid ht2
          have HT3:=Lib.hid ht3
          have BW:=Lib.hid hBW
          clear ht1 ht2 ht3 hBW
          go_wp2_with fail
          obtain ⟨w7,hw7⟩:∃ z,z=wr:=⟨_,rfl⟩
          rw [← hw7] at hP hLs hK BW ⊢
          clear hw7 hb hck
          obtain ⟨T,hT⟩:∃ T,T=w7.heap.size:=⟨_,rfl⟩
          obtain ⟨w8,hw8⟩:∃ z,z=w7.alloc (.cells #[.int .u64 (nth ids k),.int .i64 (-1),.slice none 0 0] 126):=⟨_,rfl⟩
          have B8:Hid (RowKit.Below T w7 w8):=by rw [hw8,hT];exact bel_alloc (RowKit.Below.refl _ _) _
          have T8:Hid (w8.cell? ⟨T,0,none⟩=some (.int .u64 (nth ids k))∧w8.cell? ⟨T,1,none⟩=some (.int .i64 (-1))∧w8.cell? ⟨T,2,none⟩=some (.slice none 0 0)∧(∀ o,w8.frozen? ⟨T,o,none⟩=false)∧T<w8.heap.size):=by
           show _∧_
           rw [hw8,hT]
           exact ⟨by simp [go_sem],by simp [go_sem],by simp [go_sem],fun o=>by simp [go_sem],by simp⟩
          have hRT:R<T:=by rw [hT];exact hP.out.box.z
          have hst:nth ids k=nth s ((t+((0:Nat):Int)+4) % 4).toNat:=by rw [HT2.out];simp
          rw [← hw8,← hT]
          have HTT:=Lib.hid hT
          clear hw8 hT
          go_loopw [11,12,13] (fun xv i _ wr=>∃ (j:Nat) (sv:Value),j<=3∧i = .int .i64 j∧xv = .int .u64 (nth s ((t+(j:Int)+4) % 4).toNat)∧Hid (wr.cell? ⟨T,0,none⟩=some (.int .u64 (nth ids k))∧wr.cell? ⟨T,1,none⟩=some (.int .i64 (-1))∧wr.cell? ⟨T,2,none⟩=some sv∧(∀ o,wr.frozen? ⟨T,o,none⟩=false)∧T<wr.heap.size) ∧
           Hid (wr.ownsRow (T+1) 3 1 sv j ((sucT ids s t j).map (Value.int .i64)))∧Hid (RowKit.Below T w7 wr)) (fun _ i _ _=>3 - (intOf i).toNat)
          case atStart=>exact ⟨0,_,by omega,rfl,by rw [hst],T8.out,World.ownsRow_nil _ _ _ _,B8.out⟩
          case round =>
           obtain ⟨j,sv,hj,rfl,rfl,hTc,hO,hB⟩:=hrel
           have hBW2:RowKit.Below w.heap.size w wr:=BW.out.trans (hB.out.mono (by rw [HTT.out];exact BW.out.size))
           obtain ⟨c0,c1,c2,cf,cz⟩:=hTc.out
           by_cases hj3:j<3
           · obtain ⟨q,hq4,hq1,hq2⟩:=HF.out.at_place (t+(j:Int)+1)
             have px:isPlace (nth s ((t+(j:Int)+4) % 4).toNat):=by
              obtain ⟨q',hq',_,e'⟩:=HF.out.at_place (t+(j:Int))
              rw [← e'];exact hpl.out q' hq'
             have CX:=Lib.hid (CB.out wr hBW2 _ px)
             have HBW:=Lib.hid hBW2
             have hqI:((q:Nat):Int)<4:=by omega
             have HNr:=Lib.hid fun b (h:Near ids (nth s ((t+(j:Int)+4) % 4).toNat) 4 b)=>HF.out.near h
             have hq3:nth ids q=nth s ((t+((j+1:Nat):Int)+4) % 4).toNat:=by rw [hq2];congr 2;omega
             have HQ3:=Lib.hid hq3
             have HQ1:=Lib.hid hq1
             clear px hBW2 hq1 hq2 hq3 hst
             obtain ⟨xx,hxx⟩:∃ xx,xx=nth s ((t+(j:Int)+4) % 4).toNat:=⟨_,rfl⟩
             rw [← hxx] at CX HNr ⊢
             clear hxx
             go_wp2_with fail
             refine CX.out.mono ?_
             rintro e w9 ⟨b,rfl,hnb,hb9⟩
             have e:=HNr.out b hnb
             rw [HQ1.out] at e
             subst e
             have c0:=(hb9.cell (p:=⟨T,0,none⟩) cz).trans c0
             have c1:=(hb9.cell (p:=⟨T,1,none⟩) cz).trans c1
             have c2:=(hb9.cell (p:=⟨T,2,none⟩) cz).trans c2
             have cf:∀ o,w9.frozen? ⟨T,o,none⟩=false:=fun o=>(hb9.frozen (p:=⟨T,o,none⟩) cz).trans (cf o)
             have cz:=Nat.lt_of_lt_of_le cz hb9.size
             have O9:Hid (w9.ownsRow (T+1) 3 1 sv j ((sucT ids s t j).map (Value.int .i64))):=owns_block hO.out fun g hg=>hb9.block g (hO.out.lt g hg).2
             have B9:Hid (RowKit.Below T w7 w9):=hB.out.trans (hb9.mono (by have:=hTc.out.2.2.2.2;omega))
             have BW9:=Lib.hid (bel_below HBW.out hb9)
             clear hnb hb9 CX HNr hTc hO hB HBW
             obtain ⟨bb2,off2,e2,_,hb2,hck2⟩:=hA.out.at q hq4 w9 BW9.out
             cases e2
             go_wp2_with (at_builtin;refine wpList_app rfl _ _ 36 rfl (T+1) 3 i5 (.int .i64 0) 8 Tryz.underlying36 hi5 hzi5 hsi5 hbi5 rfl _ j _ rfl (O9.out.alloc _) 0 _ 1 _ rfl (sl_new _ .i64 [(q:Int)] 3 _ 1 rfl rfl (by simp [maxLen])) (fun _=>rfl) ?qe1 ?qe2 ?qe3 ?_)
             try (case qe1=>first | omega | (simp only [maxLen];omega))
             try (case qe2=>omega)
             try (case qe3=>first | omega | (simp;omega))
             intro v' wA ho hg
             have HBA:RowKit.Below (T+1) w9 wA:=RowKit.Below.grown ((RowKit.Below.refl _ _).alloc (by omega) _) hg (by simp;omega) (fun g hg'=>by have:=O9.out.lt g hg';omega)
             have c0:=(HBA.cell (p:=⟨T,0,none⟩) (Nat.lt_succ_self T)).trans c0
             have c1:=(HBA.cell (p:=⟨T,1,none⟩) (Nat.lt_succ_self T)).trans c1
             have c2:=(HBA.cell (p:=⟨T,2,none⟩) (Nat.lt_succ_self T)).trans c2
             have cf:∀ o,wA.frozen? ⟨T,o,none⟩=false:=fun o=>(HBA.frozen (p:=⟨T,o,none⟩) (Nat.lt_succ_self T)).trans (cf o)
             have cz:=Nat.lt_of_lt_of_le cz HBA.size
             obtain ⟨g0,q0,rfl⟩:=owns_shape ho (by omega)
             have cf2:=cf 2
             have BA:Hid (RowKit.Below T w7 wA):=B9.out.trans (HBA.mono (by omega))
             clear O9 B9 BW9 hb2 hck2
             go_upto_region 28 with (fail)
             obtain ⟨wC,hwC⟩:∃ z,z=wA.setCell ⟨T,2,none⟩ (.slice (some ⟨g0,0,none⟩) (j+1) q0):=⟨_,rfl⟩
             have TC:Hid (wC.cell? ⟨T,0,none⟩=some (.int .u64 (nth ids k))∧wC.cell? ⟨T,1,none⟩=some (.int .i64 (-1))∧wC.cell? ⟨T,2,none⟩=some (.slice (some ⟨g0,0,none⟩) (j+1) q0)∧(∀ o,wC.frozen? ⟨T,o,none⟩=false)∧T<wC.heap.size):=by
              show _∧_
              rw [hwC]
              refine ⟨by rw [cell_set_off _ _ _ _ _ (by decide)];exact c0,by rw [cell_set_off _ _ _ _ _ (by decide)];exact c1,World.cell?_setCell_same _ _ _ c2,fun o=>by rw [World.frozen?_setCell];exact cf o,by rw [size_set];exact cz⟩
             have OC:Hid (wC.ownsRow (T+1) 3 1 (.slice (some ⟨g0,0,none⟩) (j+1) q0) (j+1) ((sucT ids s t (j+1)).map (Value.int .i64))):=by
              have e3:(sucT ids s t (j+1)).map (Value.int .i64)=(sucT ids s t j).map (Value.int .i64) ++ [.int .i64 (q:Int)]:=by rw [sucT_succ,List.map_append,HQ1.out];rfl
              show World.ownsRow _ _ _ _ _ _ _
              rw [e3,hwC]
              have ho2:wA.ownsRow (T+1) 3 1 (.slice (some ⟨g0,0,none⟩) (j+1) q0) (j+1) ((sucT ids s t j).map (Value.int .i64) ++ [.int .i64 (q:Int)]):=by simpa [nth] using ho
              exact owns_block ho2 fun g hg'=>Below.heap_setCell _ _ _ _ (by have:=ho2.lt g hg';show g≠T;omega)
             have BC:Hid (RowKit.Below T w7 wC):=by rw [hwC];exact BA.out.setCell (by exact Nat.le_refl _) _
             rw [← hwC]
             clear hwC ho hg HBA c0 c1 c2 cf cz cf2 BA
             have BWC:RowKit.Below w.heap.size w wC:=BW.out.trans (BC.out.mono (by rw [HTT.out];exact BW.out.size))
             obtain ⟨bb2,off2,e2,_,hb2,hck2⟩:=hA.out.at q hq4 wC BWC
             cases e2
             clear BWC
             go_wp2_with fail
             go_roundw
             case rel=>go_light;exact ⟨j+1,.slice (some ⟨g0,0,none⟩) (j+1) q0,by omega,by go_num,congrArg (Value.int .u64) HQ3.out,TC.out,OC.out,BC.out⟩
             case measure=>go_light;simp [intOf];omega
           · obtain rfl:j=3:=by omega
             have hsl:=own_ints (l:=sucT ids s t 3) hO.out
             rw [sucT_len] at hsl
             obtain ⟨la,lc,rfl,_⟩:=hsl.slice
             obtain ⟨lb,lo,rfl,hlb,hlz,hl2⟩:=hsl.at 2 (by decide) wr (RowKit.Below.refl _ _)
             have hl3:nth (sucT ids s t 3) 2=atI ids s (t+3):=by rw [sucT_three];rfl
             rw [hl3] at hl2
             have SL:=Lib.hid hsl
             have cf1:=cf 1
             have HP7:=Lib.hid (hP.out.later (hB.out.mono (by rw [HTT.out];exact Nat.le_refl _)))
             clear hsl hj3 hst hl3 hj
             go_upto_region 30 with (fail)
             obtain ⟨wC,hwC⟩:∃ z,z=wr.setCell ⟨T,1,none⟩ (.int .i64 (atI ids s (t+3))):=⟨_,rfl⟩
             have d0:wC.cell? ⟨T,0,none⟩=some (.int .u64 (nth ids k)):=by rw [hwC,cell_set_off _ _ _ _ _ (by decide)];exact c0
             have d1:wC.cell? ⟨T,1,none⟩=some (.int .i64 (atI ids s (t+3))):=by rw [hwC];exact World.cell?_setCell_same _ _ _ c1
             have d2:wC.cell? ⟨T,2,none⟩=some (.slice (some ⟨lb,lo,none⟩) 3 lc):=by rw [hwC,cell_set_off _ _ _ _ _ (by decide)];exact c2
             have dz:T<wC.heap.size:=by rw [hwC,size_set];exact cz
             have BC:RowKit.Below T w7 wC:=by rw [hwC];exact hB.out.setCell (by exact Nat.le_refl _) _
             have BC7:RowKit.Below w7.heap.size w7 wC:=BC.mono (by rw [HTT.out];exact Nat.le_refl _)
             have PC:=Lib.hid (hP.out.later BC7)
             have SC:Hid (SlIn (fun b=>R<b∧b≠p.b4) (sucT ids s t 3) wC (.slice (some ⟨lb,lo,none⟩) 3 lc)):=by
              have hb4:=hP.out.peers.z
              have h1:SlIn (fun b=>T+1<=b) (sucT ids s t 3) wr (.slice (some ⟨lb,lo,none⟩) 3 lc):=by
               refine SlIn.of_slAt (B:=T+1) ?_ fun _ h=>h
               rw [sucT_len];exact SL.out
              exact h1.imp (fun b _ hq=>⟨by omega,by have:=HTT.out;omega⟩) (by rw [hwC,size_set];exact Nat.le_refl _) (fun b _ hq=>by rw [hwC];exact Below.heap_setCell _ _ _ _ (by show b≠T;omega))
             have KC:=Lib.hid (hK.out.trans (BC7.mono (Nat.le_of_lt hP.out.box.z)))
             have LsC:Hid (∀ j:Nat,j<32->SlIn (fun b=>R<b∧b≠p.b4) (succR (partF ids s k) j) wC (V j)):=fun j hj=>(hLs.out j hj).imp (fun b _ h=>h) BC7.size (fun b hb _=>BC7.block b hb)
             rw [← hwC]
             clear hwC c0 c1 c2 cf cz cf1 BC BC7 HP7 hB hO hTc SL hl2 hlz hlb hBW2
             have x3:=PC.out.box.c3
             have zR:=PC.out.box.z
             have p0:=PC.out.peers.cell (k * 3) (by omega)
             have p1:=PC.out.peers.cell (k * 3+1) (by omega)
             have p2:=PC.out.peers.cell (k * 3+2) (by omega)
             rw [← Nat.add_assoc] at p1 p2
             have f0:=PC.out.fresh.f4 (p.o4+k * 3)
             have f1:=PC.out.fresh.f4 (p.o4+k * 3+1)
             have f2:=PC.out.fresh.f4 (p.o4+k * 3+2)
             have pz:=PC.out.peers.z
             have pq:=PC.out.peers.q
             have hkI:((k:Nat):Int)<32:=by omega
             go_upto_region 31 with (fail)
             obtain ⟨wD,hwD⟩:∃ z,z=((wC.setCell ⟨p.b4,p.o4+k * 3,none⟩ (.int .u64 (nth ids k))).setCell ⟨p.b4,p.o4+k * 3+1,none⟩ (.int .i64 (atI ids s (t+3)))).setCell ⟨p.b4,p.o4+k * 3+2,none⟩ (.slice (some ⟨lb,lo,none⟩) 3 lc):=⟨_,rfl⟩
             have ZD:wD.heap.size=wC.heap.size:=by rw [hwD];simp only [size_set]
             have KD:∀ b,b≠p.b4->wD.heap[b]? = wC.heap[b]?:=fun b hb=>by rw [hwD,Below.heap_setCell _ _ _ _ hb,Below.heap_setCell _ _ _ _ hb,Below.heap_setCell _ _ _ _ hb]
             have hpk:partF ids s (k+1) (k:Int)=some ⟨true,nth ids k,atI ids s (t+3),[atI ids s (t+1),atI ids s (t+2),atI ids s (t+3)]⟩:=by rw [partF_at,HT3.out]
             have PD:Hid (NewRows wD R p (idsK ids 4) (peerC (partF ids s (k+1)) (fun i=>if i=k then .slice (some ⟨lb,lo,none⟩) 3 lc else V i))) :=
              (PC.out.setPeer (by omega) _ _ _ hwD).congr (fun _ _=>rfl) (fun i _=>peerC_step hpk (fun j hj=>partF_same ids s hj) rfl i)
             have LsD:Hid (∀ j:Nat,j<32->SlIn (fun b=>R<b∧b≠p.b4) (succR (partF ids s (k+1)) j) wD (if j=k then .slice (some ⟨lb,lo,none⟩) 3 lc else V j)):=fun j hj=>by
              by_cases e:j=k
              · subst e
                rw [if_pos rfl]
                have e2:succR (partF ids s (j+1)) (j:Int)=sucT ids s t 3:=by unfold succR;rw [hpk,sucT_three]
                rw [e2]
                exact SC.out.imp (fun b _ h=>h) (by omega) (fun b _ h=>KD b h.2)
              · rw [if_neg e]
                have e2:succR (partF ids s (k+1)) (j:Int)=succR (partF ids s k) (j:Int):=by unfold succR;rw [partF_same ids s e]
                rw [e2]
                exact (LsC.out j hj).imp (fun b _ h=>h) (by omega) (fun b _ h=>KD b h.2)
             have BD:Hid (RowKit.Below R w3 wD):=by
              rw [hwD]
              exact ((KC.out.setCell (by show R<=p.b4;omega) _).setCell (by show R<=p.b4;omega) _).setCell (by show R<=p.b4;omega) _
             rw [← hwD]
             clear hwD ZD KD hpk PC SC KC LsC x3 zR p0 p1 p2 f0 f1 f2 pz pq d0 d1 d2 dz
             go_wp2_with fail
             go_roundw
             case rel=>go_light;exact ⟨k+1,(fun i=>if i=k then .slice (some ⟨lb,lo,none⟩) 3 lc else V i),by omega,by go_num,PD.out,LsD.out,BD.out⟩
             case measure=>go_light;simp [intOf];omega
        · obtain rfl:k=4:=by omega
          have R9:Hid (BoxNil wr w.heap.size):=RN3.out.block hK.out.size (hK.out.block _ hwR)
          have P9:=Lib.hid hP.out.box
          have BW9:RowKit.Below w.heap.size w wr:=B3.out.trans (hK.out.mono (by omega))
          have c0:=(P9).out.c0
          have c1:=(P9).out.c1
          have c2:=(P9).out.c2
          have c3:=(P9).out.c3
          have pf0:=(P9).out.f0
          have pf1:=(P9).out.f1
          have pf2:=(P9).out.f2
          have pf3:=(P9).out.f3
          have zp:=(P9).out.z
          have r0:=(R9).out.c0
          have r1:=(R9).out.c1
          have r2:=(R9).out.c2
          have r3:=(R9).out.c3
          have rf0:=(R9).out.f0
          have rf1:=(R9).out.f1
          have rf2:=(R9).out.f2
          have rf3:=(R9).out.f3
          have zr:=(R9).out.z
          go_wp2_with fail
          refine bodyPost_ret (v:=.tuple #[(.agg #[.slice (some ⟨(p).b1,(p).o1,none⟩) 32 (p).k1,.slice (some ⟨(p).b2,(p).o2,none⟩) 32 (p).k2,.slice (some ⟨(p).b3,(p).o3,none⟩) 32 (p).k3,.slice (some ⟨(p).b4,(p).o4,none⟩) 32 (p).k4]),.int .i64 0]) ?_ rfl ?_
          · simp [results,Tryz.results39,go_sem,r0,r1,r2,r3]
          obtain ⟨wE,hwE⟩:∃ z,z=(((wr.setCell ⟨w.heap.size,0,none⟩ (.slice (some ⟨p.b1,p.o1,none⟩) 32 p.k1)).setCell ⟨w.heap.size,1,none⟩ (.slice (some ⟨p.b2,p.o2,none⟩) 32 p.k2)).setCell ⟨w.heap.size,2,none⟩ (.slice (some ⟨p.b3,p.o3,none⟩) 32 p.k3)).setCell ⟨w.heap.size,3,none⟩ (.slice (some ⟨p.b4,p.o4,none⟩) 32 p.k4):=⟨_,rfl⟩
          obtain ⟨hzE,hkE⟩:=block_set4 hwE
          have BE:RowKit.Below w.heap.size w wE:=by
           have hB:=BW9
           rw [hwE]
           (repeat (first | exact Below.refl _ _ | (with_reducible assumption) | (with_reducible refine bel_later ?_ _) | (with_reducible refine bel_alloc ?_ _) | (with_reducible refine bel_drew ?_) | (with_reducible refine bel_drewN ?_ _) | (with_reducible refine bel_set ?_ (by first | (simp;done) | (simp;omega) | (dsimp only;omega)) _)))
          rw [← hwE]
          have hsome:∀ j:Nat,j<32->(partF ids s 4 (j:Int)).isSome=decide (j<4)∧livesR (partF ids s 4) (j:Int)=decide (j<4)∧idsK ids 4 j = .int .u64 (idR (partF ids s 4) (j:Int)):=fun j hj=>by
           rw [partF_all ids s HF.out]
           unfold livesR idR idsK
           by_cases h:j<4
           · obtain ⟨t,_,_,e⟩:=HF.out.mem_of h
             rw [e]
             simp [h]
           · rw [HF.out.none_of (by omega)]
             simp [h]
          refine ⟨_,rfl,p,V,rfl,⟨⟨?_,?_,?_,?_⟩,fun j hj=>?_⟩,BE⟩
          · exact (hP.out.used.imp (fun h=>Or.inr (by omega)) (by omega) (hkE _ (by have:=hP.out.used.q;omega))).congr fun j hj=>by rw [(hsome j (by omega)).1]
          · exact (hP.out.live.imp (fun h=>Or.inr (by omega)) (by omega) (hkE _ (by have:=hP.out.live.q;omega))).congr fun j hj=>by rw [(hsome j (by omega)).2.1]
          · exact (hP.out.ids.imp (fun h=>Or.inr (by omega)) (by omega) (hkE _ (by have:=hP.out.ids.q;omega))).congr fun j hj=>(hsome j (by omega)).2.2
          · exact hP.out.peers.imp (fun h=>Or.inr (by omega)) (by omega) (hkE _ (by have:=hP.out.peers.q;omega))
          · exact (hLs.out j hj).imp (fun b _ h=>Or.inr (by omega)) (by omega) (fun b _ h=>hkE b (by omega))
end Go.Proofs.YtahiahjhpakeiaaGreatDoor
end
