/-
  The tables of members in memory: a map from addresses to tables; New, at, Wishes. A wish is put at all keepers of its group. The stable sort by merging in place: the plain law. No walk stands here, and no program is named. Moves in order, moves in memory, and the plain law of the stable sort's walks. No walk stands here.
-/
import Derived.Test.YtahiahjhpakeiaaGreatDoorPlans1
import Derived.Test.YtahiahjhpakeiaaGreatDoorPlans16
import Derived.Test.YtahiahjhpakeiaaGreatDoorPlans19
import Derived.Test.YtahiahjhpakeiaaGreatDoorPlans22
namespace Go.Proofs.YtahiahjhpakeiaaGreatDoor
open Go.RowKit Go.Maps Go.Sort Go.WideShapes Go.ChangeShapes Go.Deep
set_option linter.unusedVariables false
set_option linter.unusedSimpArgs false
section
attribute [local go_sem] later_cell later_frozen later_lt cell_set_off cell_set_block
def tptM (tb:Int->Nat) (T:Int->Option (List Ent)) (n:Int):Option Value:=(T n).map fun _=>Value.pointer (some ⟨tb n,0,none⟩)
def setT (T:Int->Option (List Ent)) (n:Int) (l:List Ent):Int->Option (List Ent):=fun j=>if j=n then some l else T j
theorem setT_same (T:Int->Option (List Ent)) (n:Int) (l:List Ent):setT T n l n=some l:=by simp [setT]
theorem setT_ne (T:Int->Option (List Ent)) {n j:Int} (l:List Ent) (h:j≠n):setT T n l j=T j:=by simp [setT,h]
theorem setT_self {T:Int->Option (List Ent)} {n:Int} {l:List Ent} (h:T n=some l):setT T n l=T:=funext fun j=>by
 by_cases e:j=n
 · rw [e,setT_same,h]
 · rw [setT_ne _ _ e]
structure StoreIn (R:Int->Nat->Prop) (tb:Int->Nat) (D:Nat->Prop) (W w:World) (sb mb:Nat) (T:Int->Option (List Ent)):Prop where
 c0:w.cell? ⟨sb,0,none⟩=some (.map (some mb))
 sz:sb<w.heap.size
 map:MapX Tryz.prog 3 w mb (cntX (tptM tb T)) (tptM tb T)
 dom:∀ n l,T n=some l->0<=n∧n<32
 tab:∀ n l,T n=some l->TabAt 79 (R n) w (tb n) l
 own:∀ n l b,T n=some l->R n b->W.heap.size<=b∧b≠sb∧b≠mb ∧ ¬ D b
 dis:∀ n m l k b,n≠m->T n=some l->T m=some k->R n b -> ¬ R m b
 ne:sb≠mb
 lowS:W.heap.size<=sb
 lowM:W.heap.size<=mb
 dm:∀ b,D b->b<w.heap.size∧b≠mb
 bel:Below W.heap.size W w
def StoreW (D:Nat->Prop) (W w:World) (sb mb:Nat) (T:Int->Option (List Ent)):Prop:=∃ R tb,StoreIn R tb D W w sb mb T
section
variable {R:Int->Nat->Prop} {tb:Int->Nat} {D D':Nat->Prop} {W w w':World} {sb mb:Nat} {T:Int->Option (List Ent)}
theorem StoreIn.later (h:StoreIn R tb D W w sb mb T) (hb:Below w.heap.size w w'):StoreIn R tb (fun b=>D b∨(w.heap.size<=b∧b<w'.heap.size)) W w' sb mb T where
 c0:=(hb.cell (p:=⟨sb,0,none⟩) h.sz).trans h.c0
 sz:=Nat.lt_of_lt_of_le h.sz hb.size
 map:=h.map.block (hb.block _ h.map.lt)
 dom:=h.dom
 tab:=fun n l e=>(h.tab n l e).below hb
 own:=fun n l b e hR=>⟨(h.own n l b e hR).1,(h.own n l b e hR).2.1,(h.own n l b e hR).2.2.1,fun hD=>by
  rcases hD with hD | hD
  · exact (h.own n l b e hR).2.2.2 hD
  · have:=(h.tab n l e).old b hR;omega⟩
 dis:=h.dis
 ne:=h.ne
 lowS:=h.lowS
 lowM:=h.lowM
 dm:=fun b hD=>by
  have:=h.map.lt
  rcases hD with hD | hD
  · exact ⟨Nat.lt_of_lt_of_le (h.dm b hD).1 hb.size,(h.dm b hD).2⟩
  · exact ⟨hD.2,by omega⟩
 bel:=bel_below h.bel hb
theorem StoreIn.less (h:StoreIn R tb D W w sb mb T) (hD:∀ b,D' b->D b):StoreIn R tb D' W w sb mb T :=
 { h with own:=fun n l b e hR=>⟨(h.own n l b e hR).1,(h.own n l b e hR).2.1,(h.own n l b e hR).2.2.1,fun hd=>(h.own n l b e hR).2.2.2 (hD b hd)⟩,dm:=fun b hd=>h.dm b (hD b hd) }
theorem StoreIn.look (h:StoreIn R tb D W w sb mb T) (n:Int) (hn:okInt n):(Instr.lookup 142 (.map (some mb)) (.int .i64 n) false).run Tryz.prog w = .ok ((tptM tb T n).getD (.pointer none)) w :=
 h.map.look keyInt Tryz.underlying3 Tryz.underlying142 (by kernel_rfl) n hn
theorem StoreIn.turn (h:StoreIn R tb D W w sb mb T) {n:Int} {l l':List Ent} (hn:T n=some l) {R':Nat->Prop} (hR:∀ b,R' b->R n b∨w.heap.size<=b) (ht:TabAt 79 R' w' (tb n) l') (hk:Kept (R n) w w') :
 StoreIn (fun j=>if j=n then R' else R j) tb D W w' sb mb (setT T n l')∧Kept (fun b=>¬ D b) w w':=by
 have hmz:=h.map.lt
 have hsz:=h.sz
 have nS:¬ R n sb:=fun hr=>(h.own n l sb hn hr).2.1 rfl
 have nM:¬ R n mb:=fun hr=>(h.own n l mb hn hr).2.2.1 rfl
 have hp:tptM tb (setT T n l')=tptM tb T:=funext fun j=>by
  unfold tptM
  by_cases e:j=n
  · rw [e,setT_same,hn];rfl
  · rw [setT_ne _ _ e]
 have hbk:∀ b,D b->w'.heap[b]? = w.heap[b]?:=fun b hD=>hk.block b (h.dm b hD).1 fun hr=>(h.own n l b hn hr).2.2.2 hD
 refine ⟨{ c0:=(World.cell?_of_block (hk.block _ hsz nS)).trans h.c0,sz:=Nat.lt_of_lt_of_le hsz hk.size,map:=?_,dom:=fun j m e=>?_,tab:=fun j m e=>?_,own:=fun j m b e hr=>?_,dis:=fun i j m k b hij e1 e2 h1 h2=>?_,ne:=h.ne,lowS:=h.lowS,lowM:=h.lowM,dm:=fun b hD=>⟨Nat.lt_of_lt_of_le (h.dm b hD).1 hk.size,(h.dm b hD).2⟩,bel:=?_ },hk.more fun b hr hD=>(h.own n l b hn hr).2.2.2 hD⟩
 · rw [hp];exact h.map.block (hk.block _ hmz nM)
 · by_cases e':j=n
   · rw [e'];exact h.dom n l hn
   · rw [setT_ne _ _ e'] at e;exact h.dom j m e
 · by_cases e':j=n
   · subst e'
     rw [setT_same] at e
     cases e
     try dsimp only
     rw [if_pos rfl]
     exact ht
   · rw [setT_ne _ _ e'] at e
     try dsimp only
     rw [if_neg e']
     exact (h.tab j m e).kept hk fun b hb hr=>h.dis j n m l b e' e hn hb hr
 · try dsimp only at hr
   by_cases e':j=n
   · rw [if_pos e'] at hr
     rcases hR b hr with h1 | h1
     · exact h.own n l b hn h1
     · have:=h.bel.size
       exact ⟨by omega,by omega,by omega,fun hD=>by have:=(h.dm b hD).1;omega⟩
   · rw [if_neg e'] at hr
     rw [setT_ne _ _ e'] at e
     exact h.own j m b e hr
 · try dsimp only at h1 h2
   by_cases a:i=n
   · rw [if_pos a] at h1
     rw [if_neg (fun e=>hij (a.trans e.symm))] at h2
     rw [setT_ne _ _ (fun e=>hij (a.trans e.symm))] at e2
     rcases hR b h1 with h3 | h3
     · exact h.dis n j l k b (fun e=>hij (a.trans e)) hn e2 h3 h2
     · have:=(h.tab j k e2).old b h2;omega
   · rw [if_neg a] at h1
     rw [setT_ne _ _ a] at e1
     by_cases c:j=n
     · rw [if_pos c] at h2
       rcases hR b h2 with h3 | h3
       · exact h.dis i n m l b a e1 hn h1 h3
       · have:=(h.tab i m e1).old b h1;omega
     · rw [if_neg c] at h2
       rw [setT_ne _ _ c] at e2
       exact h.dis i j m k b hij e1 e2 h1 h2
 · exact h.bel.trans (hk.toBelow h.bel.size fun b hb hr=>by have:=(h.own n l b hn hr).1;omega)
theorem StoreIn.add (h:StoreIn R tb D W w sb mb T) {n:Int} (h0:0<=n) (h1:n<32) (hn:T n=none) :
 ∃ w',(Instr.mapUpdate 142 (.map (some mb)) (.int .i64 n) (.pointer (some ⟨w.heap.size,0,none⟩))).run Tryz.prog (w.alloc (.cells #[.slice none 0 0] 191)) = .ok () w' ∧
   StoreIn (fun j=>if j=n then fun b=>b=w.heap.size else R j) (fun j=>if j=n then w.heap.size else tb j) D W w' sb mb (setT T n [])∧Kept (fun b=>¬ D b) w w':=by
 have hmz:=h.map.lt
 have hsz:=h.sz
 have hWz:=h.bel.size
 obtain ⟨w1,hw1⟩:∃ z,z=w.alloc (.cells #[.slice none 0 0] 191):=⟨_,rfl⟩
 have hb:Below w.heap.size w w1:=by rw [hw1];exact bel_alloc (Below.refl _ _) _
 have hz1:w1.heap.size=w.heap.size+1:=by rw [hw1];simp
 have c1:w1.cell? ⟨w.heap.size,0,none⟩=some (.slice none 0 0):=by rw [hw1];simp [go_sem]
 have f1:w1.frozen? ⟨w.heap.size,0,none⟩=false:=by rw [hw1];simp [go_sem]
 rw [← hw1]
 clear hw1
 obtain ⟨w',hrun,hm',ht⟩:=(h.map.block (hb.block _ hmz)).store keyInt Tryz.underlying3 Tryz.underlying142 (by have:=cntX_le (tptM tb T);simp only [maxLen];omega) n (okInt_dom (by omega) h1) (.pointer (some ⟨w.heap.size,0,none⟩))
 have hg:=ht.grown
 have hblk:∀ b,b<w1.heap.size->b≠mb->w'.heap[b]? = w1.heap[b]?:=fun b hb' hne=>hg.block b hb' (fun e=>hne (by cases e;rfl))
 have hk1:Kept (fun b=>b=mb) w1 w':=⟨hg.os,hg.tape,hg.output,hg.size,hblk⟩
 have hk:Kept (fun b=>b=mb) w w':=((Kept.refl _ w).below hb).trans hk1
 have hp:tptM (fun j=>if j=n then w.heap.size else tb j) (setT T n [])=setX (tptM tb T) n (.pointer (some ⟨w.heap.size,0,none⟩)):=funext fun j=>by
  unfold tptM
  by_cases e:j=n
  · subst e
    rw [setT_same,setX_same];simp
  · rw [setT_ne _ _ e,setX_ne _ _ e];simp [e]
 refine ⟨w',hrun,{ c0:=(World.cell?_of_block (hk.block _ hsz h.ne)).trans h.c0,sz:=Nat.lt_of_lt_of_le hsz hk.size,map:=?_,dom:=fun j m e=>?_,tab:=fun j m e=>?_,own:=fun j m b e hr=>?_,dis:=fun i j m k b hij e1 e2 r1 r2=>?_,ne:=h.ne,lowS:=h.lowS,lowM:=h.lowM,dm:=fun b hD=>⟨Nat.lt_of_lt_of_le (h.dm b hD).1 hk.size,(h.dm b hD).2⟩,bel:=?_ },hk.more fun b e hD=>(h.dm b hD).2 e⟩
 · rw [hp,cntX_set _ _ h0 h1];exact hm'
 · by_cases e':j=n
   · rw [e'];exact ⟨h0,h1⟩
   · rw [setT_ne _ _ e'] at e;exact h.dom j m e
 · by_cases e':j=n
   · subst e'
     rw [setT_same] at e
     cases e
     try dsimp only
     rw [if_pos rfl,if_pos rfl]
     exact (tab_new c1 f1 (by omega)).kept hk1 fun b hb' e=>by omega
   · rw [setT_ne _ _ e'] at e
     try dsimp only
     rw [if_neg e',if_neg e']
     exact (h.tab j m e).kept hk fun b hb' hr=>(h.own j m b e hb').2.2.1 hr
 · try dsimp only at hr
   by_cases e':j=n
   · rw [if_pos e'] at hr
     exact ⟨by omega,by omega,by omega,fun hD=>by have:=(h.dm b hD).1;omega⟩
   · rw [if_neg e'] at hr
     rw [setT_ne _ _ e'] at e
     exact h.own j m b e hr
 · try dsimp only at r1 r2
   by_cases a:i=n
   · rw [if_pos a] at r1
     rw [if_neg (fun e=>hij (a.trans e.symm))] at r2
     rw [setT_ne _ _ (fun e=>hij (a.trans e.symm))] at e2
     have:=(h.tab j k e2).old b r2;omega
   · rw [if_neg a] at r1
     rw [setT_ne _ _ a] at e1
     by_cases c:j=n
     · rw [if_pos c] at r2
       have:=(h.tab i m e1).old b r1;omega
     · rw [if_neg c] at r2
       rw [setT_ne _ _ c] at e2
       exact h.dis i j m k b hij e1 e2 r1 r2
 · exact h.bel.trans (hk.toBelow h.bel.size fun b hb' e=>by have:=h.lowM;omega)
set_option maxRecDepth 100000 in
theorem sat_any (h:StoreIn R tb D W w sb mb T) (n:Int) (h0:0<=n) (h1:n<32) :
 Calls Tryz.prog 80 #[.pointer (some ⟨sb,0,none⟩),.int .i64 n] w fun e w'=>∃ R' tb',e = .returned (.pointer (some ⟨tb' n,0,none⟩))∧StoreIn R' tb' D W w' sb mb (setT T n ((T n).getD []))∧Kept (fun b=>¬ D b) w w':=by
 have hn:okInt n:=okInt_dom (by omega) h1
 have c0:=h.c0
 have sz:=h.sz
 have hlk:=h.look n hn
 cases hT:T n with
 | some l =>
   have e1:tptM tb T n=some (.pointer (some ⟨tb n,0,none⟩)):=by unfold tptM;rw [hT];rfl
   rw [e1] at hlk
   dsimp only [Option.getD] at hlk
   have H:=Lib.hid h
   have HT:=Lib.hid hT
   obtain ⟨tn,htn⟩:∃ z,z=tb n:=⟨_,rfl⟩
   have HTN:=Lib.hid htn
   rw [← htn] at hlk
   clear h hT e1 htn hn
   go_enter Tryz.func80,Tryz.ntmps80
   go_wp2_with fail
   go_ret
   refine ⟨R,tb,by rw [HTN.out];first | done | rfl,?_,Kept.refl _ _⟩
   rw [show (some l:Option (List Ent)).getD []=l from rfl,setT_self HT.out]
   exact H.out
 | none =>
   have e1:tptM tb T n=none:=by unfold tptM;rw [hT];rfl
   rw [e1] at hlk
   dsimp only [Option.getD] at hlk
   obtain ⟨w',hrun,hS,hK⟩:=h.add h0 h1 hT
   have d0:=hS.c0
   have dz:=hS.sz
   have hlk2:=hS.look n hn
   have e2:tptM (fun j=>if j=n then w.heap.size else tb j) (setT T n []) n=some (.pointer (some ⟨w.heap.size,0,none⟩)):=by unfold tptM;rw [setT_same];simp
   rw [e2] at hlk2
   dsimp only [Option.getD] at hlk2
   have HS:=Lib.hid hS
   have HK:=Lib.hid hK
   clear h hT e1 e2 hS hK hn
   go_enter Tryz.func80,Tryz.ntmps80
   go_wp2_with fail
   go_ret
   exact ⟨_,_,by (first | rfl | simp),HS.out,HK.out⟩
theorem StoreIn.keep (h:StoreIn R tb D W w sb mb T) (hb:Below w.heap.size w w'):StoreIn R tb D W w' sb mb T:=(h.later hb).less fun b hD=>Or.inl hD
theorem wish_any (h:StoreIn R tb D W w sb mb T) (n:Int) (h0:0<=n) (h1:n<32) (g:Str) :
 Calls Tryz.prog 40 #[.pointer (some ⟨sb,0,none⟩),.int .i64 n,.string (bs g)] w fun e w'=>∃ v R' tb',e = .returned v∧EntsIn (fun b=>w.heap.size<=b) (kidsE ((T n).getD []) g) w' v ∧
  StoreIn R' tb' D W w' sb mb (setT T n ((T n).getD []))∧Kept (fun b=>¬ D b) w w':=by
 have CA:=Lib.hid (sat_any h n h0 h1)
 clear h
 go_enter Tryz.func40,Tryz.ntmps40
 go_wp2_with fail
 refine CA.out.mono ?_
 rintro e w1 ⟨R1,tb1,rfl,hS,hK⟩
 have HS:=Lib.hid hS
 have HK:=Lib.hid hK
 have CK:=Lib.hid (kids_at (hS.tab n _ (setT_same _ _ _)) g)
 clear hS hK CA
 go_wp2_with fail
 refine CK.out.mono ?_
 rintro e w2 ⟨v,rfl,hE,hb⟩
 obtain ⟨a,c,rfl,_⟩:=hE.slice
 have HE:=Lib.hid hE
 have HB:=Lib.hid hb
 clear hE hb CK
 go_wp2_with fail
 go_ret
 exact ⟨_,_,_,rfl,HE.out.imp (fun b _ hq=>Nat.le_trans HK.out.size hq) (Nat.le_refl _) (fun _ _ _=>rfl),HS.out.keep HB.out,HK.out.below HB.out⟩
end
theorem snew_any (w:World):Calls Tryz.prog 24 #[] w fun e w'=>∃ sb mb,e = .returned (.pointer (some ⟨sb,0,none⟩))∧StoreW (fun b=>b<w.heap.size) w w' sb mb (fun _=>none)∧Below w.heap.size w w':=by
 have hmk:∀ (w:World),(Instr.makeMap 142 none).run Tryz.prog w = .ok (.map (some w.heap.size)) (w.alloc (.map #[] 0)):=fun w=>run_makeMap 142 w
 go_enter Tryz.func24,Tryz.ntmps24
 go_wp2
 go_ret
 refine ⟨w.heap.size+1,w.heap.size,by simp,⟨fun _ _=>False,fun _=>0,?_⟩,by (repeat (first | exact Below.refl _ _ | (with_reducible assumption) | (with_reducible refine bel_later ?_ _) | (with_reducible refine bel_alloc ?_ _) | (with_reducible refine bel_drew ?_) | (with_reducible refine bel_drewN ?_ _) | (with_reducible refine bel_set ?_ (by first | (simp;done) | (simp;omega) | (dsimp only;omega)) _)))⟩
 have hm:=mapX_new (P:=Tryz.prog) (k:=3) w
 refine { c0:=by simp [go_sem],sz:=by simp,map:=?_,dom:=fun n l e=>(by cases e),tab:=fun n l e=>(by cases e),own:=fun n l b e=>(by cases e),dis:=fun n m l k b _ e=>(by cases e),ne:=by omega,lowS:=by omega,lowM:=Nat.le_refl _,dm:=fun b hD=>⟨by simp;omega,by omega⟩,bel:=by (repeat (first | exact Below.refl _ _ | (with_reducible assumption) | (with_reducible refine bel_later ?_ _) | (with_reducible refine bel_alloc ?_ _) | (with_reducible refine bel_drew ?_) | (with_reducible refine bel_drewN ?_ _) | (with_reducible refine bel_set ?_ (by first | (simp;done) | (simp;omega) | (dsimp only;omega)) _))) }
 have e0:tptM (fun _=>0) (fun _=>none)=fun _=>none:=rfl
 rw [e0]
 refine (show cntX (fun _=>none)=0 by decide) ▸ hm.block ?_
 exact Below.heap_alloc _ _ _ (by simp)
end
section
attribute [local go_sem] later_cell later_frozen later_lt cell_set_off cell_set_block keptT_cell keptT_lt
def putT (x:Ent) (T:Int->Option (List Ent)) (n:Int):Int->Option (List Ent):=setT T n (putE ((T n).getD []) (cleanE x))
def putsT (x:Ent) (T:Int->Option (List Ent)) (ks:List Int):Int->Option (List Ent):=ks.foldl (putT x) T
theorem putsT_snoc (x:Ent) (T:Int->Option (List Ent)) (ks:List Int) (n:Int):putsT x T (ks ++ [n])=putT x (putsT x T ks) n:=by unfold putsT;rw [List.foldl_append];rfl
theorem setT_setT (T:Int->Option (List Ent)) (n:Int) (l l':List Ent):setT (setT T n l) n l'=setT T n l':=funext fun j=>by
 by_cases e:j=n
 · rw [e,setT_same,setT_same]
 · rw [setT_ne _ _ e,setT_ne _ _ e,setT_ne _ _ e]
theorem putsT_few (x:Ent) {c:Nat}:∀ (ks:List Int) (T:Int->Option (List Ent)),(∀ n l,T n=some l->l.length<=c) -> ∀ n l,putsT x T ks n=some l->l.length<=c+ks.length:=fun ks=>by
 induction ks generalizing c with
 | nil=>intro T h n l e;exact h n l e
 | cons k ks ih =>
   intro T h n l e
   have h2:∀ m l,putT x T k m=some l->l.length<=c+1:=fun m l e=>by
    unfold putT at e
    by_cases e':m=k
    · subst e'
      rw [setT_same] at e
      cases e
      rw [len_putE]
      have:((T m).getD []).length<=c:=by
       cases hT:T m with
       | none=>simp
       | some l0=>exact h m l0 hT
      split <;> omega
    · rw [setT_ne _ _ e'] at e
      have:=h m l e;omega
   have:=ih (putT x T k) h2 n l e
   rw [List.length_cons];omega
theorem slIn_at {B:Nat} {Q:Nat->Prop} {l:List Int} {w:World} {v:Value} (h:SlAt B (fun i=>.int .i64 (nth l i)) l.length w v) (hQ:∀ b,B<=b->b<w.heap.size->Q b):SlIn Q l w v:=by
 obtain ⟨a,cap,rfl,h1,h2,h3,h4⟩:=h
 refine ⟨a,cap,rfl,h1,h2,h3,h4.imp id ?_⟩
 rintro ⟨b,off,rfl,h7,h5,h6⟩
 exact ⟨b,off,rfl,hQ b h7 h5,h5,h6⟩
set_option maxRecDepth 100000 in
set_option maxHeartbeats 8000000 in
theorem sput_any {R:Int->Nat->Prop} {tb:Int->Nat} {D:Nat->Prop} {W w:World} {sb mb:Nat} {T:Int->Option (List Ent)} (h:StoreIn R tb D W w sb mb T) (hfew:∀ n l,T n=some l->l.length<=390)
 (f:RS) (I:Inv f) (av iv:Value) (hc:SlAt 0 (fun i=>.int .i64 (nth (circ f) i)) (circ f).length w av) (hi:SlAt 0 (fun i=>.int .u64 (nth ((circ f).map (idR f)) i)) (circ f).length w iv)
 (x:Ent) (hg:(bs x.g).size<=1000000) (fv:Value) (hf:SlT D x.fs w fv) (hl:x.fs.length<=1000000) :
 Calls Tryz.prog 26 #[.pointer (some ⟨sb,0,none⟩),.agg #[av,iv],EntV x fv] w fun e w'=>e = .returned .nilIface∧StoreW D W w' sb mb (putsT x T (keepK f (keyH (bs x.g))))∧Kept (fun b=>¬ D b) w w':=by
 have HC:=Lib.hid hc
 have HI:=Lib.hid hi
 have HF:=Lib.hid hf
 have H:=Lib.hid h
 have HIV:=Lib.hid I
 have HFW:=Lib.hid hfew
 obtain ⟨aa,ac,rfl,_⟩:=hc.slice
 obtain ⟨ia,ic,rfl,_⟩:=hi.slice
 obtain ⟨fa,fc,rfl,_⟩:=hf.slice
 have HEV:Hid (EntV x (.slice fa x.fs.length fc) = .agg #[.string (bs x.g),.int .i64 x.c,.slice fa x.fs.length fc,.bool x.any,.int .i64 x.t]):=show _=_ from rfl
 have e0:=HEV.out
 rw [e0]
 obtain ⟨kk,hkk⟩:∃ z,z=keepK f (keyH (bs x.g)):=⟨_,rfl⟩
 have HK3:Hid (kk.length=3):=show _=_ by rw [hkk];rfl
 have HKD:Hid (∀ n∈kk,0<=n∧n<32):=fun n hn=>livesR_dom I.dom (keepK_lives I _ n (hkk ▸ hn))
 have HKK:=Lib.hid hkk
 rw [← hkk]
 clear hc hi hf h I hfew hkk e0
 go_enter Tryz.func26,Tryz.ntmps26
 go_upto_region 1 with (fail)
 obtain ⟨Cb,hCb⟩:∃ z,z=w.heap.size:=⟨_,rfl⟩
 obtain ⟨E,hE⟩:∃ z,z=Cb+1:=⟨_,rfl⟩
 obtain ⟨w1,hw1⟩:∃ z,z=(w.alloc (.cells #[.slice aa (circ f).length ac,.slice ia (circ f).length ic] 38)).alloc (.cells #[.string (bs x.g),.int .i64 x.c,.slice fa x.fs.length fc,.bool x.any,.int .i64 x.t] 79):=⟨_,rfl⟩
 have b1:Below w.heap.size w w1:=by rw [hw1];exact bel_alloc (bel_alloc (Below.refl _ _) _) _
 have y0:w1.cell? ⟨Cb,0,none⟩=some (.slice aa (circ f).length ac):=by rw [hw1,hCb];simp [go_sem]
 have y1:w1.cell? ⟨Cb,1,none⟩=some (.slice ia (circ f).length ic):=by rw [hw1,hCb];simp [go_sem]
 have yz:Cb<w1.heap.size:=by rw [hw1,hCb];simp;omega
 have x0:w1.cell? ⟨E,0,none⟩=some (.string (bs x.g)):=by rw [hw1,hE,hCb];simp [go_sem]
 have x1:w1.cell? ⟨E,1,none⟩=some (.int .i64 x.c):=by rw [hw1,hE,hCb];simp [go_sem]
 have x2:w1.cell? ⟨E,2,none⟩=some (.slice fa x.fs.length fc):=by rw [hw1,hE,hCb];simp [go_sem]
 have x3:w1.cell? ⟨E,3,none⟩=some (.bool x.any):=by rw [hw1,hE,hCb];simp [go_sem]
 have x4:w1.cell? ⟨E,4,none⟩=some (.int .i64 x.t):=by rw [hw1,hE,hCb];simp [go_sem]
 have xz:E<w1.heap.size:=by rw [hw1,hE,hCb];simp
 have hEl:w.heap.size<=E:=by omega
 have CKP:=Lib.hid (keep_any w1 f HIV.out _ _ (HC.out.below b1) (HI.out.below b1) (bs x.g) hg)
 have S1:=Lib.hid (H.out.later b1)
 have B1:=Lib.hid b1
 rw [← hw1]
 try rw [← hCb]
 try rw [← hE]
 clear hw1 hE hCb b1
 go_wp2_with fail
 refine CKP.out.mono ?_
 rintro e w2 ⟨v2,rfl,hs2,hb2⟩
 rw [← HKK.out] at hs2
 obtain ⟨a2,c2,rfl,_⟩:=hs2.slice
 have x0:=(hb2.cell (p:=⟨E,0,none⟩) xz).trans x0
 have x1:=(hb2.cell (p:=⟨E,1,none⟩) xz).trans x1
 have x2:=(hb2.cell (p:=⟨E,2,none⟩) xz).trans x2
 have x3:=(hb2.cell (p:=⟨E,3,none⟩) xz).trans x3
 have x4:=(hb2.cell (p:=⟨E,4,none⟩) xz).trans x4
 have S2:=Lib.hid (S1.out.later hb2)
 obtain ⟨D2,hD2⟩:∃ z:Nat->Prop,z=fun b=>(D b∨(w.heap.size<=b∧b<w1.heap.size))∨(w1.heap.size<=b∧b<w2.heap.size):=⟨_,rfl⟩
 rw [← hD2] at S2
 obtain ⟨S,hS⟩:∃ z:Nat->Prop,z=fun b=>¬ D2 b:=⟨_,rfl⟩
 have hSE:¬ S E:=by rw [hS,hD2];exact fun h=>h (Or.inl (Or.inr ⟨hEl,xz⟩))
 have HDD:Hid (∀ b,D b->D2 b):=show ∀ b,_->_ from fun b hd=>by rw [hD2];exact Or.inl (Or.inl hd)
 have HSS:=Lib.hid hS
 have L2:Hid (SlIn D2 kk w2 (.slice a2 3 c2)):=show SlIn _ _ _ _ from slIn_at (by rw [HK3.out];exact hs2) fun b h1 h2=>by rw [hD2];exact Or.inr ⟨h1,h2⟩
 have F2:Hid (SlT D2 x.fs w2 (.slice fa x.fs.length fc)):=show SlT _ _ _ _ from (HF.out.below (bel_below B1.out hb2)).imp (fun b _ hd=>HDD.out b hd) (Nat.le_refl _) fun _ _ _=>rfl
 have B2:=Lib.hid (bel_below B1.out hb2)
 have xz:=Nat.lt_of_lt_of_le xz hb2.size
 clear hD2 hS hs2 hb2 CKP S1 B1 y0 y1 yz hEl
 go_wp2_with fail
 go_loopw [24] (fun i wr=>∃ k:Nat,k<=3∧i = .int .i64 k∧Hid (StoreW D2 W wr sb mb (putsT x T (kk.take k)))∧Hid (Kept S w2 wr)) (fun i _=>3 - (intOf i).toNat)
 case atStart=>exact ⟨0,by omega,rfl,⟨_,_,S2.out⟩,Kept.refl _ _⟩
 case round =>
  obtain ⟨k,hk,rfl,hSt,hKp⟩:=hrel
  have hsz:=hKp.out.size
  by_cases hlt:k<3
  · have hkI:((k:Nat):Int)<3:=by omega
    have L4:SlAt 0 (fun i=>.int .i64 (nth kk i)) 3 wr (.slice a2 3 c2):=by
     have:=(L2.out.imp (fun _ _ h=>h) hsz fun b hb hd=>hKp.out.block b hb (by rw [HSS.out];exact fun h=>h hd)).slAt
     rwa [HK3.out] at this
    obtain ⟨lb,lo,rfl,_,hlz,hlc⟩:=L4.at k hlt wr (Below.refl _ _)
    have hnd:=HKD.out _ (nth_mem.2 ⟨k,by rw [HK3.out];exact hlt,rfl⟩)
    have HTK:Hid (putsT x T (kk.take (k+1))=putT x (putsT x T (kk.take k)) (nth kk k)):=show _=_ by
     rw [List.take_succ_eq_append_getElem (by rw [HK3.out];exact hlt),putsT_snoc,nth_eq (by rw [HK3.out];exact hlt)]
    have hfew2:=putsT_few x (kk.take k) T HFW.out
    obtain ⟨n,hne⟩:∃ z,z=nth kk k:=⟨_,rfl⟩
    rw [← hne] at hlc hnd HTK
    obtain ⟨Tk,hTk⟩:∃ z,z=putsT x T (kk.take k):=⟨_,rfl⟩
    rw [← hTk] at hSt HTK hfew2
    have hfull:fullB ((Tk n).getD []) x=false:=by
     have:((Tk n).getD []).length<=390+(kk.take k).length:=by
      cases hT:Tk n with
      | none=>simp
      | some l0=>exact hfew2 n l0 hT
     rw [List.length_take] at this
     have h2:¬ 400<=((Tk n).getD []).length:=by omega
     unfold fullB
     simp [h2]
    have HFL:=Lib.hid hfull
    obtain ⟨R3,tb3,hS3⟩:=hSt.out
    have HS3:=Lib.hid hS3
    have x0:=(World.cell?_of_block (hKp.out.block E xz hSE)).trans x0
    have x1:=(World.cell?_of_block (hKp.out.block E xz hSE)).trans x1
    have x2:=(World.cell?_of_block (hKp.out.block E xz hSE)).trans x2
    have x3:=(World.cell?_of_block (hKp.out.block E xz hSE)).trans x3
    have x4:=(World.cell?_of_block (hKp.out.block E xz hSE)).trans x4
    have xzr:=Nat.lt_of_lt_of_le xz hsz
    clear hS3 hSt L4 hne hTk hfew2 hfull
    go_wp2_with fail
    refine wp_region_heads [0,1,3] 5 (fun w'=>∃ x:KeptT S wr,w'=x.world) (by kernel_rfl) (by kernel_rfl) ⟨⟨{ wr with drawn:=wr.drawn+1 },(Kept.refl S wr).drew⟩,rfl⟩ (fun d v c a w h=>by cases d <;> exact h) ?_
    simp only [headOps]
    repeat (refine wpTame_step (fun K hK=>?_);go_simp;refine hK _ ?_;clear hK K)
    refine wpTame_nil ?_
    refine wpAnyC_step (f:=2) [2] (by kernel_rfl) rfl rfl (fun i hi=>?_)
    simp only [List.mem_cons,List.not_mem_nil,or_false] at hi
    subst hi
    refine ⟨_,rfl,fun R hR=>?_⟩
    go_wp2_with fail
    refine (sat_any (HS3.out.keep (RowKit.Below.refl _ _).drew) n hnd.1 hnd.2).mono ?_
    rintro e w3 ⟨R4,tb4,rfl,hS4,hK4⟩
    rw [← HSS.out] at hK4
    have K4:Hid (Kept S wr w3):=((Kept.refl S wr).drew).trans hK4
    have HS4:=Lib.hid hS4
    clear hS4 hK4 HS3
    go_wp2_with fail
    refine hR _ _ ⟨⟨w3,K4.out⟩,rfl⟩ ?_
    clear hR R
    refine wpAnyC_step (f:=1) [4] (by kernel_rfl) rfl rfl (fun i hi=>?_)
    have F3:Hid (SlT D2 x.fs w3 (.slice fa x.fs.length fc)):=show SlT _ _ _ _ from F2.out.imp (fun _ _ h=>h) (Nat.le_trans hsz K4.out.size) fun b hb hd=>(K4.out.block b (Nat.lt_of_lt_of_le hb hsz) (by rw [HSS.out];exact fun h=>h hd)).trans (hKp.out.block b hb (by rw [HSS.out];exact fun h=>h hd))
    have CP:=put_ok (HS4.out.tab n _ (setT_same _ _ _)) x _ F3.out.sls hl HFL.out
    rw [HEV.out] at CP
    have CP:=Lib.hid CP
    simp only [List.mem_cons,List.not_mem_nil,or_false] at hi
    subst hi
    refine ⟨_,rfl,fun R hR=>?_⟩
    go_wp2_with fail
    refine CP.out.mono ?_
    rintro e w4 ⟨rfl,⟨R5,hR5,hT5⟩,hk5⟩
    obtain ⟨hS5,hK5⟩:=HS4.out.turn (setT_same _ _ _) hR5 hT5 hk5
    rw [setT_setT] at hS5
    rw [← HSS.out] at hK5
    have HS5:=Lib.hid hS5
    have K5:Hid (Kept S wr w4):=K4.out.trans hK5
    clear hS5 hK5 hT5 hR5 hk5 CP HS4 K4 F3
    go_wp2_with fail
    refine hR _ _ ⟨⟨w4,K5.out⟩,rfl⟩ ?_
    clear hR R
    refine wpAnyC_end (k:=5) (by decide) rfl rfl (by kernel_rfl) ?_
    go_wp2_with fail
    go_roundw
    case rel=>go_light;exact ⟨k+1,by omega,by go_num,(by show StoreW _ _ _ _ _ _;rw [HTK.out];exact ⟨_,_,HS5.out⟩),hKp.out.trans K5.out⟩
    case measure=>go_light;simp [intOf];omega
  · obtain rfl:k=3:=by omega
    have hkI:¬ ((3:Nat):Int)<3:=by omega
    have hall:kk.take 3=kk:=List.take_of_length_le (by rw [HK3.out];exact Nat.le_refl _)
    rw [hall] at hSt
    go_wp2_with fail
    go_ret
    refine ⟨rfl,?_,((Kept.refl (fun b=>¬ D b) w).below B2.out).trans (hKp.out.more fun b hb hd=>by rw [HSS.out] at hb;exact hb (HDD.out b hd))⟩
    obtain ⟨R6,tb6,h6⟩:=hSt.out
    exact ⟨R6,tb6,h6.less HDD.out⟩
end
end Go.Proofs.YtahiahjhpakeiaaGreatDoor
section
namespace Go.Proofs.YtahiahjhpakeiaaGreatDoor
open Go.RowKit
set_option linter.unusedVariables false
set_option linter.unusedSimpArgs false
set_option linter.unusedSectionVars false
section
variable {α:Type} [Inhabited α] (lt:α->α->Bool)
def elt (L:List α) (i:Nat):α:=L.getD i default
theorem elt_eq {L:List α} {i:Nat} (h:i<L.length):elt L i=L[i]:=by unfold elt;simp [h]
theorem elt_app_left {A B:List α} {i:Nat} (h:i<A.length):elt (A ++ B) i=elt A i:=by
 unfold elt;simp [List.getD_eq_getElem?_getD,List.getElem?_append_left h]
theorem elt_app_right {A B:List α} {i:Nat} (h:A.length<=i):elt (A ++ B) i=elt B (i - A.length):=by
 unfold elt;simp [List.getD_eq_getElem?_getD,List.getElem?_append_right h]
theorem elt_mem {L:List α} {x:α}:x∈L ↔ ∃ i,i<L.length∧elt L i=x:=by
 rw [List.mem_iff_getElem]
 constructor
 · rintro ⟨i,h,e⟩;exact ⟨i,h,by rw [elt_eq h];exact e⟩
 · rintro ⟨i,h,e⟩;exact ⟨i,h,by rw [← elt_eq h];exact e⟩
theorem elt_ext {A B:List α} (h:A.length=B.length) (h2:∀ i,i<A.length->elt A i=elt B i):A=B :=
 List.ext_getElem h fun i h3 h4=>by rw [← elt_eq h3,← elt_eq h4];exact h2 i h3
def swap2 (L:List α) (i j:Nat):List α:=(L.set i (elt L j)).set j (elt L i)
theorem swap2_len (L:List α) (i j:Nat):(swap2 L i j).length=L.length:=by simp [swap2]
theorem swap2_elt (L:List α) {i j:Nat} (hi:i<L.length) (hj:j<L.length) (k:Nat):elt (swap2 L i j) k=if k=j then elt L i else if k=i then elt L j else elt L k:=by
 unfold swap2 elt
 simp only [List.getD_eq_getElem?_getD,List.getElem?_set,List.length_set]
 by_cases h:j=k
 · subst h;simp [hj]
 · by_cases h2:i=k
   · subst h2
     have h':¬ i=j:=fun e=>h e.symm
     simp [h,h',hi]
   · have h':¬ k=j:=fun e=>h e.symm
     have h2':¬ k=i:=fun e=>h2 e.symm
     simp [h,h2,h',h2']
def swapR (L:List α) (a b:Nat):Nat->List α
 | 0=>L
 | k+1=>swap2 (swapR L a b k) (a+k) (b+k)
theorem swapR_len (L:List α) (a b:Nat):∀ n,(swapR L a b n).length=L.length
 | 0=>rfl
 | k+1=>by show (swap2 _ _ _).length=_;rw [swap2_len,swapR_len L a b k]
theorem swapR_elt (L:List α) {a b:Nat}:∀ (n:Nat),a+n<=b->b+n<=L.length -> ∀ i,elt (swapR L a b n) i=if a<=i∧i<a+n then elt L (b+(i - a)) else if b<=i∧i<b+n then elt L (a+(i - b)) else elt L i
 | 0,_,_,i=>by rw [if_neg (by omega),if_neg (by omega)];rfl
 | n+1,h1,h2,i=>by
   have ih:=swapR_elt L (a:=a) (b:=b) n (by omega) (by omega)
   have hl:=swapR_len L a b n
   show elt (swap2 _ _ _) i=_
   rw [swap2_elt _ (by omega) (by omega),ih (a+n),ih (b+n),ih i]
   repeat' split
   all_goals first | (exfalso;omega) | rfl | (congr 1;omega)
theorem swapR_parts (P A M B S:List α) (hA:A.length=B.length) {a b n:Nat} (ha:a=P.length) (hb:b=P.length+A.length+M.length) (hn:n=A.length) :
 swapR (P ++ (A ++ (M ++ (B ++ S)))) a b n=P ++ (B ++ (M ++ (A ++ S))):=by
 subst ha hb hn
 refine elt_ext (by rw [swapR_len];simp;omega) fun i hi=>?_
 rw [swapR_len] at hi
 simp only [List.length_append] at hi
 rw [swapR_elt _ _ (by omega) (by simp;omega)]
 have hcase:i<P.length∨(P.length<=i∧i<P.length+A.length)∨(P.length+A.length<=i∧i<P.length+A.length+M.length)∨(P.length+A.length+M.length<=i∧i<P.length+A.length+M.length+A.length)∨P.length+A.length+M.length+A.length<=i:=by omega
 rcases hcase with c | c | c | c | c
 · rw [if_neg (by omega),if_neg (by omega),elt_app_left c,elt_app_left c]
 · rw [if_pos c,elt_app_right (A:=P) (by omega),elt_app_right (A:=A) (by omega),elt_app_right (A:=M) (by omega),elt_app_left (A:=B) (by omega)]
   rw [elt_app_right (A:=P) (by omega),elt_app_left (A:=B) (by omega)]
   congr 1;omega
 · rw [if_neg (by omega),if_neg (by omega),elt_app_right (A:=P) (by omega),elt_app_right (A:=A) (by omega),elt_app_left (A:=M) (by omega)]
   rw [elt_app_right (A:=P) (by omega),elt_app_right (A:=B) (by omega),elt_app_left (A:=M) (by omega)]
   congr 1;omega
 · rw [if_neg (by omega),if_pos c,elt_app_right (A:=P) (by omega),elt_app_left (A:=A) (by omega)]
   rw [elt_app_right (A:=P) (by omega),elt_app_right (A:=B) (by omega),elt_app_right (A:=M) (by omega),elt_app_left (A:=A) (by omega)]
   congr 1;omega
 · rw [if_neg (by omega),if_neg (by omega),elt_app_right (A:=P) (by omega),elt_app_right (A:=A) (by omega),elt_app_right (A:=M) (by omega),elt_app_right (A:=B) (by omega)]
   rw [elt_app_right (A:=P) (by omega),elt_app_right (A:=B) (by omega),elt_app_right (A:=M) (by omega),elt_app_right (A:=A) (by omega)]
   congr 1;omega
def SortedB (L:List α):Prop:=L.Pairwise fun x y=>lt y x=false
structure Ordered:Prop where
 trans:∀ x y z,lt y x=false->lt z y=false->lt z x=false
 asym:∀ x y,lt x y=true->lt y x=false
variable {lt} (O:Ordered lt)
include O
theorem Ordered.refl (x:α):lt x x=false:=by
 cases h:lt x x with
 | false=>rfl
 | true=>exact (O.asym x x h).symm.trans h |>.symm ▸ rfl
theorem SortedB.le {L:List α} (h:SortedB lt L) {i j:Nat} (hij:i<=j) (hj:j<L.length):lt (elt L j) (elt L i)=false:=by
 rcases Nat.lt_or_ge i j with h1 | h1
 · rw [elt_eq hj,elt_eq (by omega)]
   exact List.pairwise_iff_getElem.1 h i j (by omega) hj h1
 · obtain rfl:i=j:=by omega
   exact O.refl _
theorem cut_ahead {X Y:List α} (hX:SortedB lt X) (hY:SortedB lt Y) {s e:Nat} (hs:s<=X.length) (he:e<=Y.length)
 (c1:s=0∨e=Y.length∨lt (elt Y e) (elt X (s - 1))=false) (c2:s=X.length∨e=0∨lt (elt Y (e - 1)) (elt X s)=true) :
 ∀ u∈X.take s ++ Y.take e,∀ v∈X.drop s ++ Y.drop e,lt v u=false:=by
 have tk:∀ (L:List α) (n:Nat) (x:α),n<=L.length->x∈L.take n -> ∃ i,i<n∧elt L i=x:=fun L n x hn hx=>by
  obtain ⟨i,hi,e⟩:=elt_mem.1 hx
  rw [List.length_take] at hi
  refine ⟨i,by omega,?_⟩
  rw [← e,elt_eq (L:=L.take n) (by rw [List.length_take];exact hi),elt_eq (L:=L) (by omega)];simp
 have dr:∀ (L:List α) (n:Nat) (x:α),x∈L.drop n -> ∃ i,n<=i∧i<L.length∧elt L i=x:=fun L n x hx=>by
  obtain ⟨i,hi,e⟩:=elt_mem.1 hx
  rw [List.length_drop] at hi
  refine ⟨n+i,by omega,by omega,?_⟩
  rw [← e,elt_eq (L:=L.drop n) (by rw [List.length_drop];exact hi),elt_eq (L:=L) (by omega)];simp
 intro u hu v hv
 rcases List.mem_append.1 hu with hu | hu <;> rcases List.mem_append.1 hv with hv | hv
 · obtain ⟨i,hi,rfl⟩:=tk X s u hs hu
   obtain ⟨j,hj,hj2,rfl⟩:=dr X s v hv
   exact hX.le O (by omega) hj2
 · obtain ⟨i,hi,rfl⟩:=tk X s u hs hu
   obtain ⟨j,hj,hj2,rfl⟩:=dr Y e v hv
   rcases c1 with h | h | h
   · omega
   · omega
   · exact O.trans _ _ _ (O.trans _ _ _ (hX.le O (i:=i) (j:=s - 1) (by omega) (by omega)) h) (hY.le O (i:=e) (j:=j) hj hj2)
 · obtain ⟨i,hi,rfl⟩:=tk Y e u he hu
   obtain ⟨j,hj,hj2,rfl⟩:=dr X s v hv
   rcases c2 with h | h | h
   · omega
   · omega
   · exact O.trans _ _ _ (O.trans _ _ _ (hY.le O (i:=i) (j:=e - 1) (by omega) (by omega)) (O.asym _ _ h)) (hX.le O (i:=s) (j:=j) hj hj2)
 · obtain ⟨i,hi,rfl⟩:=tk Y e u he hu
   obtain ⟨j,hj,hj2,rfl⟩:=dr Y e v hv
   exact hY.le O (by omega) hj2
omit O in
theorem SortedB.take {L:List α} (h:SortedB lt L) (n:Nat):SortedB lt (L.take n):=List.Pairwise.sublist (List.take_sublist n L) h
omit O in
theorem SortedB.drop {L:List α} (h:SortedB lt L) (n:Nat):SortedB lt (L.drop n):=List.Pairwise.sublist (List.drop_sublist n L) h
omit O in
theorem merged {X Y Z1 Z2:List α} {s e:Nat} (h1:SortedB lt Z1) (h2:SortedB lt Z2) (p1:Z1.Perm (X.take s ++ Y.take e)) (p2:Z2.Perm (X.drop s ++ Y.drop e))
 (h:∀ u∈X.take s ++ Y.take e,∀ v∈X.drop s ++ Y.drop e,lt v u=false):SortedB lt (Z1 ++ Z2)∧(Z1 ++ Z2).Perm (X ++ Y):=by
 refine ⟨List.pairwise_append.2 ⟨h1,h2,fun u hu v hv=>h u (p1.mem_iff.1 hu) v (p2.mem_iff.1 hv)⟩,?_⟩
 refine (p1.append p2).trans ?_
 have e1:X ++ Y=(X.take s ++ X.drop s) ++ (Y.take e ++ Y.drop e):=by rw [List.take_append_drop,List.take_append_drop]
 rw [e1,List.append_assoc,List.append_assoc]
 refine List.Perm.append_left _ ?_
 rw [← List.append_assoc,← List.append_assoc]
 exact List.Perm.append_right _ List.perm_append_comm
theorem put_sorted {L:List α} (h:SortedB lt L) {x:α} {i:Nat} (hi:i<=L.length) (h1:∀ k,k<i->lt x (elt L k)=false) (h2:∀ k,i<=k->k<L.length->lt (elt L k) x=false) :
 SortedB lt (L.take i ++ x :: L.drop i)∧(L.take i ++ x :: L.drop i).Perm (x :: L):=by
 refine ⟨List.pairwise_append.2 ⟨h.take i,List.pairwise_cons.2 ⟨fun v hv=>?_,h.drop i⟩,fun u hu v hv=>?_⟩,?_⟩
 · obtain ⟨j,hj,e⟩:=elt_mem.1 hv
   rw [List.length_drop] at hj
   have:=h2 (i+j) (by omega) (by omega)
   rw [elt_eq (by omega)] at this
   rw [← e,elt_eq (by rw [List.length_drop];exact hj)]
   simpa using this
 · obtain ⟨j,hj,e⟩:=elt_mem.1 hu
   rw [List.length_take] at hj
   have e':elt L j=u:=by rw [← e,elt_eq (by omega),elt_eq (by rw [List.length_take];exact hj)];simp
   rcases List.mem_cons.1 hv with rfl | hv
   · rw [← e'];exact h1 j (by omega)
   · obtain ⟨k,hk,e2⟩:=elt_mem.1 hv
     rw [List.length_drop] at hk
     have e3:elt L (i+k)=v:=by rw [← e2,elt_eq (by omega),elt_eq (by rw [List.length_drop];exact hk)];simp
     rw [← e',← e3]
     exact h.le O (by omega) (by omega)
 · refine List.perm_middle.trans ?_
   rw [List.take_append_drop]
omit O in
theorem swap_step (P Y1 Y2 S:List α) (x y:α) {a:Nat} (ha:a=P.length+Y1.length):swap2 (P ++ (Y1 ++ x :: (y :: Y2 ++ S))) a (a+1)=P ++ ((Y1 ++ [y]) ++ x :: (Y2 ++ S)):=by
 subst ha
 have:=swapR_parts (P ++ Y1) [x] [] [y] (Y2 ++ S) rfl (a:=P.length+Y1.length) (b:=P.length+Y1.length+1) (n:=1) (by simp) (by simp) rfl
 simpa [swapR] using this
end
end Go.Proofs.YtahiahjhpakeiaaGreatDoor
namespace Go.Proofs.YtahiahjhpakeiaaGreatDoor
open Go.RowKit Go.Maps Go.Sort
set_option linter.unusedVariables false
set_option linter.unusedSimpArgs false
set_option linter.unusedSectionVars false
def mlt (a b:Mv):Bool:=decide (klt a.g a.to b.g b.to)
theorem mlt_ord:Ordered mlt where
 trans:=fun x y z h k=>by
  simp only [mlt,decide_eq_false_iff_not] at *
  intro hz
  rcases klt_tri y.g y.to x.g x.to with a | a | a
  · exact h a
  · rw [a.1,a.2] at k;exact k hz
  · exact k (klt_trans hz a)
 asym:=fun x y h=>by
  simp only [mlt,decide_eq_true_eq,decide_eq_false_iff_not] at *;exact klt_asymm h
theorem mlt_cmp (a b:Mv):mlt a b=decide (cmpK a.g a.to b.g b.to<0):=by
 unfold mlt
 rw [Bool.eq_iff_iff,decide_eq_true_eq,decide_eq_true_eq]
 exact cmpK_lt.symm
def OrdM (l:List Mv):Prop:=l.Pairwise fun a b=>klt a.g a.to b.g b.to
theorem ordM_uniq {a b:List Mv} (ha:OrdM a) (hb:OrdM b) (h:∀ x,x∈a↔x∈b):a=b:=pw_uniq (fun _ _ h=>klt_asymm h) ha hb h
theorem ordM_of {l:List Mv} (h:SortedB mlt l) (hk:(l.map fun m=>(m.g,m.to)).Nodup):OrdM l:=by
 have h2:l.Pairwise fun a b=>(a.g,a.to)≠(b.g,b.to):=List.pairwise_map.1 hk
 refine (h.and h2).imp fun {a b} hab=>?_
 obtain ⟨h3,h4⟩:=hab
 simp only [mlt,decide_eq_false_iff_not] at h3
 rcases klt_tri a.g a.to b.g b.to with q | q | q
 · exact q
 · exact absurd (Prod.ext q.1 q.2) h4
 · exact absurd q h3
def mvCells (m:Mv):List Value:=[sV m.g,.int .i64 m.fr,.int .i64 m.to]
structure MvC (w:World) (b o:Nat) (m:Mv):Prop where
 c0:w.cell? ⟨b,o,none⟩=some (.string (bs m.g))
 c1:w.cell? ⟨b,o+1,none⟩=some (.int .i64 m.fr)
 c2:w.cell? ⟨b,o+2,none⟩=some (.int .i64 m.to)
theorem MvC.same {w w':World} {b o:Nat} {m:Mv} (h:MvC w b o m) (hb:w'.heap[b]? = w.heap[b]?):MvC w' b o m :=
 ⟨(World.cell?_of_block hb).trans h.c0,(World.cell?_of_block hb).trans h.c1,(World.cell?_of_block hb).trans h.c2⟩
structure MvIn (w:World) (q:Nat) (l:List Mv):Prop where
 all:∀ k,k<l.length->MvC w q (k * 3) (elt l k)
 fz:∀ o,w.frozen? ⟨q,o,none⟩=false
 lt:q<w.heap.size
theorem MvIn.same {w w':World} {q:Nat} {l:List Mv} (h:MvIn w q l) (hs:w.heap.size<=w'.heap.size) (hb:w'.heap[q]? = w.heap[q]?):MvIn w' q l :=
 ⟨fun k hk=>(h.all k hk).same hb,fun o=>(World.frozen?_of_block hb).trans (h.fz o),Nat.lt_of_lt_of_le h.lt hs⟩
theorem MvIn.below {w w':World} {q:Nat} {l:List Mv} (h:MvIn w q l) (hb:Below w.heap.size w w'):MvIn w' q l:=h.same hb.size (hb.block _ h.lt)
theorem elt_set {l:List Mv} {i:Nat} (hi:i<l.length) (m:Mv) (k:Nat):elt (l.set i m) k=if k=i then m else elt l k:=by
 unfold elt
 simp only [List.getD_eq_getElem?_getD,List.getElem?_set]
 by_cases h:i=k
 · subst h;simp [hi]
 · have:¬ k=i:=fun e=>h e.symm
   simp [h,this]
theorem MvIn.set {w:World} {q:Nat} {l:List Mv} (h:MvIn w q l) {i:Nat} (hi:i<l.length) (m:Mv):MvIn (w.setCells q (i * 3) (mvCells m)) q (l.set i m) where
 all:=fun k hk=>by
  rw [List.length_set] at hk
  rw [elt_set hi]
  have hs:∀ j,j<(mvCells m).length->(w.cell? ⟨q,i * 3+j,none⟩).isSome=true:=fun j hj=>by
   have hj3:j<3:=hj
   have a:=h.all i hi
   have:j=0∨j=1∨j=2:=by omega
   rcases this with rfl | rfl | rfl
   · rw [Nat.add_zero,a.c0];rfl
   · rw [a.c1];rfl
   · rw [a.c2];rfl
  by_cases e:k=i
  · subst e
    rw [if_pos rfl]
    have z:=World.cell?_setCells_in q (mvCells m) (k * 3) w hs
    exact ⟨z 0 (by show 0<3;omega),z 1 (by show 1<3;omega),z 2 (by show 2<3;omega)⟩
  · rw [if_neg e]
    have a:=h.all k hk
    have z:∀ j,j<3->(w.setCells q (i * 3) (mvCells m)).cell? ⟨q,k * 3+j,none⟩=w.cell? ⟨q,k * 3+j,none⟩:=fun j hj =>
     World.cell?_setCells_out q _ _ _ _ (fun _ _=>by show k * 3+j<i * 3∨i * 3+3<=k * 3+j;omega)
    exact ⟨(z 0 (by omega)).trans a.c0,(z 1 (by omega)).trans a.c1,(z 2 (by omega)).trans a.c2⟩
 fz:=fun o=>by rw [World.frozen?_setCells];exact h.fz o
 lt:=by rw [size_setCells_e];exact h.lt
theorem MvIn.swap {w:World} {q:Nat} {l:List Mv} (h:MvIn w q l) {i j:Nat} (hi:i<l.length) (hj:j<l.length) :
 MvIn ((w.setCells q (i * 3) (mvCells (elt l j))).setCells q (j * 3) (mvCells (elt l i))) q (swap2 l i j) :=
 (h.set hi (elt l j)).set (by rw [List.length_set];exact hj) (elt l i)
theorem kept_swap {S:Nat->Prop} {q:Nat} (w:World) (a b:Nat) (x y:List Value) (hS:S q):Kept S w ((w.setCells q a x).setCells q b y) :=
 (kept_setCells q a x w hS).trans (kept_setCells q b y _ hS)
theorem MvIn.drew {w:World} {q:Nat} {l:List Mv} (h:MvIn w q l):MvIn w.drew q l:=h.same (Nat.le_refl _) rfl
section
variable {α:Type} [Inhabited α] {lt:α->α->Bool}
theorem elt_in {P X S:List α} {k:Nat} (hk:k<X.length):elt (P ++ (X ++ S)) (P.length+k)=elt X k:=by
 rw [elt_app_right (by omega),Nat.add_sub_cancel_left,elt_app_left hk]
theorem elt_in2 {P X Y S:List α} {k:Nat} (hk:k<Y.length):elt (P ++ (X ++ (Y ++ S))) (P.length+X.length+k)=elt Y k:=by
 have:=elt_in (P:=P ++ X) (X:=Y) (S:=S) hk
 rwa [List.append_assoc,List.length_append] at this
theorem take_snoc {L:List α} {n:Nat} (hn:n<L.length):L.take (n+1)=L.take n ++ [elt L n]:=by
 rw [List.take_succ_eq_append_getElem hn,elt_eq hn]
theorem drop_head {L:List α} {n:Nat} (hn:n<L.length):L.drop n=elt L n :: L.drop (n+1):=by
 rw [elt_eq hn];exact List.drop_eq_getElem_cons hn
theorem swap2_comm (L:List α) {i j:Nat} (hi:i<L.length) (hj:j<L.length):swap2 L i j=swap2 L j i :=
 elt_ext (by rw [swap2_len,swap2_len]) fun k hk=>by
  rw [swap2_elt _ hi hj,swap2_elt _ hj hi]
  by_cases h1:k=j
  · by_cases h2:k=i
    · rw [if_pos h1,if_pos h2,← h1,← h2]
    · rw [if_pos h1,if_neg h2,if_pos h1]
  · rw [if_neg h1]
    by_cases h2:k=i
    · rw [if_pos h2,if_pos h2]
    · rw [if_neg h2,if_neg h2,if_neg h1]
theorem swap2_mid (P S:List α) (x y:α):swap2 (P ++ (x :: y :: S)) P.length (P.length+1)=P ++ (y :: x :: S):=by
 have:=swap_step P [] [] S x y (a:=P.length) (by simp)
 simpa using this
theorem swap2_mid' (P S:List α) (x y:α):swap2 (P ++ (x :: y :: S)) (P.length+1) P.length=P ++ (y :: x :: S):=by
 rw [swap2_comm _ (by simp) (by simp)];exact swap2_mid P S x y
end
end Go.Proofs.YtahiahjhpakeiaaGreatDoor
end
