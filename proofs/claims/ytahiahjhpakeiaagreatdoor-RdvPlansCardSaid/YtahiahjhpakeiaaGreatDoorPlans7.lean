/-
  The document's Stabilize.
-/
import Derived.Test.YtahiahjhpakeiaaGreatDoorPlans1
import Derived.Test.YtahiahjhpakeiaaGreatDoorPlans3
section
namespace Go.Proofs.YtahiahjhpakeiaaGreatDoor
open Go.RowKit Go.Maps Go.Sort
set_option linter.unusedVariables false
set_option linter.unusedSimpArgs false
attribute [local go_sem] later_cell later_frozen later_lt cell_set_off cell_set_block
noncomputable def boolI:TypeInfo:=(Tryz.prog.info? 4).get (by kernel_rfl)
theorem boolI_at:Tryz.prog.info? 4=some boolI:=by kernel_rfl
noncomputable def rpeerI:TypeInfo:=(Tryz.prog.info? 126).get (by kernel_rfl)
theorem rpeerI_at:Tryz.prog.info? 126=some rpeerI:=by kernel_rfl
variable {Q:Nat->Prop} {w:World} {p:Where} {f:RS} {V:Nat->Value}
theorem row_of_owns {w:World} {base e s:Nat} {v:Value} {g:Nat->Value} (hs:0<s) {news:List Value} (hn:news=(List.range (32 * s)).map g) (h:w.ownsRow base e s v 32 news) :
 ∃ b cap,v = .slice (some ⟨b,0,none⟩) 32 cap∧v.ownBlock=some b∧base<=b∧Row32 (fun b=>base<=b) w s g b 0 cap ∧ ∀ o,w.frozen? ⟨b,o,none⟩=false:=by
 subst hn
 have hc:=fun g hg=>h.cells (g:=g) hg
 rcases h.2 with ⟨rfl,h0⟩ | ⟨b,cap,cur,rfl,hB,hg,hn,hm,hz,ht⟩
 · omega
 · refine ⟨b,cap,rfl,rfl,hB,⟨by omega,hm,hB,(Array.getElem?_eq_some_iff.1 hg).1,fun j hj=>?_⟩,fun o=>?_⟩
   · have:=hc b rfl j (g j) (by simp [hj])
     rw [show ((⟨b,0,none⟩:Addr).add j)=⟨b,0+j,none⟩ from by unfold Addr.add;by_cases e:j=0 <;> simp [e]] at this
     exact this
   · unfold World.frozen?
     simp [hg]
theorem own_nil (w:World) (e B s g:Nat) (hg:g=w.heap.size) (hB:B<=w.heap.size):(w.alloc (.cells #[] e)).ownsRow B e s (.slice (some ⟨g,0,none⟩) 0 0) 0 []:=by
 subst hg;exact World.ownsRow_made w #[] 0 hB (Nat.zero_le _) (by simp)
theorem peerC_one {f:RS} {V:Nat->Value} (hV:∀ k,k<32->(V k).oneCell'=true) (j:Nat) (hj:j<32 * 3):(peerC f V j).oneCell'=true:=by
 unfold peerC;split
 · rfl
 · split
   · rfl
   · exact hV _ (by omega)
structure CopySt (w u:World) (p:Where) (T:Nat) (t0 t1 t2 t3:Value):Prop where
 q1:u.cell? ⟨w.heap.size,1,none⟩=some (.slice (some ⟨p.b2,p.o2,none⟩) 32 p.k2)
 q2:u.cell? ⟨w.heap.size,2,none⟩=some (.slice (some ⟨p.b3,p.o3,none⟩) 32 p.k3)
 q3:u.cell? ⟨w.heap.size,3,none⟩=some (.slice (some ⟨p.b4,p.o4,none⟩) 32 p.k4)
 r0:u.cell? ⟨w.heap.size+1,0,none⟩=some (.slice none 0 0)
 r1:u.cell? ⟨w.heap.size+1,1,none⟩=some (.slice none 0 0)
 r2:u.cell? ⟨w.heap.size+1,2,none⟩=some (.slice none 0 0)
 r3:u.cell? ⟨w.heap.size+1,3,none⟩=some (.slice none 0 0)
 rf:∀ o,u.frozen? ⟨w.heap.size+1,o,none⟩=false
 t0:u.cell? ⟨T,0,none⟩=some t0
 t1:u.cell? ⟨T,1,none⟩=some t1
 t2:u.cell? ⟨T,2,none⟩=some t2
 t3:u.cell? ⟨T,3,none⟩=some t3
 tf:∀ o,u.frozen? ⟨T,o,none⟩=false
 zT:T<u.heap.size
 hT:w.heap.size+1<T
 below:RowKit.Below w.heap.size w u
theorem CopySt.later {w u u':World} {p:Where} {T:Nat} {t0 t1 t2 t3:Value} (h:CopySt w u p T t0 t1 t2 t3) (hb:RowKit.Below u.heap.size u u'):CopySt w u' p T t0 t1 t2 t3:=by
 have h1:=h.zT
 have h2:=h.hT
 have c:=fun b o (hz:b<u.heap.size)=>hb.cell (p:=⟨b,o,none⟩) hz
 have fz:=fun b o (hz:b<u.heap.size)=>hb.frozen (p:=⟨b,o,none⟩) hz
 exact ⟨(c _ _ (by omega)).trans h.q1,(c _ _ (by omega)).trans h.q2,(c _ _ (by omega)).trans h.q3,(c _ _ (by omega)).trans h.r0,(c _ _ (by omega)).trans h.r1,(c _ _ (by omega)).trans h.r2,(c _ _ (by omega)).trans h.r3,fun o=>(fz _ o (by omega)).trans (h.rf o),
  (c _ _ h1).trans h.t0,(c _ _ h1).trans h.t1,(c _ _ h1).trans h.t2,(c _ _ h1).trans h.t3,fun o=>(fz _ o h1).trans (h.tf o),Nat.lt_of_lt_of_le h1 hb.size,h2,bel_below h.below hb⟩
theorem CopySt.put {w u u':World} {p:Where} {T:Nat} {t0 t1 t2 t3:Value} (h:CopySt w u p T t0 t1 t2 t3) (k:Nat) (v:Value) (hu:u'=u.setCell ⟨T,k,none⟩ v) {s0 s1 s2 s3:Value}
 (e0:s0=if 0=k then v else t0) (e1:s1=if 1=k then v else t1) (e2:s2=if 2=k then v else t2) (e3:s3=if 3=k then v else t3):CopySt w u' p T s0 s1 s2 s3:=by
 have h2:=h.hT
 subst hu e0 e1 e2 e3
 have c:=fun b o (hz:b≠T)=>cell_set_block u T b k o v (Ne.symm hz)
 have ct:=fun o t (ho:u.cell? ⟨T,o,none⟩=some t)=>(by
  by_cases e:o=k
  · subst e;rw [if_pos rfl];exact World.cell?_setCell_same _ _ _ ho
  · rw [if_neg e,cell_set_off _ _ _ _ _ (Ne.symm e)];exact ho:(u.setCell ⟨T,k,none⟩ v).cell? ⟨T,o,none⟩=some (if o=k then v else t))
 refine ⟨(c _ _ (by omega)).trans h.q1,(c _ _ (by omega)).trans h.q2,(c _ _ (by omega)).trans h.q3,(c _ _ (by omega)).trans h.r0,(c _ _ (by omega)).trans h.r1,(c _ _ (by omega)).trans h.r2,(c _ _ (by omega)).trans h.r3,fun o=>by rw [World.frozen?_setCell];exact h.rf o,
  ct _ _ h.t0,ct _ _ h.t1,ct _ _ h.t2,ct _ _ h.t3,fun o=>by rw [World.frozen?_setCell];exact h.tf o,by rw [size_set];exact h.zT,h2,?_⟩
 exact bel_set h.below (by dsimp only;omega) v
set_option maxRecDepth 100000 in
set_option maxHeartbeats 4000000 in
theorem rcopy_any (h:RefRows Q w p f V) (hV:∀ k,k<32->(V k).oneCell'=true):Calls Tryz.prog 103 #[(.agg #[.slice (some ⟨p.b1,p.o1,none⟩) 32 p.k1,.slice (some ⟨p.b2,p.o2,none⟩) 32 p.k2,.slice (some ⟨p.b3,p.o3,none⟩) 32 p.k3,.slice (some ⟨p.b4,p.o4,none⟩) 32 p.k4])] w fun e w' =>
 ∃ p':Where,e = .returned (.agg #[.slice (some ⟨p'.b1,p'.o1,none⟩) 32 p'.k1,.slice (some ⟨p'.b2,p'.o2,none⟩) 32 p'.k2,.slice (some ⟨p'.b3,p'.o3,none⟩) 32 p'.k3,.slice (some ⟨p'.b4,p'.o4,none⟩) 32 p'.k4])∧RefRows (fun b=>w.heap.size<=b) w' p' f V∧FreshRows w.heap.size w' p'∧RowKit.Below w.heap.size w w':=by
 obtain ⟨i1,hi1,hz1,hs1,hb1b⟩:∃ i0,Tryz.prog.info? 4=some i0∧i0.zero=some (Value.bool false)∧i0.size=1∧i0.bytes=1:=⟨boolI,boolI_at,by kernel_rfl,by kernel_rfl,by kernel_rfl⟩
 obtain ⟨i3,hi3,hz3,hs3,hb3b⟩:∃ i0,Tryz.prog.info? 42=some i0∧i0.zero=some (Value.int .u64 0)∧i0.size=1∧i0.bytes=8:=⟨u64I,u64I_at,by kernel_rfl,by kernel_rfl,by kernel_rfl⟩
 obtain ⟨i4,hi4,hz4,hs4,hb4b⟩:∃ i0,Tryz.prog.info? 126=some i0∧i0.zero=some (.agg #[.int .u64 0,.int .i64 0,.slice none 0 0])∧i0.size=3∧i0.bytes=40:=⟨rpeerI,rpeerI_at,by kernel_rfl,by kernel_rfl,by kernel_rfl⟩
 have HR:=Lib.hid h
 clear h
 obtain ⟨N1,hN1⟩:∃ N,N=(List.range (32 * 1)).map (fun k=>Value.bool (f (k:Nat)).isSome):=⟨_,rfl⟩
 obtain ⟨N2,hN2⟩:∃ N,N=(List.range (32 * 1)).map (fun k=>Value.bool (livesR f (k:Nat))):=⟨_,rfl⟩
 obtain ⟨N3,hN3⟩:∃ N,N=(List.range (32 * 1)).map (fun k=>Value.int .u64 (idR f (k:Nat))):=⟨_,rfl⟩
 obtain ⟨N4,hN4⟩:∃ N,N=(List.range (32 * 3)).map (peerC f V):=⟨_,rfl⟩
 have HN1:=Lib.hid hN1
 have HN2:=Lib.hid hN2
 have HN3:=Lib.hid hN3
 have HN4:=Lib.hid hN4
 clear hN1 hN2 hN3 hN4
 go_enter Tryz.func103,Tryz.ntmps103
 go_wp2_with (at_builtin;refine wpList_app_wide rfl _ _ 26 rfl (w.heap.size+1+1) 4 i1 (.bool false) 1 1 Tryz.underlying26 hi1 hz1 hs1 hb1b rfl (by decide) _ 0 [] rfl (own_nil _ 4 _ 1 _ ?c0 ?c1) p.b1 p.o1 32 p.k1 (fun k=>.bool (f (k:Nat)).isSome) rfl (by decide) ?c2 (fun _ _=>rfl) (by simp [maxLen]) (by decide) ?c3 N1 HN1.out ?_)
 case c0=>simp
 case c1=>simp
 case c3=>simp
 case c2=>exact (HR.out.below (by (repeat (first | exact Below.refl _ _ | (with_reducible assumption) | (with_reducible refine bel_later ?_ _) | (with_reducible refine bel_alloc ?_ _) | (with_reducible refine bel_drew ?_) | (with_reducible refine bel_drewN ?_ _) | (with_reducible refine bel_set ?_ (by first | (simp;done) | (simp;omega) | (dsimp only;omega)) _))))).used.cell
 intro v1 w1 ho1 hg1 hr1
 have HB1:RowKit.Below w.heap.size w w1:=RowKit.Below.grown (by (repeat (first | exact Below.refl _ _ | (with_reducible assumption) | (with_reducible refine bel_later ?_ _) | (with_reducible refine bel_alloc ?_ _) | (with_reducible refine bel_drew ?_) | (with_reducible refine bel_drewN ?_ _) | (with_reducible refine bel_set ?_ (by first | (simp;done) | (simp;omega) | (dsimp only;omega)) _)))) hg1 (by simp;omega) (fun k hk=>by simp [Value.ownBlock] at hk;omega)
 have hold:=fun b (hb:b<w.heap.size+1+1)=>hg1.block b (by simp;omega) (by simp [Value.ownBlock];omega)
 have z1:w.heap.size+1+1+1<=w1.heap.size:=by have:=hg1.size;simp at this;omega
 obtain ⟨b1,k1,rfl,_,hb1,R1,F1⟩:=row_of_owns (s:=1) (by decide) HN1.out ho1
 go_upto_region 2 with (fail)
 obtain ⟨u1,hu1⟩:∃ u,u=w1.alloc (.cells #[.slice (some ⟨b1,0,none⟩) 32 k1,.slice none 0 0,.slice none 0 0,.slice none 0 0] 32):=⟨_,rfl⟩
 obtain ⟨T,hT⟩:∃ T,T=w1.heap.size:=⟨_,rfl⟩
 have zT1:T<u1.heap.size:=by rw [hT,hu1];simp
 have BU:RowKit.Below w1.heap.size w1 u1:=by rw [hu1];exact bel_alloc (RowKit.Below.refl _ _) _
 have C1:Hid (CopySt w u1 p T (.slice (some ⟨b1,0,none⟩) 32 k1) (.slice none 0 0) (.slice none 0 0) (.slice none 0 0)):=by
  have c:=fun b o (hb:b<w.heap.size+1+1)=>(BU.cell (p:=⟨b,o,none⟩) (by dsimp only;omega)).trans (World.cell?_of_block (a:=⟨b,o,none⟩) (hold b hb))
  refine ⟨?_,?_,?_,?_,?_,?_,?_,fun o=>?_,by rw [hu1,hT];simp [go_sem],by rw [hu1,hT];simp [go_sem],by rw [hu1,hT];simp [go_sem],by rw [hu1,hT];simp [go_sem],fun o=>by rw [hu1,hT];simp [go_sem],zT1,by omega,bel_below HB1 BU⟩
  · rw [c _ _ (by omega)];simp [go_sem]
  · rw [c _ _ (by omega)];simp [go_sem]
  · rw [c _ _ (by omega)];simp [go_sem]
  · rw [c _ _ (by omega)];simp [go_sem]
  · rw [c _ _ (by omega)];simp [go_sem]
  · rw [c _ _ (by omega)];simp [go_sem]
  · rw [c _ _ (by omega)];simp [go_sem]
  · rw [BU.frozen (p:=⟨_,o,none⟩) (by dsimp only;omega),World.frozen?_of_block (a:=⟨w.heap.size+1,o,none⟩) (hold (w.heap.size+1) (by omega))];simp [go_sem]
 have l1:b1<T:=by rw [hT];exact R1.z
 have ROW1:Hid (Row32 (fun b=>w.heap.size<=b) u1 1 (fun k=>.bool (f (k:Nat)).isSome) b1 0 k1):=R1.imp (fun h=>by omega) BU.size (BU.block _ R1.z)
 have FR1:Hid (∀ o,u1.frozen? ⟨b1,o,none⟩=false):=fun o=>(BU.frozen (p:=⟨b1,o,none⟩) R1.z).trans (F1 o)
 rw [← hu1,← hT]
 clear ho1 hg1 hr1 R1 F1 hold HB1 BU hu1 hT z1
 have r0:=C1.out.q1
 have z0:=C1.out.zT
 have h0:=C1.out.hT
 have zq:w.heap.size<u1.heap.size:=by omega
 have tt:=C1.out.t1
 have tf:=C1.out.tf 1
 go_wp2_with (at_builtin;refine wpList_app_wide rfl _ _ 26 rfl (u1.heap.size) 4 i1 (.bool false) 1 1 Tryz.underlying26 hi1 hz1 hs1 hb1b rfl (by decide) _ 0 [] rfl (own_nil _ 4 _ 1 _ ?c0 ?c1) p.b2 p.o2 32 p.k2 (fun k=>.bool (livesR f (k:Nat))) rfl (by decide) ?c2 (fun _ _=>rfl) (by simp [maxLen]) (by decide) ?c3 N2 HN2.out ?_)
 case c0=>simp
 case c1=>simp
 case c3=>simp
 case c2=>exact ((HR.out.below C1.out.below).below (by (repeat (first | exact Below.refl _ _ | (with_reducible assumption) | (with_reducible refine bel_later ?_ _) | (with_reducible refine bel_alloc ?_ _) | (with_reducible refine bel_drew ?_) | (with_reducible refine bel_drewN ?_ _) | (with_reducible refine bel_set ?_ (by first | (simp;done) | (simp;omega) | (dsimp only;omega)) _))))).live.cell
 intro v2 w2 ho hg hr
 have HB:RowKit.Below u1.heap.size u1 w2:=RowKit.Below.grown (by (repeat (first | exact Below.refl _ _ | (with_reducible assumption) | (with_reducible refine bel_later ?_ _) | (with_reducible refine bel_alloc ?_ _) | (with_reducible refine bel_drew ?_) | (with_reducible refine bel_drewN ?_ _) | (with_reducible refine bel_set ?_ (by first | (simp;done) | (simp;omega) | (dsimp only;omega)) _)))) hg (by simp) (fun k hk=>by simp [Value.ownBlock] at hk;omega)
 obtain ⟨b2,k2,rfl,_,hb2,R,F⟩:=row_of_owns (s:=1) (by decide) HN2.out ho
 have CW:=Lib.hid (C1.out.later HB)
 have ROWW1:=Lib.hid (ROW1.out.imp (fun h=>h) HB.size (HB.block _ ROW1.out.z))
 have FRW1:Hid (∀ o,w2.frozen? ⟨b1,o,none⟩=false):=fun o=>(HB.frozen (p:=⟨b1,o,none⟩) ROW1.out.z).trans (FR1.out o)
 have tt:=CW.out.t1
 have tf:=CW.out.tf 1
 have zw:=CW.out.zT
 go_upto_region 3 with (fail)
 obtain ⟨u2,hu⟩:∃ u,u=w2.setCell ⟨T,1,none⟩ (.slice (some ⟨b2,0,none⟩) 32 k2):=⟨_,rfl⟩
 have C2:Hid (CopySt w u2 p T (.slice (some ⟨b1,0,none⟩) 32 k1) (.slice (some ⟨b2,0,none⟩) 32 k2) (.slice none 0 0) (.slice none 0 0)):=CW.out.put 1 _ hu rfl rfl rfl rfl
 have l2:T<b2:=by omega
 have ROW2:Hid (Row32 (fun b=>w.heap.size<=b) u2 1 (fun k=>.bool (livesR f (k:Nat))) b2 0 k2):=by
  rw [hu];exact (R.imp (fun h=>by omega) (Nat.le_refl _) rfl).other _ _ (by omega) _
 have FR2:Hid (∀ o,u2.frozen? ⟨b2,o,none⟩=false):=fun o=>by rw [hu,World.frozen?_setCell];exact F o
 have hx2:u1.heap.size<=b2:=by omega
 have y21:b1<b2:=by have:=ROW1.out.z;omega
 have ROWX1:Hid (Row32 (fun b=>w.heap.size<=b) u2 1 (fun k=>.bool (f (k:Nat)).isSome) b1 0 k1):=by rw [hu];exact ROWW1.out.other _ _ (by omega) _
 have FRX1:Hid (∀ o,u2.frozen? ⟨b1,o,none⟩=false):=fun o=>by rw [hu,World.frozen?_setCell];exact FRW1.out o
 rw [← hu]
 clear hu ho hg hr R F HB CW tt tf zw r0 z0 h0 zq hx2 ROW1 ROWW1 FR1 FRW1 C1
 have ROW1:=ROWX1
 have FR1:=FRX1
 clear ROWX1 FRX1
 have r0:=C2.out.q2
 have z0:=C2.out.zT
 have h0:=C2.out.hT
 have zq:w.heap.size<u2.heap.size:=by omega
 have tt:=C2.out.t2
 have tf:=C2.out.tf 2
 go_wp2_with (at_builtin;refine wpList_app_wide rfl _ _ 27 rfl (u2.heap.size) 42 i3 (.int .u64 0) 1 8 Tryz.underlying27 hi3 hz3 hs3 hb3b rfl (by decide) _ 0 [] rfl (own_nil _ 42 _ 1 _ ?c0 ?c1) p.b3 p.o3 32 p.k3 (fun k=>.int .u64 (idR f (k:Nat))) rfl (by decide) ?c2 (fun _ _=>rfl) (by simp [maxLen]) (by decide) ?c3 N3 HN3.out ?_)
 case c0=>simp
 case c1=>simp
 case c3=>simp
 case c2=>exact ((HR.out.below C2.out.below).below (by (repeat (first | exact Below.refl _ _ | (with_reducible assumption) | (with_reducible refine bel_later ?_ _) | (with_reducible refine bel_alloc ?_ _) | (with_reducible refine bel_drew ?_) | (with_reducible refine bel_drewN ?_ _) | (with_reducible refine bel_set ?_ (by first | (simp;done) | (simp;omega) | (dsimp only;omega)) _))))).ids.cell
 intro v3 w3 ho hg hr
 have HB:RowKit.Below u2.heap.size u2 w3:=RowKit.Below.grown (by (repeat (first | exact Below.refl _ _ | (with_reducible assumption) | (with_reducible refine bel_later ?_ _) | (with_reducible refine bel_alloc ?_ _) | (with_reducible refine bel_drew ?_) | (with_reducible refine bel_drewN ?_ _) | (with_reducible refine bel_set ?_ (by first | (simp;done) | (simp;omega) | (dsimp only;omega)) _)))) hg (by simp) (fun k hk=>by simp [Value.ownBlock] at hk;omega)
 obtain ⟨b3,k3,rfl,_,hb3,R,F⟩:=row_of_owns (s:=1) (by decide) HN3.out ho
 have CW:=Lib.hid (C2.out.later HB)
 have ROWW1:=Lib.hid (ROW1.out.imp (fun h=>h) HB.size (HB.block _ ROW1.out.z))
 have FRW1:Hid (∀ o,w3.frozen? ⟨b1,o,none⟩=false):=fun o=>(HB.frozen (p:=⟨b1,o,none⟩) ROW1.out.z).trans (FR1.out o)
 have ROWW2:=Lib.hid (ROW2.out.imp (fun h=>h) HB.size (HB.block _ ROW2.out.z))
 have FRW2:Hid (∀ o,w3.frozen? ⟨b2,o,none⟩=false):=fun o=>(HB.frozen (p:=⟨b2,o,none⟩) ROW2.out.z).trans (FR2.out o)
 have tt:=CW.out.t2
 have tf:=CW.out.tf 2
 have zw:=CW.out.zT
 go_upto_region 4 with (fail)
 obtain ⟨u3,hu⟩:∃ u,u=w3.setCell ⟨T,2,none⟩ (.slice (some ⟨b3,0,none⟩) 32 k3):=⟨_,rfl⟩
 have C3:Hid (CopySt w u3 p T (.slice (some ⟨b1,0,none⟩) 32 k1) (.slice (some ⟨b2,0,none⟩) 32 k2) (.slice (some ⟨b3,0,none⟩) 32 k3) (.slice none 0 0)):=CW.out.put 2 _ hu rfl rfl rfl rfl
 have l3:T<b3:=by omega
 have ROW3:Hid (Row32 (fun b=>w.heap.size<=b) u3 1 (fun k=>.int .u64 (idR f (k:Nat))) b3 0 k3):=by
  rw [hu];exact (R.imp (fun h=>by omega) (Nat.le_refl _) rfl).other _ _ (by omega) _
 have FR3:Hid (∀ o,u3.frozen? ⟨b3,o,none⟩=false):=fun o=>by rw [hu,World.frozen?_setCell];exact F o
 have hx3:u2.heap.size<=b3:=by omega
 have y31:b1<b3:=by have:=ROW1.out.z;omega
 have ROWX1:Hid (Row32 (fun b=>w.heap.size<=b) u3 1 (fun k=>.bool (f (k:Nat)).isSome) b1 0 k1):=by rw [hu];exact ROWW1.out.other _ _ (by omega) _
 have FRX1:Hid (∀ o,u3.frozen? ⟨b1,o,none⟩=false):=fun o=>by rw [hu,World.frozen?_setCell];exact FRW1.out o
 have y32:b2<b3:=by have:=ROW2.out.z;omega
 have ROWX2:Hid (Row32 (fun b=>w.heap.size<=b) u3 1 (fun k=>.bool (livesR f (k:Nat))) b2 0 k2):=by rw [hu];exact ROWW2.out.other _ _ (by omega) _
 have FRX2:Hid (∀ o,u3.frozen? ⟨b2,o,none⟩=false):=fun o=>by rw [hu,World.frozen?_setCell];exact FRW2.out o
 rw [← hu]
 clear hu ho hg hr R F HB CW tt tf zw r0 z0 h0 zq hx3 ROW1 ROWW1 FR1 FRW1 ROW2 ROWW2 FR2 FRW2 C2
 have ROW1:=ROWX1
 have FR1:=FRX1
 clear ROWX1 FRX1
 have ROW2:=ROWX2
 have FR2:=FRX2
 clear ROWX2 FRX2
 have r0:=C3.out.q3
 have z0:=C3.out.zT
 have h0:=C3.out.hT
 have zq:w.heap.size<u3.heap.size:=by omega
 have tt:=C3.out.t3
 have tf:=C3.out.tf 3
 go_wp2_with (at_builtin;refine wpList_app_wide rfl _ _ 30 rfl (u3.heap.size) 126 i4 (.agg #[.int .u64 0,.int .i64 0,.slice none 0 0]) 3 40 Tryz.underlying30 hi4 hz4 hs4 hb4b rfl (by decide) _ 0 [] rfl (own_nil _ 126 _ 3 _ ?c0 ?c1) p.b4 p.o4 32 p.k4 (peerC f V) rfl (by decide) ?c2 (peerC_one hV) (by simp [maxLen]) (by decide) ?c3 N4 HN4.out ?_)
 case c0=>simp
 case c1=>simp
 case c3=>simp
 case c2=>exact ((HR.out.below C3.out.below).below (by (repeat (first | exact Below.refl _ _ | (with_reducible assumption) | (with_reducible refine bel_later ?_ _) | (with_reducible refine bel_alloc ?_ _) | (with_reducible refine bel_drew ?_) | (with_reducible refine bel_drewN ?_ _) | (with_reducible refine bel_set ?_ (by first | (simp;done) | (simp;omega) | (dsimp only;omega)) _))))).peers.cell
 intro v4 w4 ho hg hr
 have HB:RowKit.Below u3.heap.size u3 w4:=RowKit.Below.grown (by (repeat (first | exact Below.refl _ _ | (with_reducible assumption) | (with_reducible refine bel_later ?_ _) | (with_reducible refine bel_alloc ?_ _) | (with_reducible refine bel_drew ?_) | (with_reducible refine bel_drewN ?_ _) | (with_reducible refine bel_set ?_ (by first | (simp;done) | (simp;omega) | (dsimp only;omega)) _)))) hg (by simp) (fun k hk=>by simp [Value.ownBlock] at hk;omega)
 obtain ⟨b4,k4,rfl,_,hb4,R,F⟩:=row_of_owns (s:=3) (by decide) HN4.out ho
 have CW:=Lib.hid (C3.out.later HB)
 have ROWW1:=Lib.hid (ROW1.out.imp (fun h=>h) HB.size (HB.block _ ROW1.out.z))
 have FRW1:Hid (∀ o,w4.frozen? ⟨b1,o,none⟩=false):=fun o=>(HB.frozen (p:=⟨b1,o,none⟩) ROW1.out.z).trans (FR1.out o)
 have ROWW2:=Lib.hid (ROW2.out.imp (fun h=>h) HB.size (HB.block _ ROW2.out.z))
 have FRW2:Hid (∀ o,w4.frozen? ⟨b2,o,none⟩=false):=fun o=>(HB.frozen (p:=⟨b2,o,none⟩) ROW2.out.z).trans (FR2.out o)
 have ROWW3:=Lib.hid (ROW3.out.imp (fun h=>h) HB.size (HB.block _ ROW3.out.z))
 have FRW3:Hid (∀ o,w4.frozen? ⟨b3,o,none⟩=false):=fun o=>(HB.frozen (p:=⟨b3,o,none⟩) ROW3.out.z).trans (FR3.out o)
 have tt:=CW.out.t3
 have tf:=CW.out.tf 3
 have zw:=CW.out.zT
 go_upto_region 5 with (fail)
 obtain ⟨u4,hu⟩:∃ u,u=w4.setCell ⟨T,3,none⟩ (.slice (some ⟨b4,0,none⟩) 32 k4):=⟨_,rfl⟩
 have C4:Hid (CopySt w u4 p T (.slice (some ⟨b1,0,none⟩) 32 k1) (.slice (some ⟨b2,0,none⟩) 32 k2) (.slice (some ⟨b3,0,none⟩) 32 k3) (.slice (some ⟨b4,0,none⟩) 32 k4)):=CW.out.put 3 _ hu rfl rfl rfl rfl
 have l4:T<b4:=by omega
 have ROW4:Hid (Row32 (fun b=>w.heap.size<=b) u4 3 (peerC f V) b4 0 k4):=by
  rw [hu];exact (R.imp (fun h=>by omega) (Nat.le_refl _) rfl).other _ _ (by omega) _
 have FR4:Hid (∀ o,u4.frozen? ⟨b4,o,none⟩=false):=fun o=>by rw [hu,World.frozen?_setCell];exact F o
 have hx4:u3.heap.size<=b4:=by omega
 have y41:b1<b4:=by have:=ROW1.out.z;omega
 have ROWX1:Hid (Row32 (fun b=>w.heap.size<=b) u4 1 (fun k=>.bool (f (k:Nat)).isSome) b1 0 k1):=by rw [hu];exact ROWW1.out.other _ _ (by omega) _
 have FRX1:Hid (∀ o,u4.frozen? ⟨b1,o,none⟩=false):=fun o=>by rw [hu,World.frozen?_setCell];exact FRW1.out o
 have y42:b2<b4:=by have:=ROW2.out.z;omega
 have ROWX2:Hid (Row32 (fun b=>w.heap.size<=b) u4 1 (fun k=>.bool (livesR f (k:Nat))) b2 0 k2):=by rw [hu];exact ROWW2.out.other _ _ (by omega) _
 have FRX2:Hid (∀ o,u4.frozen? ⟨b2,o,none⟩=false):=fun o=>by rw [hu,World.frozen?_setCell];exact FRW2.out o
 have y43:b3<b4:=by have:=ROW3.out.z;omega
 have ROWX3:Hid (Row32 (fun b=>w.heap.size<=b) u4 1 (fun k=>.int .u64 (idR f (k:Nat))) b3 0 k3):=by rw [hu];exact ROWW3.out.other _ _ (by omega) _
 have FRX3:Hid (∀ o,u4.frozen? ⟨b3,o,none⟩=false):=fun o=>by rw [hu,World.frozen?_setCell];exact FRW3.out o
 rw [← hu]
 clear hu ho hg hr R F HB CW tt tf zw r0 z0 h0 zq hx4 ROW1 ROWW1 FR1 FRW1 ROW2 ROWW2 FR2 FRW2 ROW3 ROWW3 FR3 FRW3 C3
 have ROW1:=ROWX1
 have FR1:=FRX1
 clear ROWX1 FRX1
 have ROW2:=ROWX2
 have FR2:=FRX2
 clear ROWX2 FRX2
 have ROW3:=ROWX3
 have FR3:=FRX3
 clear ROWX3 FRX3
 have s0:=C4.out.t0
 have s1:=C4.out.t1
 have s2:=C4.out.t2
 have s3:=C4.out.t3
 have r0:=C4.out.r0
 have r1:=C4.out.r1
 have r2:=C4.out.r2
 have r3:=C4.out.r3
 have rf0:=C4.out.rf 0
 have rf1:=C4.out.rf 1
 have rf2:=C4.out.rf 2
 have rf3:=C4.out.rf 3
 have zz:=C4.out.zT
 have hh:=C4.out.hT
 go_wp2_with fail
 refine bodyPost_ret (v:=.agg #[.slice (some ⟨b1,0,none⟩) 32 k1,.slice (some ⟨b2,0,none⟩) 32 k2,.slice (some ⟨b3,0,none⟩) 32 k3,.slice (some ⟨b4,0,none⟩) 32 k4]) ?_ rfl ⟨⟨b1,0,k1,b2,0,k2,b3,0,k3,b4,0,k4⟩,rfl,⟨?_,?_,?_,?_⟩,⟨?_,?_,?_,?_,?_,?_,?_,?_,?_,?_,?_,?_,?_,?_⟩,?_⟩
 · simp [results,Tryz.results103,go_sem,r0,r1,r2,r3]
 · exact (((ROW1.out.other (w.heap.size+1) 0 (by omega) _).other (w.heap.size+1) 1 (by omega) _).other (w.heap.size+1) 2 (by omega) _).other (w.heap.size+1) 3 (by omega) _
 · exact (((ROW2.out.other (w.heap.size+1) 0 (by omega) _).other (w.heap.size+1) 1 (by omega) _).other (w.heap.size+1) 2 (by omega) _).other (w.heap.size+1) 3 (by omega) _
 · exact (((ROW3.out.other (w.heap.size+1) 0 (by omega) _).other (w.heap.size+1) 1 (by omega) _).other (w.heap.size+1) 2 (by omega) _).other (w.heap.size+1) 3 (by omega) _
 · exact (((ROW4.out.other (w.heap.size+1) 0 (by omega) _).other (w.heap.size+1) 1 (by omega) _).other (w.heap.size+1) 2 (by omega) _).other (w.heap.size+1) 3 (by omega) _
 · show w.heap.size<=b1;omega
 · show w.heap.size<=b2;omega
 · show w.heap.size<=b3;omega
 · show w.heap.size<=b4;omega
 · show b1≠b2;omega
 · show b1≠b3;omega
 · show b1≠b4;omega
 · show b2≠b3;omega
 · show b2≠b4;omega
 · show b3≠b4;omega
 · intro o;simp only [World.frozen?_setCell];exact FR1.out o
 · intro o;simp only [World.frozen?_setCell];exact FR2.out o
 · intro o;simp only [World.frozen?_setCell];exact FR3.out o
 · intro o;simp only [World.frozen?_setCell];exact FR4.out o
 · have hB:=C4.out.below
   (repeat (first | exact Below.refl _ _ | (with_reducible assumption) | (with_reducible refine bel_later ?_ _) | (with_reducible refine bel_alloc ?_ _) | (with_reducible refine bel_drew ?_) | (with_reducible refine bel_drewN ?_ _) | (with_reducible refine bel_set ?_ (by first | (simp;done) | (simp;omega) | (dsimp only;omega)) _)))
end Go.Proofs.YtahiahjhpakeiaaGreatDoor
namespace Go.Proofs.YtahiahjhpakeiaaGreatDoor
open Go.RowKit Go.Maps Go.Sort
set_option linter.unusedVariables false
set_option linter.unusedSimpArgs false
attribute [local go_sem] later_cell later_frozen later_lt cell_set_off cell_set_block
noncomputable def intRI:TypeInfo:=(Tryz.prog.info? 3).get (by kernel_rfl)
theorem intRI_at:Tryz.prog.info? 3=some intRI:=by kernel_rfl
variable {Q:Nat->Prop} {w:World} {p:Where} {f:RS} {V:Nat->Value}
def liveK (f:RS) (k:Nat):List Int:=((List.range k).map Int.ofNat).filter (livesR f)
theorem liveK_yes {f:RS} {k:Nat} (h:livesR f k=true):liveK f (k+1)=liveK f k ++ [(k:Int)]:=by
 unfold liveK;rw [List.range_succ,List.map_append,List.filter_append];simp [h]
theorem liveK_no {f:RS} {k:Nat} (h:livesR f k=false):liveK f (k+1)=liveK f k:=by
 unfold liveK;rw [List.range_succ,List.map_append,List.filter_append];simp [h]
theorem liveK_len (f:RS) (k:Nat):(liveK f k).length<=k:=by
 unfold liveK;refine Nat.le_trans (List.length_filter_le _ _) (by simp)
def ListPost (w:World) (l:List Int) (e:Ending) (w':World):Prop:=∃ v,e = .returned v∧SlAt w.heap.size (fun i=>.int .i64 (nth l i)) l.length w' v∧RowKit.Below w.heap.size w w'
set_option maxRecDepth 100000 in
set_option maxHeartbeats 4000000 in
theorem rlive_any (h:RefRows Q w p f V):Calls Tryz.prog 66 #[(.agg #[.slice (some ⟨p.b1,p.o1,none⟩) 32 p.k1,.slice (some ⟨p.b2,p.o2,none⟩) 32 p.k2,.slice (some ⟨p.b3,p.o3,none⟩) 32 p.k3,.slice (some ⟨p.b4,p.o4,none⟩) 32 p.k4])] w (ListPost w (liveL f)):=by
 obtain ⟨i0,hi,hz0,hz1,hz2⟩:∃ i0,Tryz.prog.info? 3=some i0∧i0.zero=some (Value.int .i64 0)∧i0.size=1∧i0.bytes=8:=⟨intRI,intRI_at,by kernel_rfl,by kernel_rfl,by kernel_rfl⟩
 have HR:=Lib.hid h
 have HP:Hid (∀ v w',SlAt w.heap.size (fun i=>.int .i64 (nth (liveL f) i)) (liveL f).length w' v->RowKit.Below w.heap.size w w'->ListPost w (liveL f) (.returned v) w'):=fun v w' h1 h2=>⟨v,rfl,h1,h2⟩
 clear h
 go_enter Tryz.func66,Tryz.ntmps66
 go_upto_region 2 with (fail)
 obtain ⟨w1,hw1⟩:∃ w1,w1=(w.alloc (.cells #[.slice (some ⟨p.b1,p.o1,none⟩) 32 p.k1,.slice (some ⟨p.b2,p.o2,none⟩) 32 p.k2,.slice (some ⟨p.b3,p.o3,none⟩) 32 p.k3,.slice (some ⟨p.b4,p.o4,none⟩) 32 p.k4] 32)).alloc (.cells #[] 3):=⟨_,rfl⟩
 have B1:RowKit.Below w.heap.size w w1:=by rw [hw1];(repeat (first | exact Below.refl _ _ | (with_reducible assumption) | (with_reducible refine bel_later ?_ _) | (with_reducible refine bel_alloc ?_ _) | (with_reducible refine bel_drew ?_) | (with_reducible refine bel_drewN ?_ _) | (with_reducible refine bel_set ?_ (by first | (simp;done) | (simp;omega) | (dsimp only;omega)) _)))
 have j1:w1.cell? ⟨w.heap.size,1,none⟩=some (.slice (some ⟨p.b2,p.o2,none⟩) 32 p.k2):=by rw [hw1];simp [go_sem]
 have z1:w.heap.size<w1.heap.size:=by rw [hw1];simp;omega
 have O1:Hid (w1.ownsRow (w.heap.size+1) 3 1 (.slice (some ⟨w.heap.size+1,0,none⟩) 0 0) 0 []):=by rw [hw1];exact own_nil _ _ _ _ _ (by simp) (by simp)
 rw [← hw1]
 clear hw1
 go_wp2_with fail
 go_loopw [3,4,10] (fun vo _ i wr=>∃ k:Nat,k<=32∧i = .int .i64 k∧Hid (wr.ownsRow (w.heap.size+1) 3 1 vo (liveK f k).length ((liveK f k).map (Value.int .i64)))∧Hid (RowKit.Below (w.heap.size+1) w1 wr)) (fun _ _ i _=>32 - (intOf i).toNat)
 case atStart=>exact ⟨0,Nat.zero_le _,rfl,O1.out,RowKit.Below.refl _ _⟩
 case round =>
  obtain ⟨k,hk,rfl,hO,hB⟩:=hrel
  have hBW:RowKit.Below w.heap.size w wr:=B1.trans (hB.out.mono (by omega))
  have BW:=Lib.hid hBW
  have j1:wr.cell? ⟨w.heap.size,1,none⟩=some (.slice (some ⟨p.b2,p.o2,none⟩) 32 p.k2):=(hB.out.cell (p:=⟨_,_,none⟩) (by dsimp only;omega)).trans j1
  have hsz:=hB.out.size
  have zr:w.heap.size<wr.heap.size:=by omega
  clear hBW
  by_cases hlt:k<32
  · have c0:=(HR.out.below BW.out).at_live hlt
    have zb:=(HR.out.below BW.out).live.z
    have hlen:=liveK_len f k
    cases h1:livesR f k
    · rw [h1] at c0
      have E:=Lib.hid (liveK_no h1)
      go_wp2_with fail
      go_roundw
      case rel=>go_light;exact ⟨k+1,by omega,by go_num,by show World.ownsRow _ _ _ _ _ _ _;rw [E.out];exact hO.out,hB.out⟩
      case measure=>go_light;simp [intOf];omega
    · rw [h1] at c0
      have E:=Lib.hid (liveK_yes h1)
      go_wp2_with (at_builtin;refine wpList_app rfl _ _ 36 rfl (w.heap.size+1) 3 i0 (.int .i64 0) 8 Tryz.underlying36 hi hz0 hz1 hz2 rfl _ (liveK f k).length _ rfl (hO.out.alloc _) 0 _ 1 _ rfl (sl_new _ .i64 [(k:Int)] 3 _ 1 rfl rfl (by simp [maxLen])) (fun _=>rfl) ?qc1 ?qc2 ?qc3 ?_)
      case qc1=>simp only [maxLen];omega
      case qc2=>omega
      case qc3=>simp;omega
      intro v' w2 ho hg
      have hB2:RowKit.Below (w.heap.size+1) w1 w2:=(hB.out.alloc (by omega) _).grown hg (by simp;omega) (fun j hj=>by have:=hO.out.lt j hj;omega)
      go_wp2_with fail
      go_roundw
      case rel =>
       go_light
       refine ⟨k+1,by omega,by go_num,?_,hB2⟩
       show World.ownsRow _ _ _ _ _ _ _
       rw [E.out]
       simpa [nth] using ho
      case measure=>go_light;simp [intOf];omega
  · obtain rfl:k=32:=by omega
    have hs:=own_ints hO.out
    go_wp2_with fail
    go_ret
    exact HP.out _ _ (hs.base (by omega)) BW.out
theorem follow_take {s:Int} {l:List Int} {k:Nat} (hk:k<l.length) :
 (((s :: l.take k).take 3).length<3->(s :: l.take (k+1)).take 3=(s :: l.take k).take 3 ++ [nth l k])∧(¬ ((s :: l.take k).take 3).length<3->(s :: l.take (k+1)).take 3=(s :: l.take k).take 3):=by
 have e:s :: l.take (k+1)=(s :: l.take k) ++ [nth l k]:=by rw [List.take_succ_eq_append_getElem hk,nth_eq hk];rfl
 have hl:(s :: l.take k).length=k+1:=by simp;omega
 rw [e]
 constructor
 · intro h
   rw [List.length_take,hl] at h
   rw [List.take_of_length_le (l:=(s :: l.take k) ++ [nth l k]) (by rw [List.length_append,hl];simp;omega),List.take_of_length_le (l:=s :: l.take k) (by rw [hl];omega)]
 · intro h
   rw [List.length_take,hl] at h
   rw [List.take_append_of_le_length (by rw [hl];omega)]
set_option maxRecDepth 100000 in
set_option maxHeartbeats 4000000 in
theorem rfollow_any (w:World) (s id pred:Int) (lv:Value) (l:List Int) (hl:SlAt 0 (fun i=>.int .i64 (nth l i)) l.length w lv) (hlm:l.length<=1000000) :
 Calls Tryz.prog 109 #[.int .i64 s,.agg #[.int .u64 id,.int .i64 pred,lv]] w (ListPost w (followL s l)):=by
 obtain ⟨i0,hi,hz0,hz1,hz2⟩:∃ i0,Tryz.prog.info? 3=some i0∧i0.zero=some (Value.int .i64 0)∧i0.size=1∧i0.bytes=8:=⟨intRI,intRI_at,by kernel_rfl,by kernel_rfl,by kernel_rfl⟩
 have HP:Hid (∀ v w',SlAt w.heap.size (fun i=>.int .i64 (nth (followL s l) i)) (followL s l).length w' v->RowKit.Below w.heap.size w w'->ListPost w (followL s l) (.returned v) w'):=fun v w' h1 h2=>⟨v,rfl,h1,h2⟩
 have hA:=Lib.hid hl
 obtain ⟨a,cap,rfl,hc,hm⟩:=hl.slice
 clear hl
 go_enter Tryz.func109,Tryz.ntmps109
 go_upto_region 2 with (fail)
 obtain ⟨w1,hw1⟩:∃ w1,w1=(w.alloc (.cells #[.int .u64 id,.int .i64 pred,.slice a l.length cap] 126)).alloc (.cells #[.int .i64 s] 3):=⟨_,rfl⟩
 have B1:RowKit.Below w.heap.size w w1:=by rw [hw1];(repeat (first | exact Below.refl _ _ | (with_reducible assumption) | (with_reducible refine bel_later ?_ _) | (with_reducible refine bel_alloc ?_ _) | (with_reducible refine bel_drew ?_) | (with_reducible refine bel_drewN ?_ _) | (with_reducible refine bel_set ?_ (by first | (simp;done) | (simp;omega) | (dsimp only;omega)) _)))
 have j1:w1.cell? ⟨w.heap.size,2,none⟩=some (.slice a l.length cap):=by rw [hw1];simp [go_sem]
 have z1:w.heap.size<w1.heap.size:=by rw [hw1];simp;omega
 have O1:Hid (w1.ownsRow (w.heap.size+1) 3 1 (.slice (some ⟨w.heap.size+1,0,none⟩) 1 1) 1 [.int .i64 s]):=by rw [hw1];exact own_lit _ [.int .i64 s] _ _ _ _ (by simp) rfl (by simp) (by simp [maxLen])
 rw [← hw1]
 clear hw1
 go_wp2_with fail
 go_loopw [5,7,13] (fun vo _ i wr=>∃ k:Nat,k<=l.length∧i = .int .i64 k∧Hid (wr.ownsRow (w.heap.size+1) 3 1 vo ((s :: l.take k).take 3).length (((s :: l.take k).take 3).map (Value.int .i64)))∧Hid (RowKit.Below (w.heap.size+1) w1 wr)) (fun _ _ i _=>l.length - (intOf i).toNat)
 case atStart=>exact ⟨0,Nat.zero_le _,rfl,O1.out,RowKit.Below.refl _ _⟩
 case round =>
  obtain ⟨k,hk,rfl,hO,hB⟩:=hrel
  have hBW:RowKit.Below w.heap.size w wr:=B1.trans (hB.out.mono (by omega))
  have BW:=Lib.hid hBW
  have hsz:=hB.out.size
  clear hBW
  have hlen:((s :: l.take k).take 3).length<=3:=by rw [List.length_take];omega
  have hfin:k=l.length->(s :: l.take k).take 3=followL s l:=fun e=>by rw [e,List.take_length];rfl
  have hstep:=fun hlt:k<l.length=>follow_take (s:=s) hlt
  obtain ⟨L,hL⟩:∃ L,L=(s :: l.take k).take 3:=⟨_,rfl⟩
  rw [← hL] at hO hlen hfin hstep
  clear hL
  have ho':=own_ints hO.out
  obtain ⟨ao,co,rfl,hco,hcm⟩:=ho'.slice
  have HS:=Lib.hid ho'
  clear ho'
  by_cases hlt:k<l.length
  · obtain ⟨b,off,rfl,_,hb,hck⟩:=hA.out.at k hlt wr BW.out
    obtain ⟨E1,E2⟩:=hstep hlt
    clear hstep hfin
    by_cases h3:L.length<3
    · have E:=Lib.hid (E1 h3)
      clear E1 E2
      go_wp2_with (at_builtin;refine wpList_app rfl _ _ 36 rfl (w.heap.size+1) 3 i0 (.int .i64 0) 8 Tryz.underlying36 hi hz0 hz1 hz2 rfl _ L.length _ rfl (hO.out.alloc _) 0 _ 1 _ rfl (sl_new _ .i64 [nth l k] 3 _ 1 rfl rfl (by simp [maxLen])) (fun _=>rfl) ?qc1 ?qc2 ?qc3 ?_)
      case qc1=>simp only [maxLen];omega
      case qc2=>omega
      case qc3=>simp;omega
      intro v' w2 ho hg
      have hB2:RowKit.Below (w.heap.size+1) w1 w2:=(hB.out.alloc (by omega) _).grown hg (by simp;omega) (fun j hj=>by have:=hO.out.lt j hj;omega)
      go_wp2_with fail
      go_roundw
      case rel =>
       go_light
       refine ⟨k+1,by omega,by go_num,?_,hB2⟩
       show World.ownsRow _ _ _ _ _ _ _
       rw [E.out,List.length_append]
       simpa [nth] using ho
      case measure=>go_light;simp [intOf];omega
    · have E:=Lib.hid (E2 h3)
      clear E1 E2
      go_wp2_with fail
      go_roundw
      case rel=>go_light;exact ⟨k+1,by omega,by go_num,by show World.ownsRow _ _ _ _ _ _ _;rw [E.out];exact hO.out,hB.out⟩
      case measure=>go_light;simp [intOf];omega
  · obtain rfl:k=l.length:=by omega
    have e:=hfin rfl
    clear hstep hfin
    subst e
    go_wp2_with fail
    go_ret
    exact HP.out _ _ (HS.out.base (show w.heap.size<=w.heap.size+1 by omega)) BW.out
end Go.Proofs.YtahiahjhpakeiaaGreatDoor
end
namespace Go.Proofs.YtahiahjhpakeiaaGreatDoor
open Go.RowKit Go.Maps Go.Sort
set_option linter.unusedVariables false
set_option linter.unusedSimpArgs false
section
attribute [local go_sem] later_cell later_frozen later_lt cell_set_off cell_set_block
def RefAns (Q:Nat->Prop) (w:World) (f:RS) (c:Int) (e:Ending) (w':World):Prop:=∃ x,e = .returned (.tuple #[x,.int .i64 c])∧RefNew Q w f x w'
variable {Q:Nat->Prop} {w:World} {p:Where} {f:RS} {V:Nat->Value}
theorem RefAns.same {c:Int} {w':World} {e:Ending} (h:RefIs Q w p f V) (he:e = .returned (.tuple #[(.agg #[.slice (some ⟨(p).b1,(p).o1,none⟩) 32 (p).k1,.slice (some ⟨(p).b2,(p).o2,none⟩) 32 (p).k2,.slice (some ⟨(p).b3,(p).o3,none⟩) 32 (p).k3,.slice (some ⟨(p).b4,(p).o4,none⟩) 32 (p).k4]),.int .i64 c])) (hb:RowKit.Below w.heap.size w w'):RefAns Q w f c e w':=⟨_,he,RefNew.old h hb⟩
set_option maxRecDepth 100000 in
set_option maxHeartbeats 8000000 in
theorem rstab_no (h:RefIs Q w p f V) (hd:Dom f) (n:Int) (hl:livesR f n=false):Calls Tryz.prog 50 #[(.agg #[.slice (some ⟨(p).b1,(p).o1,none⟩) 32 (p).k1,.slice (some ⟨(p).b2,(p).o2,none⟩) 32 (p).k2,.slice (some ⟨(p).b3,(p).o3,none⟩) 32 (p).k3,.slice (some ⟨(p).b4,(p).o4,none⟩) 32 (p).k4]),.int .i64 n] w (RefAns Q w f 6):=by
 have H:=Lib.hid h
 have cl:=Lib.hid fun (wr:World) (hb:RowKit.Below w.heap.size w wr)=>rlives_any (h.rows.below hb) hd n
 rw [hl] at cl
 have HP:Hid (∀ w',RowKit.Below w.heap.size w w'->RefAns Q w f 6 (.returned (.tuple #[(.agg #[.slice (some ⟨(p).b1,(p).o1,none⟩) 32 (p).k1,.slice (some ⟨(p).b2,(p).o2,none⟩) 32 (p).k2,.slice (some ⟨(p).b3,(p).o3,none⟩) 32 (p).k3,.slice (some ⟨(p).b4,(p).o4,none⟩) 32 (p).k4]),.int .i64 6])) w'):=fun w' hb=>RefAns.same h rfl hb
 clear h hd
 go_enter Tryz.func50,Tryz.ntmps50
 go_upto_region 1 with (fail)
 obtain ⟨w0,hw0⟩:∃ z,z=(w.alloc (.cells #[.slice (some ⟨p.b1,p.o1,none⟩) 32 p.k1,.slice (some ⟨p.b2,p.o2,none⟩) 32 p.k2,.slice (some ⟨p.b3,p.o3,none⟩) 32 p.k3,.slice (some ⟨p.b4,p.o4,none⟩) 32 p.k4] 32)).alloc (.cells #[.slice none 0 0,.slice none 0 0,.slice none 0 0,.slice none 0 0] 32):=⟨_,rfl⟩
 have B0:Hid (RowKit.Below w.heap.size w w0):=by rw [hw0];exact bel_alloc (bel_alloc (RowKit.Below.refl _ _) _) _
 have P0:Hid (BoxOf w0 w.heap.size p):=by rw [hw0];exact ⟨by simp [go_sem],by simp [go_sem],by simp [go_sem],by simp [go_sem],by simp [go_sem],by simp [go_sem],by simp [go_sem],by simp [go_sem],by simp;omega⟩
 have R0:Hid (BoxNil w0 (w.heap.size+1)):=by rw [hw0];exact ⟨by simp [go_sem],by simp [go_sem],by simp [go_sem],by simp [go_sem],by simp [go_sem],by simp [go_sem],by simp [go_sem],by simp [go_sem],by simp⟩
 rw [← hw0]
 clear hw0
 have c0:=(P0).out.c0
 have c1:=(P0).out.c1
 have c2:=(P0).out.c2
 have c3:=(P0).out.c3
 have pf0:=(P0).out.f0
 have pf1:=(P0).out.f1
 have pf2:=(P0).out.f2
 have pf3:=(P0).out.f3
 have zp:=(P0).out.z
 have r0:=(R0).out.c0
 have r1:=(R0).out.c1
 have r2:=(R0).out.c2
 have r3:=(R0).out.c3
 have rf0:=(R0).out.f0
 have rf1:=(R0).out.f1
 have rf2:=(R0).out.f2
 have rf3:=(R0).out.f3
 have zr:=(R0).out.z
 go_wp2_with fail
 refine (cl.out _ B0.out).mono ?_
 rintro e w1 ⟨rfl,hb⟩
 have P1:=Lib.hid (P0.out.later hb)
 have R1:=Lib.hid (R0.out.later hb)
 have B1:=Lib.hid (bel_below B0.out hb)
 clear c0 c1 c2 c3 pf0 pf1 pf2 pf3 zp r0 r1 r2 r3 rf0 rf1 rf2 rf3 zr
 have c0:=(P1).out.c0
 have c1:=(P1).out.c1
 have c2:=(P1).out.c2
 have c3:=(P1).out.c3
 have pf0:=(P1).out.f0
 have pf1:=(P1).out.f1
 have pf2:=(P1).out.f2
 have pf3:=(P1).out.f3
 have zp:=(P1).out.z
 have r0:=(R1).out.c0
 have r1:=(R1).out.c1
 have r2:=(R1).out.c2
 have r3:=(R1).out.c3
 have rf0:=(R1).out.f0
 have rf1:=(R1).out.f1
 have rf2:=(R1).out.f2
 have rf3:=(R1).out.f3
 have zr:=(R1).out.z
 have hB:=B1.out
 go_wp2_with fail
 refine bodyPost_ret (v:=.tuple #[(.agg #[.slice (some ⟨(p).b1,(p).o1,none⟩) 32 (p).k1,.slice (some ⟨(p).b2,(p).o2,none⟩) 32 (p).k2,.slice (some ⟨(p).b3,(p).o3,none⟩) 32 (p).k3,.slice (some ⟨(p).b4,(p).o4,none⟩) 32 (p).k4]),.int .i64 6]) ?_ rfl ?_
 · simp [results,Tryz.results50,go_sem,r0,r1,r2,r3]
 exact HP.out _ (by (repeat (first | exact Below.refl _ _ | (with_reducible assumption) | (with_reducible refine bel_later ?_ _) | (with_reducible refine bel_alloc ?_ _) | (with_reducible refine bel_drew ?_) | (with_reducible refine bel_drewN ?_ _) | (with_reducible refine bel_set ?_ (by first | (simp;done) | (simp;omega) | (dsimp only;omega)) _))))
theorem RefLists.one {Q:Nat->Prop} {w:World} {f:RS} {V:Nat->Value} (h:RefLists Q w f V) (k:Nat) (hk:k<32):(V k).oneCell'=true:=by
 obtain ⟨a,c,e,_⟩:=(h k hk).slice
 rw [e];rfl
theorem RefRows.putList {m:Nat} {u:World} (h:RefRows Q u p f V) {b:Nat} (F:FreshRows b u p) (hm:m<32) (v:Value) (f':RS) (h1:∀ k,(f' k).isSome=(f k).isSome) (h2:∀ k,livesR f' k=livesR f k) (h3:∀ k,idR f' k=idR f k) (h4:∀ k,predR f' k=predR f k) :
 RefRows Q (u.setCell ⟨p.b4,p.o4+m * 3+2,none⟩ v) p f' (fun k=>if k=m then v else V k) where
 used:=(h.used.other _ _ F.n14.symm _).congr fun j _=>by rw [h1]
 live:=(h.live.other _ _ F.n24.symm _).congr fun j _=>by rw [h2]
 ids:=(h.ids.other _ _ F.n34.symm _).congr fun j _=>by rw [h3]
 peers:=by
  rw [Nat.add_assoc]
  refine (h.peers.set (j:=m * 3+2) (by omega) v).congr fun j hj=>?_
  unfold peerC
  rw [h3,h4]
  split
  · rename_i e;subst e
    rw [if_neg (by omega),if_neg (by omega)]
    show v=if (m * 3+2) / 3=m then v else V ((m * 3+2) / 3)
    rw [if_pos (by omega)]
  · rename_i e
    split
    · rfl
    · split
      · rfl
      · show V (j / 3)=if j / 3=m then v else V (j / 3)
        rw [if_neg (by omega)]
theorem RefRows.putPeer {m:Nat} {u:World} (h:RefRows Q u p f V) {b:Nat} (F:FreshRows b u p) (hm:m<32) (id r:Int) (v:Value) (f':RS) (h1:∀ k,(f' k).isSome=(f k).isSome) (h2:∀ k,livesR f' k=livesR f k) (h3:∀ k,idR f' k=idR f k)
 (h4:∀ k,predR f' k=if k=m then r else predR f k) (hid:id=idR f m) (hv:v=V m) :
 RefRows Q (((u.setCell ⟨p.b4,p.o4+m * 3,none⟩ (.int .u64 id)).setCell ⟨p.b4,p.o4+m * 3+1,none⟩ (.int .i64 r)).setCell ⟨p.b4,p.o4+m * 3+2,none⟩ v) p f' V where
 used:=(((h.used.other _ _ F.n14.symm _).other _ _ F.n14.symm _).other _ _ F.n14.symm _).congr fun j _=>by rw [h1]
 live:=(((h.live.other _ _ F.n24.symm _).other _ _ F.n24.symm _).other _ _ F.n24.symm _).congr fun j _=>by rw [h2]
 ids:=(((h.ids.other _ _ F.n34.symm _).other _ _ F.n34.symm _).other _ _ F.n34.symm _).congr fun j _=>by rw [h3]
 peers:=by
  rw [Nat.add_assoc,Nat.add_assoc]
  refine (((h.peers.set (j:=m * 3) (by omega) _).set (j:=m * 3+1) (by omega) _).set (j:=m * 3+2) (by omega) v).congr fun j hj=>?_
  subst hid hv
  unfold peerC
  rw [h3,h4]
  by_cases e2:j=m * 3+2
  · subst e2
    rw [if_pos rfl,if_neg (by omega),if_neg (by omega),show (m * 3+2) / 3=m by omega]
  · rw [if_neg e2]
    by_cases e1:j=m * 3+1
    · subst e1
      rw [if_pos rfl,if_neg (by omega),if_pos (by omega),show (m * 3+1) / 3=m by omega,if_pos rfl]
    · rw [if_neg e1]
      by_cases e0:j=m * 3
      · subst e0
        rw [if_pos rfl,if_pos (by omega),show m * 3 / 3=m by omega]
      · rw [if_neg e0]
        split
        · rfl
        · split
          · rw [if_neg (by omega)]
          · rfl
theorem SlIn.len {Q:Nat->Prop} {l:List Int} {w:World} {v:Value} (h:SlIn Q l w v):∃ a cap,v = .slice a l.length cap:=by obtain ⟨a,cap,rfl,_⟩:=h;exact ⟨a,cap,rfl⟩
theorem dom_len {f:RS} (h:Dom f) (n:Int):(succR f n).length<=3 ∧ ∀ x∈succR f n,0<=x∧x<32:=by
 unfold succR
 cases e:f n with
 | none=>simp
 | some m=>have:=h n m e;exact ⟨this.2.2.2.1,this.2.2.2.2.2⟩
theorem isSome_stabR {f:RS} {n:Int} (h1:(f n).isSome=true) (h2:(f (stabT f n)).isSome=true) (k:Int):(stab1 f n k).isSome=(f k).isSome∧(stabR f n k).isSome=(f k).isSome:=by
 have e1:∀ k,(stab1 f n k).isSome=(f k).isSome:=fun k=>by
  unfold stab1;rw [isSome_set];split
  · rename_i e;rw [e,h1]
  · rfl
 refine ⟨e1 k,?_⟩
 unfold stabR;rw [isSome_set];split
 · rename_i e;rw [e,h2]
 · exact e1 k
theorem succR_stab1 {f:RS} {n t:Int} (ht:stabT f n=t) (k:Int):succR (stab1 f n) k=if k=n then followL t (succR f t) else succR f k:=by
 unfold stab1;rw [succR_set,ht]
theorem predR_stab1 (f:RS) (n k:Int):predR (stab1 f n) k=predR f k:=by
 unfold stab1;rw [predR_set];split
 · rename_i e;rw [e]
 · rfl
theorem dom_stab1 {f:RS} (hd:Dom f) {n t:Int} (hl:livesR f n=true) (ht:stabT f n=t) (ht2:0<=t∧t<32):Dom (stab1 f n):=by
 obtain ⟨m,hm,hml⟩:=livesR_some hl
 have e:stab1 f n=setM f n ⟨m.live,m.id,m.pred,followL t (succR f t)⟩:=by
  unfold stab1 livesR idR predR;rw [hm,ht]
 rw [e]
 exact dom_succ hd hm (follow_len _ _) (follow_mem ht2 (dom_len hd t).2)
theorem predR_stabR {f:RS} {n t:Int} (ht:stabT f n=t) (k:Int):predR (stabR f n) k=if k=t then rectR f (idR f t) (predR f t) n else predR (stab1 f n) k:=by
 unfold stabR;rw [predR_set,ht]
theorem succR_stabR (f:RS) (n k:Int):succR (stabR f n) k=succR (stab1 f n) k:=by
 unfold stabR;rw [succR_set];split
 · rename_i e;rw [e]
 · rfl
set_option maxRecDepth 100000 in
set_option maxHeartbeats 8000000 in
theorem rstab_yes (h:RefIs Q w p f V) (hd:Dom f) (hh:Heads f) (n:Int) (hl:livesR f n=true):Calls Tryz.prog 50 #[(.agg #[.slice (some ⟨(p).b1,(p).o1,none⟩) 32 (p).k1,.slice (some ⟨(p).b2,(p).o2,none⟩) 32 (p).k2,.slice (some ⟨(p).b3,(p).o3,none⟩) 32 (p).k3,.slice (some ⟨(p).b4,(p).o4,none⟩) 32 (p).k4]),.int .i64 n] w (RefAns Q w (stabR f n) 0):=by
 have H:=Lib.hid h
 have HD:=Lib.hid hd
 have cl:=Lib.hid fun (wr:World) (hb:RowKit.Below w.heap.size w wr)=>rlives_any (h.rows.below hb) hd n
 have CC:=Lib.hid fun (wr:World) (hb:RowKit.Below w.heap.size w wr)=>rcopy_any (h.rows.below hb) fun k hk=>h.list.one k hk
 rw [hl] at cl
 have hl2:=hh n hl
 have hn:=livesR_dom hd hl
 have hs0:=livesR_dom hd hl2
 obtain ⟨m,rfl⟩:∃ m:Nat,n=m:=⟨n.toNat,by omega⟩
 obtain ⟨s,hs⟩:∃ s:Nat,headR f m=s:=⟨(headR f m).toNat,by omega⟩
 rw [hs] at hs0 hl2
 have hm1:m<32:=by omega
 have hs1:s<32:=by omega
 have HS:=Lib.hid hs
 have HL:=Lib.hid hl
 have HL2:=Lib.hid hl2
 clear h hd hh hn hs0 hs hl hl2
 go_enter Tryz.func50,Tryz.ntmps50
 go_upto_region 1 with (fail)
 obtain ⟨w0,hw0⟩:∃ z,z=(w.alloc (.cells #[.slice (some ⟨p.b1,p.o1,none⟩) 32 p.k1,.slice (some ⟨p.b2,p.o2,none⟩) 32 p.k2,.slice (some ⟨p.b3,p.o3,none⟩) 32 p.k3,.slice (some ⟨p.b4,p.o4,none⟩) 32 p.k4] 32)).alloc (.cells #[.slice none 0 0,.slice none 0 0,.slice none 0 0,.slice none 0 0] 32):=⟨_,rfl⟩
 have B0:Hid (RowKit.Below w.heap.size w w0):=by rw [hw0];exact bel_alloc (bel_alloc (RowKit.Below.refl _ _) _) _
 have P0:Hid (BoxOf w0 w.heap.size p):=by rw [hw0];exact ⟨by simp [go_sem],by simp [go_sem],by simp [go_sem],by simp [go_sem],by simp [go_sem],by simp [go_sem],by simp [go_sem],by simp [go_sem],by simp;omega⟩
 have R0:Hid (BoxNil w0 (w.heap.size+1)):=by rw [hw0];exact ⟨by simp [go_sem],by simp [go_sem],by simp [go_sem],by simp [go_sem],by simp [go_sem],by simp [go_sem],by simp [go_sem],by simp [go_sem],by simp⟩
 rw [← hw0]
 clear hw0
 have c0:=(P0).out.c0
 have c1:=(P0).out.c1
 have c2:=(P0).out.c2
 have c3:=(P0).out.c3
 have pf0:=(P0).out.f0
 have pf1:=(P0).out.f1
 have pf2:=(P0).out.f2
 have pf3:=(P0).out.f3
 have zp:=(P0).out.z
 have r0:=(R0).out.c0
 have r1:=(R0).out.c1
 have r2:=(R0).out.c2
 have r3:=(R0).out.c3
 have rf0:=(R0).out.f0
 have rf1:=(R0).out.f1
 have rf2:=(R0).out.f2
 have rf3:=(R0).out.f3
 have zr:=(R0).out.z
 go_wp2_with fail
 refine (cl.out _ B0.out).mono ?_
 rintro e w1 ⟨rfl,hb⟩
 have P1:=Lib.hid (P0.out.later hb)
 have R1:=Lib.hid (R0.out.later hb)
 have B1:=Lib.hid (bel_below B0.out hb)
 clear hb P0 R0
 clear c0 c1 c2 c3 pf0 pf1 pf2 pf3 zp r0 r1 r2 r3 rf0 rf1 rf2 rf3 zr
 have c0:=(P1).out.c0
 have c1:=(P1).out.c1
 have c2:=(P1).out.c2
 have c3:=(P1).out.c3
 have pf0:=(P1).out.f0
 have pf1:=(P1).out.f1
 have pf2:=(P1).out.f2
 have pf3:=(P1).out.f3
 have zp:=(P1).out.z
 have r0:=(R1).out.c0
 have r1:=(R1).out.c1
 have r2:=(R1).out.c2
 have r3:=(R1).out.c3
 have rf0:=(R1).out.f0
 have rf1:=(R1).out.f1
 have rf2:=(R1).out.f2
 have rf3:=(R1).out.f3
 have zr:=(R1).out.z
 go_wp2_with fail
 refine (CC.out _ B1.out).mono ?_
 rintro e w2 ⟨p',rfl,hrows,hfr,hb⟩
 have P2:=Lib.hid (P1.out.later hb)
 have R2:=Lib.hid (R1.out.later hb)
 have B2:=Lib.hid (bel_below B1.out hb)
 have hz12:=hb.size
 have hz1:w.heap.size+1<w1.heap.size:=R1.out.z
 clear c0 c1 c2 c3 pf0 pf1 pf2 pf3 zp r0 r1 r2 r3 rf0 rf1 rf2 rf3 zr
 clear hb P1 R1
 have c0:=(P2).out.c0
 have c1:=(P2).out.c1
 have c2:=(P2).out.c2
 have c3:=(P2).out.c3
 have pf0:=(P2).out.f0
 have pf1:=(P2).out.f1
 have pf2:=(P2).out.f2
 have pf3:=(P2).out.f3
 have zp:=(P2).out.z
 have r0:=(R2).out.c0
 have r1:=(R2).out.c1
 have r2:=(R2).out.c2
 have r3:=(R2).out.c3
 have rf0:=(R2).out.f0
 have rf1:=(R2).out.f1
 have rf2:=(R2).out.f2
 have rf3:=(R2).out.f3
 have zr:=(R2).out.z
 go_upto_region 4 with (fail)
 obtain ⟨w3,hw3⟩:∃ z,z=(((w2.setCell ⟨w.heap.size,0,none⟩ (.slice (some ⟨p'.b1,p'.o1,none⟩) 32 p'.k1)).setCell ⟨w.heap.size,1,none⟩ (.slice (some ⟨p'.b2,p'.o2,none⟩) 32 p'.k2)).setCell ⟨w.heap.size,2,none⟩ (.slice (some ⟨p'.b3,p'.o3,none⟩) 32 p'.k3)).setCell ⟨w.heap.size,3,none⟩ (.slice (some ⟨p'.b4,p'.o4,none⟩) 32 p'.k4):=⟨_,rfl⟩
 obtain ⟨hz3,hk3⟩:=block_set4 hw3
 have P3:Hid (BoxOf w3 w.heap.size p'):=P2.out.store _ _ _ _ hw3
 have R3:Hid (BoxNil w3 (w.heap.size+1)):=R2.out.block (by omega) (hk3 _ (by omega))
 have ROW:Hid (RefRows (fun b=>w1.heap.size<=b) w3 p' f V):=hrows.same (fun _ _ h=>h) (by omega) fun b _ hq=>hk3 b (by omega)
 have FR:Hid (FreshRows w1.heap.size w3 p'):=hfr.same (hk3 _ (by have:=hfr.m1;omega)) (hk3 _ (by have:=hfr.m2;omega)) (hk3 _ (by have:=hfr.m3;omega)) (hk3 _ (by have:=hfr.m4;omega))
 have B3:Hid (RowKit.Below w.heap.size w w3):=by
  have hB:=B2.out
  show RowKit.Below _ _ _
  rw [hw3]
  (repeat (first | exact Below.refl _ _ | (with_reducible assumption) | (with_reducible refine bel_later ?_ _) | (with_reducible refine bel_alloc ?_ _) | (with_reducible refine bel_drew ?_) | (with_reducible refine bel_drewN ?_ _) | (with_reducible refine bel_set ?_ (by first | (simp;done) | (simp;omega) | (dsimp only;omega)) _)))
 rw [← hw3]
 clear c0 c1 c2 c3 pf0 pf1 pf2 pf3 zp r0 r1 r2 r3 rf0 rf1 rf2 rf3 zr
 clear hw3 hk3 P2 R2 B2 hrows hfr hz3 hz12 B1 B0 CC cl
 have c0:=(P3).out.c0
 have c1:=(P3).out.c1
 have c2:=(P3).out.c2
 have c3:=(P3).out.c3
 have pf0:=(P3).out.f0
 have pf1:=(P3).out.f1
 have pf2:=(P3).out.f2
 have pf3:=(P3).out.f3
 have zp:=(P3).out.z
 have r0:=(R3).out.c0
 have r1:=(R3).out.c1
 have r2:=(R3).out.c2
 have r3:=(R3).out.c3
 have rf0:=(R3).out.f0
 have rf1:=(R3).out.f1
 have rf2:=(R3).out.f2
 have rf3:=(R3).out.f3
 have zr:=(R3).out.z
 obtain ⟨cid,cpr,cls⟩:=ROW.out.at_peer hm1
 have zb:=ROW.out.peers.z
 have LO:Hid (RefLists (fun b=>Q b∧b<w.heap.size) w3 f V):=H.out.list.same (fun b hb hq=>⟨hq,hb⟩) B3.out.size fun b hb _=>B3.out.block b hb
 have CH:=Lib.hid fun (wr:World) (hb:RowKit.Below w3.heap.size w3 wr)=>rhead_any (ROW.out.below hb) HD.out (succR f m) (by have:=(dom_len HD.out m).1;omega) (V m) ((LO.out m hm1).slAt.below hb) (idR f m) (predR f m)
 have eh:headL f (succR f m)=s:=HS.out
 rw [eh] at CH
 clear eh
 go_wp2_with fail
 refine wp_region_calm (by kernel_rfl) (by kernel_rfl) ?_
 repeat (first | (go_big_quiet_step ((go_at_call 100;exact calls_calm (CH.out _ (by (repeat (first | exact Below.refl _ _ | (with_reducible assumption) | (with_reducible refine bel_later ?_ _) | (with_reducible refine bel_alloc ?_ _) | (with_reducible refine bel_drew ?_) | (with_reducible refine bel_drewN ?_ _) | (with_reducible refine bel_set ?_ (by first | (simp;done) | (simp;omega) | (dsimp only;omega)) _)))))))) | (refine wpQuiet_step (fun K hK=>?_);go_simp;first | (refine hK _ ?_;clear hK K) | (apply Exists.intro;refine ⟨fun _=>?_,hK _ ?_⟩;(go_at_call 100;exact calls_calm (CH.out _ (by (repeat (first | exact Below.refl _ _ | (with_reducible assumption) | (with_reducible refine bel_later ?_ _) | (with_reducible refine bel_alloc ?_ _) | (with_reducible refine bel_drew ?_) | (with_reducible refine bel_drewN ?_ _) | (with_reducible refine bel_set ?_ (by first | (simp;done) | (simp;omega) | (dsimp only;omega)) _))))));clear hK K)))
 refine wpQuiet_nil ?_
 intro _ hw'
 obtain ⟨xq,hw''⟩:=hw'
 subst hw''
 obtain ⟨w4,hB4⟩:=xq
 have P4:=Lib.hid (P3.out.later hB4)
 have R4:=Lib.hid (R3.out.later hB4)
 have ROW4:=Lib.hid (ROW.out.below hB4)
 have FR4:=Lib.hid (FR.out.below ROW.out hB4)
 have LO4:=Lib.hid (LO.out.below hB4)
 have B4:=Lib.hid (bel_below B3.out hB4)
 clear c0 c1 c2 c3 pf0 pf1 pf2 pf3 zp r0 r1 r2 r3 rf0 rf1 rf2 rf3 zr
 dsimp only
 clear cid cpr cls zb hB4 P3 R3 ROW FR LO B3 CH
 have c0:=(P4).out.c0
 have c1:=(P4).out.c1
 have c2:=(P4).out.c2
 have c3:=(P4).out.c3
 have pf0:=(P4).out.f0
 have pf1:=(P4).out.f1
 have pf2:=(P4).out.f2
 have pf3:=(P4).out.f3
 have zp:=(P4).out.z
 have r0:=(R4).out.c0
 have r1:=(R4).out.c1
 have r2:=(R4).out.c2
 have r3:=(R4).out.c3
 have rf0:=(R4).out.f0
 have rf1:=(R4).out.f1
 have rf2:=(R4).out.f2
 have rf3:=(R4).out.f3
 have zr:=(R4).out.z
 obtain ⟨cid,cpr,cls⟩:=ROW4.out.at_peer hs1
 obtain ⟨did,dpr,dls⟩:=ROW4.out.at_peer hm1
 have zb:=ROW4.out.peers.z
 have CN:=Lib.hid fun (wr:World) (hb:RowKit.Below w4.heap.size w4 wr)=>rnear_any (ROW4.out.below hb) HD.out (predR f s) (idR f m) s (idR_place HD.out m)
 cases hq:nearR f (predR f s) (idR f m) s
 · have HT:Hid (stabT f m=s):=show stabT f m=s by unfold stabT;rw [HS.out,hq];rfl
   have HQL:=HL2
   have ht1:=hs1
   rw [hq] at CN
   clear hq
   go_wp2_with fail
   refine wp_region_calm (by kernel_rfl) (by kernel_rfl) ?_
   repeat (first | (go_big_quiet_step ((go_at_call 108;exact calls_calm (CN.out _ (by (repeat (first | exact Below.refl _ _ | (with_reducible assumption) | (with_reducible refine bel_later ?_ _) | (with_reducible refine bel_alloc ?_ _) | (with_reducible refine bel_drew ?_) | (with_reducible refine bel_drewN ?_ _) | (with_reducible refine bel_set ?_ (by first | (simp;done) | (simp;omega) | (dsimp only;omega)) _)))))))) | (refine wpQuiet_step (fun K hK=>?_);go_simp;first | (refine hK _ ?_;clear hK K) | (apply Exists.intro;refine ⟨fun _=>?_,hK _ ?_⟩;(go_at_call 108;exact calls_calm (CN.out _ (by (repeat (first | exact Below.refl _ _ | (with_reducible assumption) | (with_reducible refine bel_later ?_ _) | (with_reducible refine bel_alloc ?_ _) | (with_reducible refine bel_drew ?_) | (with_reducible refine bel_drewN ?_ _) | (with_reducible refine bel_set ?_ (by first | (simp;done) | (simp;omega) | (dsimp only;omega)) _))))));clear hK K)))
   refine wpQuiet_nil ?_
   intro _ hw'
   obtain ⟨xq,hw''⟩:=hw'
   subst hw''
   obtain ⟨w5,hB5⟩:=xq
   have P5:=Lib.hid (P4.out.later hB5)
   have R5:=Lib.hid (R4.out.later hB5)
   have ROW5:=Lib.hid (ROW4.out.below hB5)
   have FR5:=Lib.hid (FR4.out.below ROW4.out hB5)
   have LO5:=Lib.hid (LO4.out.below hB5)
   have B5:=Lib.hid (bel_below B4.out hB5)
   clear c0 c1 c2 c3 pf0 pf1 pf2 pf3 zp r0 r1 r2 r3 rf0 rf1 rf2 rf3 zr
   dsimp only
   clear cid cpr cls did dpr dls zb hB5 P4 R4 ROW4 FR4 LO4 B4 CN
   have c0:=(P5).out.c0
   have c1:=(P5).out.c1
   have c2:=(P5).out.c2
   have c3:=(P5).out.c3
   have pf0:=(P5).out.f0
   have pf1:=(P5).out.f1
   have pf2:=(P5).out.f2
   have pf3:=(P5).out.f3
   have zp:=(P5).out.z
   have r0:=(R5).out.c0
   have r1:=(R5).out.c1
   have r2:=(R5).out.c2
   have r3:=(R5).out.c3
   have rf0:=(R5).out.f0
   have rf1:=(R5).out.f1
   have rf2:=(R5).out.f2
   have rf3:=(R5).out.f3
   have zr:=(R5).out.z
   obtain ⟨tid,tpr,tls⟩:=ROW5.out.at_peer ht1
   have zb:=ROW5.out.peers.z
   obtain ⟨av,cv,ev⟩:=(LO5.out s ht1).len
   have CF:=Lib.hid fun (wr:World) (hb:RowKit.Below w5.heap.size w5 wr)=>rfollow_any wr s (idR f s) (predR f s) (V s) (succR f s) ((LO5.out s ht1).slAt.below hb) (by have:=(dom_len HD.out s).1;omega)
   rw [ev] at CF
   go_wp2_with fail
   have htI:((s:Nat):Int)<32:=by omega
   have hmI:((m:Nat):Int)<32:=by omega
   refine wp_region_tame 9 12 (fun w'=>∃ x:Later w5,w'=x.world) (by kernel_rfl) (by kernel_rfl) ⟨⟨{ w5 with drawn:=w5.drawn+1 },(RowKit.Below.refl _ _).drew⟩,rfl⟩ ?_ ?_
   · intro d v c a w h
     cases d <;> exact h
   · simp only [List.take_succ_cons,List.take_zero,List.drop_succ_cons,List.drop_zero]
     repeat (refine wpTame_step (fun K hK=>?_);go_simp;refine hK _ ?_;clear hK K)
     refine wpTame_nil ?_
     refine wpSeqC_step (by decide) (fun R hR=>?_)
     go_wp2_with fail
     refine (CF.out _ (bel_drew (RowKit.Below.refl _ _))).mono ?_
     rintro e w6 ⟨v6,rfl,hs6,hB6⟩
     have B56:RowKit.Below w5.heap.size w5 w6:=(bel_drew (RowKit.Below.refl _ _)).trans (hB6.mono (by simp))
     obtain ⟨a6,q6,rfl,_⟩:=hs6.slice
     have S6:=Lib.hid (hs6.base (show w5.heap.size<=_ by simp))
     clear hs6 hB6
     go_wp2_with fail
     refine hR _ _ ⟨⟨w6,B56⟩,rfl⟩ ?_
     clear hR R
     refine wpSeqC_step (by decide) (fun R hR=>?_)
     go_wp2_with fail
     refine hR _ _ ⟨⟨w6,B56⟩,rfl⟩ ?_
     clear hR R
     refine wpSeqC_step (by decide) (fun R hR=>?_)
     go_wp2_with fail
     refine hR _ _ ⟨⟨w6,B56⟩,rfl⟩ ?_
     clear hR R
     refine wpSeqC_list (by decide) ?_
     have P6:=Lib.hid (P5.out.later B56)
     have R6:=Lib.hid (R5.out.later B56)
     have ROW6:=Lib.hid (ROW5.out.below B56)
     have FR6:=Lib.hid (FR5.out.below ROW5.out B56)
     have LO6:=Lib.hid (LO5.out.below B56)
     have B6:=Lib.hid (bel_below B5.out B56)
     obtain ⟨did,dpr,dls⟩:=ROW6.out.at_peer hm1
     have dfz:=FR6.out.f4 (p'.o4+m * 3+2)
     have zb6:=ROW6.out.peers.z
     have hz56:=B56.size
     have zb5:=ROW5.out.peers.z
     clear c0 c1 c2 c3 pf0 pf1 pf2 pf3 zp r0 r1 r2 r3 rf0 rf1 rf2 rf3 zr
     clear tid tpr tls zb P5 R5 ROW5 FR5 LO5 B5 CF ev htI hmI
     go_wp2_with fail
     obtain ⟨w7,hw7⟩:∃ z,z=w6.setCell ⟨p'.b4,p'.o4+m * 3+2,none⟩ (.slice a6 (followL s (succR f s)).length q6):=⟨_,rfl⟩
     obtain ⟨V1,hV1⟩:∃ V1:Nat->Value,V1=fun k=>if k=m then .slice a6 (followL s (succR f s)).length q6 else V k:=⟨_,rfl⟩
     have hbm:=FR6.out.m4
     have K7:∀ b,b≠p'.b4->w7.heap[b]? = w6.heap[b]?:=fun b hb=>by rw [hw7];exact Below.heap_setCell _ _ _ _ hb
     have Z7:w7.heap.size=w6.heap.size:=by rw [hw7];exact size_set _ _ _
     have P7:Hid (BoxOf w7 w.heap.size p'):=P6.out.block (by omega) (K7 _ (by omega))
     have R7:Hid (BoxNil w7 (w.heap.size+1)):=R6.out.block (by omega) (K7 _ (by omega))
     have hsn:(f m).isSome=true:=by obtain ⟨_,e,_⟩:=livesR_some HL.out;rw [e];rfl
     have hst:(f (stabT f m)).isSome=true:=by obtain ⟨_,e,_⟩:=livesR_some HQL.out;rw [HT.out,e];rfl
     have HSO:=Lib.hid (fun k=>isSome_stabR hsn hst k)
     clear hsn hst
     have ROW7:Hid (RefRows (fun b=>w1.heap.size<=b) w7 p' (stab1 f m) V1):=by
      rw [hw7,hV1]
      exact ROW6.out.putList FR6.out hm1 _ (stab1 f m) (fun k=>(HSO.out k).1) (livesR_stab1 f m) (idR_stab1 f m) (predR_stab1 f m)
     have FR7:Hid (FreshRows w1.heap.size w7 p'):=by rw [hw7];exact FR6.out.set _ _
     have B7:Hid (RowKit.Below w.heap.size w w7):=by rw [hw7];exact bel_set B6.out (by show w.heap.size<=p'.b4;omega) _
     have LV7:Hid (RefLists (fun b=>((Q b∧b<w.heap.size)∨w.heap.size<=b)∧b≠p'.b4∧b≠w.heap.size+1) w7 (stab1 f m) V1):=fun k hk=>by
      rw [succR_stab1 HT.out]
      by_cases e:k=m
      · subst e
        rw [if_pos rfl,hV1]
        simp only [if_true]
        refine (SlIn.of_slAt (Q:=fun b=>w5.heap.size<=b) S6.out fun _ h=>h).imp (fun b _ hb=>⟨Or.inr (by omega),by omega,by omega⟩) (by omega) (fun b _ hb=>K7 b (by omega))
      · rw [if_neg (by omega),hV1]
        simp only [if_neg e]
        refine (LO6.out k hk).imp (fun b _ hb=>⟨Or.inl hb,by have:=hb.2;omega,by have:=hb.2;omega⟩) (by omega) (fun b _ hb=>K7 b (by have:=hb.2;omega))
     rw [← hw7]
     clear hw7 hV1 P6 R6 ROW6 FR6 LO6 B6 S6 did dpr dls dfz zb6 K7 Z7 hz56 zb5 B56
     have D1:=Lib.hid (dom_stab1 HD.out HL.out HT.out ⟨by omega,by omega⟩)
     have c0:=(P7).out.c0
     have c1:=(P7).out.c1
     have c2:=(P7).out.c2
     have c3:=(P7).out.c3
     have pf0:=(P7).out.f0
     have pf1:=(P7).out.f1
     have pf2:=(P7).out.f2
     have pf3:=(P7).out.f3
     have zp:=(P7).out.z
     have r0:=(R7).out.c0
     have r1:=(R7).out.c1
     have r2:=(R7).out.c2
     have r3:=(R7).out.c3
     have rf0:=(R7).out.f0
     have rf1:=(R7).out.f1
     have rf2:=(R7).out.f2
     have rf3:=(R7).out.f3
     have zr:=(R7).out.z
     obtain ⟨tid,tpr,tls⟩:=ROW7.out.at_peer ht1
     have zb:=ROW7.out.peers.z
     obtain ⟨a7,q7,e7⟩:=(LV7.out s ht1).len
     rw [idR_stab1] at tid
     rw [predR_stab1] at tpr
     rw [e7] at tls
     have E7:=Lib.hid e7
     clear e7
     have tf0:=FR7.out.f4 (p'.o4+s * 3)
     have tf1:=FR7.out.f4 (p'.o4+s * 3+1)
     have tf2:=FR7.out.f4 (p'.o4+s * 3+2)
     have htI:((s:Nat):Int)<32:=by omega
     have hrc:rectR (stab1 f m) (idR f s) (predR f s) m=rectR f (idR f s) (predR f s) m:=rect_congr (livesR_stab1 f m) (idR_stab1 f m) _ _ _
     have CR:=Lib.hid fun (wr:World) (hb:RowKit.Below w7.heap.size w7 wr)=>rrect_any (ROW7.out.below hb) D1.out (idR f s) (predR f s) m (idR_place HD.out s) a7 (succR (stab1 f m) s).length q7
     rw [hrc] at CR
     clear hrc
     refine wp_region_calm_tail (13) (by kernel_rfl) (by kernel_rfl) ?_
     simp only [List.take_succ_cons,List.take_zero,List.drop_succ_cons,List.drop_zero]
     repeat (first | (go_big_quiet_step ((go_at_call 110;exact calls_calm (CR.out _ (by (repeat (first | exact Below.refl _ _ | (with_reducible assumption) | (with_reducible refine bel_later ?_ _) | (with_reducible refine bel_alloc ?_ _) | (with_reducible refine bel_drew ?_) | (with_reducible refine bel_drewN ?_ _) | (with_reducible refine bel_set ?_ (by first | (simp;done) | (simp;omega) | (dsimp only;omega)) _)))))))) | (refine wpQuiet_step (fun K hK=>?_);go_simp;first | (refine hK _ ?_;clear hK K) | (apply Exists.intro;refine ⟨fun _=>?_,hK _ ?_⟩;(go_at_call 110;exact calls_calm (CR.out _ (by (repeat (first | exact Below.refl _ _ | (with_reducible assumption) | (with_reducible refine bel_later ?_ _) | (with_reducible refine bel_alloc ?_ _) | (with_reducible refine bel_drew ?_) | (with_reducible refine bel_drewN ?_ _) | (with_reducible refine bel_set ?_ (by first | (simp;done) | (simp;omega) | (dsimp only;omega)) _))))));clear hK K)))
     refine wpQuiet_nil ?_
     intro _ hw'
     obtain ⟨xq,hw''⟩:=hw'
     subst hw''
     obtain ⟨w8,hB8⟩:=xq
     have P8:=Lib.hid (P7.out.later hB8)
     have R8:=Lib.hid (R7.out.later hB8)
     have ROW8:=Lib.hid (ROW7.out.below hB8)
     have FR8:=Lib.hid (FR7.out.below ROW7.out hB8)
     have LV8:=Lib.hid (LV7.out.below hB8)
     have B8:=Lib.hid (bel_below B7.out hB8)
     clear c0 c1 c2 c3 pf0 pf1 pf2 pf3 zp r0 r1 r2 r3 rf0 rf1 rf2 rf3 zr
     dsimp only
     clear tid tpr tls zb tf0 tf1 tf2 htI hB8 P7 R7 ROW7 FR7 LV7 B7 CR
     obtain ⟨tid,tpr,tls⟩:=ROW8.out.at_peer ht1
     have zb:=ROW8.out.peers.z
     rw [idR_stab1] at tid
     rw [predR_stab1] at tpr
     rw [E7.out] at tls
     have tf0:=FR8.out.f4 (p'.o4+s * 3)
     have tf1:=FR8.out.f4 (p'.o4+s * 3+1)
     have tf2:=FR8.out.f4 (p'.o4+s * 3+2)
     go_upto_region 10 with (fail)
     obtain ⟨w9,hw9⟩:∃ z,z=((w8.setCell ⟨p'.b4,p'.o4+s * 3,none⟩ (.int .u64 (idR f s))).setCell ⟨p'.b4,p'.o4+s * 3+1,none⟩ (.int .i64 (rectR f (idR f s) (predR f s) m))).setCell ⟨p'.b4,p'.o4+s * 3+2,none⟩ (.slice a7 (succR (stab1 f m) s).length q7):=⟨_,rfl⟩
     have K9:∀ b,b≠p'.b4->w9.heap[b]? = w8.heap[b]?:=fun b hb=>by rw [hw9,Below.heap_setCell _ _ _ _ hb,Below.heap_setCell _ _ _ _ hb,Below.heap_setCell _ _ _ _ hb]
     have Z9:w9.heap.size=w8.heap.size:=by rw [hw9];simp only [size_set]
     have P9:Hid (BoxOf w9 w.heap.size p'):=P8.out.block (by omega) (K9 _ (by omega))
     have R9:Hid (BoxNil w9 (w.heap.size+1)):=R8.out.block (by omega) (K9 _ (by omega))
     have ROW9:Hid (RefRows (fun b=>w1.heap.size<=b) w9 p' (stabR f m) V1):=by
      rw [hw9]
      exact ROW8.out.putPeer FR8.out ht1 _ _ _ (stabR f m) (fun k=>(HSO.out k).2.trans (HSO.out k).1.symm) (fun k=>(livesR_stab f m k).trans (livesR_stab1 f m k).symm) (fun k=>(idR_stab f m k).trans (idR_stab1 f m k).symm) (fun k=>predR_stabR HT.out k) (idR_stab1 f m s).symm E7.out.symm
     have LV9:Hid (RefLists (fun b=>((Q b∧b<w.heap.size)∨w.heap.size<=b)∧b≠p'.b4∧b≠w.heap.size+1) w9 (stabR f m) V1):=fun k hk=>by
      rw [succR_stabR]
      exact (LV8.out k hk).imp (fun b _ h=>h) (by omega) (fun b _ h=>K9 b h.2.1)
     have B9:Hid (RowKit.Below w.heap.size w w9):=by
      rw [hw9]
      exact bel_set (bel_set (bel_set B8.out (by show w.heap.size<=p'.b4;omega) _) (by show w.heap.size<=p'.b4;omega) _) (by show w.heap.size<=p'.b4;omega) _
     rw [← hw9]
     clear hw9 K9 Z9 tid tpr tls zb tf0 tf1 tf2 P8 R8 ROW8 FR8 LV8 B8
     have c0:=(P9).out.c0
     have c1:=(P9).out.c1
     have c2:=(P9).out.c2
     have c3:=(P9).out.c3
     have pf0:=(P9).out.f0
     have pf1:=(P9).out.f1
     have pf2:=(P9).out.f2
     have pf3:=(P9).out.f3
     have zp:=(P9).out.z
     have r0:=(R9).out.c0
     have r1:=(R9).out.c1
     have r2:=(R9).out.c2
     have r3:=(R9).out.c3
     have rf0:=(R9).out.f0
     have rf1:=(R9).out.f1
     have rf2:=(R9).out.f2
     have rf3:=(R9).out.f3
     have zr:=(R9).out.z
     go_wp2_with fail
     refine bodyPost_ret (v:=.tuple #[(.agg #[.slice (some ⟨(p').b1,(p').o1,none⟩) 32 (p').k1,.slice (some ⟨(p').b2,(p').o2,none⟩) 32 (p').k2,.slice (some ⟨(p').b3,(p').o3,none⟩) 32 (p').k3,.slice (some ⟨(p').b4,(p').o4,none⟩) 32 (p').k4]),.int .i64 0]) ?_ rfl ?_
     · simp [results,Tryz.results50,go_sem,r0,r1,r2,r3]
     obtain ⟨w10,hw10⟩:∃ z,z=(((w9.setCell ⟨w.heap.size+1,0,none⟩ (.slice (some ⟨p'.b1,p'.o1,none⟩) 32 p'.k1)).setCell ⟨w.heap.size+1,1,none⟩ (.slice (some ⟨p'.b2,p'.o2,none⟩) 32 p'.k2)).setCell ⟨w.heap.size+1,2,none⟩ (.slice (some ⟨p'.b3,p'.o3,none⟩) 32 p'.k3)).setCell ⟨w.heap.size+1,3,none⟩ (.slice (some ⟨p'.b4,p'.o4,none⟩) 32 p'.k4):=⟨_,rfl⟩
     obtain ⟨hz10,hk10⟩:=block_set4 hw10
     have hB:=B9.out
     have B10:RowKit.Below w.heap.size w w10:=by rw [hw10];(repeat (first | exact Below.refl _ _ | (with_reducible assumption) | (with_reducible refine bel_later ?_ _) | (with_reducible refine bel_alloc ?_ _) | (with_reducible refine bel_drew ?_) | (with_reducible refine bel_drewN ?_ _) | (with_reducible refine bel_set ?_ (by first | (simp;done) | (simp;omega) | (dsimp only;omega)) _)))
     rw [← hw10]
     exact ⟨_,rfl,p',V1,rfl,⟨ROW9.out.same (fun b _ h=>Or.inr (by omega)) (by omega) (fun b _ h=>hk10 b (by omega)),LV9.out.same (fun b _ h=>h.1) (by omega) (fun b _ h=>hk10 b h.2.2)⟩,B10⟩
 · have hql:livesR f (predR f s)=true:=by
    unfold nearR at hq
    rw [Bool.and_eq_true,Bool.and_eq_true] at hq
    exact hq.1.2
   have hqd:=livesR_dom HD.out hql
   have HT:Hid (stabT f m=predR f s):=show stabT f m=predR f s by unfold stabT;rw [HS.out,hq];rfl
   rw [hq] at CN
   obtain ⟨t,ht⟩:∃ t:Nat,predR f s=t:=⟨(predR f s).toNat,by omega⟩
   rw [ht] at HT hqd hql CN cpr
   have ht1:t<32:=by omega
   have HQL:=Lib.hid hql
   clear hq hqd hql ht
   go_wp2_with fail
   refine wp_region_calm (by kernel_rfl) (by kernel_rfl) ?_
   repeat (first | (go_big_quiet_step ((go_at_call 108;exact calls_calm (CN.out _ (by (repeat (first | exact Below.refl _ _ | (with_reducible assumption) | (with_reducible refine bel_later ?_ _) | (with_reducible refine bel_alloc ?_ _) | (with_reducible refine bel_drew ?_) | (with_reducible refine bel_drewN ?_ _) | (with_reducible refine bel_set ?_ (by first | (simp;done) | (simp;omega) | (dsimp only;omega)) _)))))))) | (refine wpQuiet_step (fun K hK=>?_);go_simp;first | (refine hK _ ?_;clear hK K) | (apply Exists.intro;refine ⟨fun _=>?_,hK _ ?_⟩;(go_at_call 108;exact calls_calm (CN.out _ (by (repeat (first | exact Below.refl _ _ | (with_reducible assumption) | (with_reducible refine bel_later ?_ _) | (with_reducible refine bel_alloc ?_ _) | (with_reducible refine bel_drew ?_) | (with_reducible refine bel_drewN ?_ _) | (with_reducible refine bel_set ?_ (by first | (simp;done) | (simp;omega) | (dsimp only;omega)) _))))));clear hK K)))
   refine wpQuiet_nil ?_
   intro _ hw'
   obtain ⟨xq,hw''⟩:=hw'
   subst hw''
   obtain ⟨w5,hB5⟩:=xq
   have P5:=Lib.hid (P4.out.later hB5)
   have R5:=Lib.hid (R4.out.later hB5)
   have ROW5:=Lib.hid (ROW4.out.below hB5)
   have FR5:=Lib.hid (FR4.out.below ROW4.out hB5)
   have LO5:=Lib.hid (LO4.out.below hB5)
   have B5:=Lib.hid (bel_below B4.out hB5)
   clear c0 c1 c2 c3 pf0 pf1 pf2 pf3 zp r0 r1 r2 r3 rf0 rf1 rf2 rf3 zr
   dsimp only
   clear cid cpr cls did dpr dls zb hB5 P4 R4 ROW4 FR4 LO4 B4 CN
   have c0:=(P5).out.c0
   have c1:=(P5).out.c1
   have c2:=(P5).out.c2
   have c3:=(P5).out.c3
   have pf0:=(P5).out.f0
   have pf1:=(P5).out.f1
   have pf2:=(P5).out.f2
   have pf3:=(P5).out.f3
   have zp:=(P5).out.z
   have r0:=(R5).out.c0
   have r1:=(R5).out.c1
   have r2:=(R5).out.c2
   have r3:=(R5).out.c3
   have rf0:=(R5).out.f0
   have rf1:=(R5).out.f1
   have rf2:=(R5).out.f2
   have rf3:=(R5).out.f3
   have zr:=(R5).out.z
   obtain ⟨tid,tpr,tls⟩:=ROW5.out.at_peer ht1
   have zb:=ROW5.out.peers.z
   obtain ⟨av,cv,ev⟩:=(LO5.out t ht1).len
   have CF:=Lib.hid fun (wr:World) (hb:RowKit.Below w5.heap.size w5 wr)=>rfollow_any wr t (idR f t) (predR f t) (V t) (succR f t) ((LO5.out t ht1).slAt.below hb) (by have:=(dom_len HD.out t).1;omega)
   rw [ev] at CF
   go_wp2_with fail
   have htI:((t:Nat):Int)<32:=by omega
   have hmI:((m:Nat):Int)<32:=by omega
   refine wp_region_tame 9 12 (fun w'=>∃ x:Later w5,w'=x.world) (by kernel_rfl) (by kernel_rfl) ⟨⟨{ w5 with drawn:=w5.drawn+1 },(RowKit.Below.refl _ _).drew⟩,rfl⟩ ?_ ?_
   · intro d v c a w h
     cases d <;> exact h
   · simp only [List.take_succ_cons,List.take_zero,List.drop_succ_cons,List.drop_zero]
     repeat (refine wpTame_step (fun K hK=>?_);go_simp;refine hK _ ?_;clear hK K)
     refine wpTame_nil ?_
     refine wpSeqC_step (by decide) (fun R hR=>?_)
     go_wp2_with fail
     refine (CF.out _ (bel_drew (RowKit.Below.refl _ _))).mono ?_
     rintro e w6 ⟨v6,rfl,hs6,hB6⟩
     have B56:RowKit.Below w5.heap.size w5 w6:=(bel_drew (RowKit.Below.refl _ _)).trans (hB6.mono (by simp))
     obtain ⟨a6,q6,rfl,_⟩:=hs6.slice
     have S6:=Lib.hid (hs6.base (show w5.heap.size<=_ by simp))
     clear hs6 hB6
     go_wp2_with fail
     refine hR _ _ ⟨⟨w6,B56⟩,rfl⟩ ?_
     clear hR R
     refine wpSeqC_step (by decide) (fun R hR=>?_)
     go_wp2_with fail
     refine hR _ _ ⟨⟨w6,B56⟩,rfl⟩ ?_
     clear hR R
     refine wpSeqC_step (by decide) (fun R hR=>?_)
     go_wp2_with fail
     refine hR _ _ ⟨⟨w6,B56⟩,rfl⟩ ?_
     clear hR R
     refine wpSeqC_list (by decide) ?_
     have P6:=Lib.hid (P5.out.later B56)
     have R6:=Lib.hid (R5.out.later B56)
     have ROW6:=Lib.hid (ROW5.out.below B56)
     have FR6:=Lib.hid (FR5.out.below ROW5.out B56)
     have LO6:=Lib.hid (LO5.out.below B56)
     have B6:=Lib.hid (bel_below B5.out B56)
     obtain ⟨did,dpr,dls⟩:=ROW6.out.at_peer hm1
     have dfz:=FR6.out.f4 (p'.o4+m * 3+2)
     have zb6:=ROW6.out.peers.z
     have hz56:=B56.size
     have zb5:=ROW5.out.peers.z
     clear c0 c1 c2 c3 pf0 pf1 pf2 pf3 zp r0 r1 r2 r3 rf0 rf1 rf2 rf3 zr
     clear tid tpr tls zb P5 R5 ROW5 FR5 LO5 B5 CF ev htI hmI
     go_wp2_with fail
     obtain ⟨w7,hw7⟩:∃ z,z=w6.setCell ⟨p'.b4,p'.o4+m * 3+2,none⟩ (.slice a6 (followL t (succR f t)).length q6):=⟨_,rfl⟩
     obtain ⟨V1,hV1⟩:∃ V1:Nat->Value,V1=fun k=>if k=m then .slice a6 (followL t (succR f t)).length q6 else V k:=⟨_,rfl⟩
     have hbm:=FR6.out.m4
     have K7:∀ b,b≠p'.b4->w7.heap[b]? = w6.heap[b]?:=fun b hb=>by rw [hw7];exact Below.heap_setCell _ _ _ _ hb
     have Z7:w7.heap.size=w6.heap.size:=by rw [hw7];exact size_set _ _ _
     have P7:Hid (BoxOf w7 w.heap.size p'):=P6.out.block (by omega) (K7 _ (by omega))
     have R7:Hid (BoxNil w7 (w.heap.size+1)):=R6.out.block (by omega) (K7 _ (by omega))
     have hsn:(f m).isSome=true:=by obtain ⟨_,e,_⟩:=livesR_some HL.out;rw [e];rfl
     have hst:(f (stabT f m)).isSome=true:=by obtain ⟨_,e,_⟩:=livesR_some HQL.out;rw [HT.out,e];rfl
     have HSO:=Lib.hid (fun k=>isSome_stabR hsn hst k)
     clear hsn hst
     have ROW7:Hid (RefRows (fun b=>w1.heap.size<=b) w7 p' (stab1 f m) V1):=by
      rw [hw7,hV1]
      exact ROW6.out.putList FR6.out hm1 _ (stab1 f m) (fun k=>(HSO.out k).1) (livesR_stab1 f m) (idR_stab1 f m) (predR_stab1 f m)
     have FR7:Hid (FreshRows w1.heap.size w7 p'):=by rw [hw7];exact FR6.out.set _ _
     have B7:Hid (RowKit.Below w.heap.size w w7):=by rw [hw7];exact bel_set B6.out (by show w.heap.size<=p'.b4;omega) _
     have LV7:Hid (RefLists (fun b=>((Q b∧b<w.heap.size)∨w.heap.size<=b)∧b≠p'.b4∧b≠w.heap.size+1) w7 (stab1 f m) V1):=fun k hk=>by
      rw [succR_stab1 HT.out]
      by_cases e:k=m
      · subst e
        rw [if_pos rfl,hV1]
        simp only [if_true]
        refine (SlIn.of_slAt (Q:=fun b=>w5.heap.size<=b) S6.out fun _ h=>h).imp (fun b _ hb=>⟨Or.inr (by omega),by omega,by omega⟩) (by omega) (fun b _ hb=>K7 b (by omega))
      · rw [if_neg (by omega),hV1]
        simp only [if_neg e]
        refine (LO6.out k hk).imp (fun b _ hb=>⟨Or.inl hb,by have:=hb.2;omega,by have:=hb.2;omega⟩) (by omega) (fun b _ hb=>K7 b (by have:=hb.2;omega))
     rw [← hw7]
     clear hw7 hV1 P6 R6 ROW6 FR6 LO6 B6 S6 did dpr dls dfz zb6 K7 Z7 hz56 zb5 B56
     have D1:=Lib.hid (dom_stab1 HD.out HL.out HT.out ⟨by omega,by omega⟩)
     have c0:=(P7).out.c0
     have c1:=(P7).out.c1
     have c2:=(P7).out.c2
     have c3:=(P7).out.c3
     have pf0:=(P7).out.f0
     have pf1:=(P7).out.f1
     have pf2:=(P7).out.f2
     have pf3:=(P7).out.f3
     have zp:=(P7).out.z
     have r0:=(R7).out.c0
     have r1:=(R7).out.c1
     have r2:=(R7).out.c2
     have r3:=(R7).out.c3
     have rf0:=(R7).out.f0
     have rf1:=(R7).out.f1
     have rf2:=(R7).out.f2
     have rf3:=(R7).out.f3
     have zr:=(R7).out.z
     obtain ⟨tid,tpr,tls⟩:=ROW7.out.at_peer ht1
     have zb:=ROW7.out.peers.z
     obtain ⟨a7,q7,e7⟩:=(LV7.out t ht1).len
     rw [idR_stab1] at tid
     rw [predR_stab1] at tpr
     rw [e7] at tls
     have E7:=Lib.hid e7
     clear e7
     have tf0:=FR7.out.f4 (p'.o4+t * 3)
     have tf1:=FR7.out.f4 (p'.o4+t * 3+1)
     have tf2:=FR7.out.f4 (p'.o4+t * 3+2)
     have htI:((t:Nat):Int)<32:=by omega
     have hrc:rectR (stab1 f m) (idR f t) (predR f t) m=rectR f (idR f t) (predR f t) m:=rect_congr (livesR_stab1 f m) (idR_stab1 f m) _ _ _
     have CR:=Lib.hid fun (wr:World) (hb:RowKit.Below w7.heap.size w7 wr)=>rrect_any (ROW7.out.below hb) D1.out (idR f t) (predR f t) m (idR_place HD.out t) a7 (succR (stab1 f m) t).length q7
     rw [hrc] at CR
     clear hrc
     refine wp_region_calm_tail (13) (by kernel_rfl) (by kernel_rfl) ?_
     simp only [List.take_succ_cons,List.take_zero,List.drop_succ_cons,List.drop_zero]
     repeat (first | (go_big_quiet_step ((go_at_call 110;exact calls_calm (CR.out _ (by (repeat (first | exact Below.refl _ _ | (with_reducible assumption) | (with_reducible refine bel_later ?_ _) | (with_reducible refine bel_alloc ?_ _) | (with_reducible refine bel_drew ?_) | (with_reducible refine bel_drewN ?_ _) | (with_reducible refine bel_set ?_ (by first | (simp;done) | (simp;omega) | (dsimp only;omega)) _)))))))) | (refine wpQuiet_step (fun K hK=>?_);go_simp;first | (refine hK _ ?_;clear hK K) | (apply Exists.intro;refine ⟨fun _=>?_,hK _ ?_⟩;(go_at_call 110;exact calls_calm (CR.out _ (by (repeat (first | exact Below.refl _ _ | (with_reducible assumption) | (with_reducible refine bel_later ?_ _) | (with_reducible refine bel_alloc ?_ _) | (with_reducible refine bel_drew ?_) | (with_reducible refine bel_drewN ?_ _) | (with_reducible refine bel_set ?_ (by first | (simp;done) | (simp;omega) | (dsimp only;omega)) _))))));clear hK K)))
     refine wpQuiet_nil ?_
     intro _ hw'
     obtain ⟨xq,hw''⟩:=hw'
     subst hw''
     obtain ⟨w8,hB8⟩:=xq
     have P8:=Lib.hid (P7.out.later hB8)
     have R8:=Lib.hid (R7.out.later hB8)
     have ROW8:=Lib.hid (ROW7.out.below hB8)
     have FR8:=Lib.hid (FR7.out.below ROW7.out hB8)
     have LV8:=Lib.hid (LV7.out.below hB8)
     have B8:=Lib.hid (bel_below B7.out hB8)
     clear c0 c1 c2 c3 pf0 pf1 pf2 pf3 zp r0 r1 r2 r3 rf0 rf1 rf2 rf3 zr
     dsimp only
     clear tid tpr tls zb tf0 tf1 tf2 htI hB8 P7 R7 ROW7 FR7 LV7 B7 CR
     obtain ⟨tid,tpr,tls⟩:=ROW8.out.at_peer ht1
     have zb:=ROW8.out.peers.z
     rw [idR_stab1] at tid
     rw [predR_stab1] at tpr
     rw [E7.out] at tls
     have tf0:=FR8.out.f4 (p'.o4+t * 3)
     have tf1:=FR8.out.f4 (p'.o4+t * 3+1)
     have tf2:=FR8.out.f4 (p'.o4+t * 3+2)
     go_upto_region 10 with (fail)
     obtain ⟨w9,hw9⟩:∃ z,z=((w8.setCell ⟨p'.b4,p'.o4+t * 3,none⟩ (.int .u64 (idR f t))).setCell ⟨p'.b4,p'.o4+t * 3+1,none⟩ (.int .i64 (rectR f (idR f t) (predR f t) m))).setCell ⟨p'.b4,p'.o4+t * 3+2,none⟩ (.slice a7 (succR (stab1 f m) t).length q7):=⟨_,rfl⟩
     have K9:∀ b,b≠p'.b4->w9.heap[b]? = w8.heap[b]?:=fun b hb=>by rw [hw9,Below.heap_setCell _ _ _ _ hb,Below.heap_setCell _ _ _ _ hb,Below.heap_setCell _ _ _ _ hb]
     have Z9:w9.heap.size=w8.heap.size:=by rw [hw9];simp only [size_set]
     have P9:Hid (BoxOf w9 w.heap.size p'):=P8.out.block (by omega) (K9 _ (by omega))
     have R9:Hid (BoxNil w9 (w.heap.size+1)):=R8.out.block (by omega) (K9 _ (by omega))
     have ROW9:Hid (RefRows (fun b=>w1.heap.size<=b) w9 p' (stabR f m) V1):=by
      rw [hw9]
      exact ROW8.out.putPeer FR8.out ht1 _ _ _ (stabR f m) (fun k=>(HSO.out k).2.trans (HSO.out k).1.symm) (fun k=>(livesR_stab f m k).trans (livesR_stab1 f m k).symm) (fun k=>(idR_stab f m k).trans (idR_stab1 f m k).symm) (fun k=>predR_stabR HT.out k) (idR_stab1 f m t).symm E7.out.symm
     have LV9:Hid (RefLists (fun b=>((Q b∧b<w.heap.size)∨w.heap.size<=b)∧b≠p'.b4∧b≠w.heap.size+1) w9 (stabR f m) V1):=fun k hk=>by
      rw [succR_stabR]
      exact (LV8.out k hk).imp (fun b _ h=>h) (by omega) (fun b _ h=>K9 b h.2.1)
     have B9:Hid (RowKit.Below w.heap.size w w9):=by
      rw [hw9]
      exact bel_set (bel_set (bel_set B8.out (by show w.heap.size<=p'.b4;omega) _) (by show w.heap.size<=p'.b4;omega) _) (by show w.heap.size<=p'.b4;omega) _
     rw [← hw9]
     clear hw9 K9 Z9 tid tpr tls zb tf0 tf1 tf2 P8 R8 ROW8 FR8 LV8 B8
     have c0:=(P9).out.c0
     have c1:=(P9).out.c1
     have c2:=(P9).out.c2
     have c3:=(P9).out.c3
     have pf0:=(P9).out.f0
     have pf1:=(P9).out.f1
     have pf2:=(P9).out.f2
     have pf3:=(P9).out.f3
     have zp:=(P9).out.z
     have r0:=(R9).out.c0
     have r1:=(R9).out.c1
     have r2:=(R9).out.c2
     have r3:=(R9).out.c3
     have rf0:=(R9).out.f0
     have rf1:=(R9).out.f1
     have rf2:=(R9).out.f2
     have rf3:=(R9).out.f3
     have zr:=(R9).out.z
     go_wp2_with fail
     refine bodyPost_ret (v:=.tuple #[(.agg #[.slice (some ⟨(p').b1,(p').o1,none⟩) 32 (p').k1,.slice (some ⟨(p').b2,(p').o2,none⟩) 32 (p').k2,.slice (some ⟨(p').b3,(p').o3,none⟩) 32 (p').k3,.slice (some ⟨(p').b4,(p').o4,none⟩) 32 (p').k4]),.int .i64 0]) ?_ rfl ?_
     · simp [results,Tryz.results50,go_sem,r0,r1,r2,r3]
     obtain ⟨w10,hw10⟩:∃ z,z=(((w9.setCell ⟨w.heap.size+1,0,none⟩ (.slice (some ⟨p'.b1,p'.o1,none⟩) 32 p'.k1)).setCell ⟨w.heap.size+1,1,none⟩ (.slice (some ⟨p'.b2,p'.o2,none⟩) 32 p'.k2)).setCell ⟨w.heap.size+1,2,none⟩ (.slice (some ⟨p'.b3,p'.o3,none⟩) 32 p'.k3)).setCell ⟨w.heap.size+1,3,none⟩ (.slice (some ⟨p'.b4,p'.o4,none⟩) 32 p'.k4):=⟨_,rfl⟩
     obtain ⟨hz10,hk10⟩:=block_set4 hw10
     have hB:=B9.out
     have B10:RowKit.Below w.heap.size w w10:=by rw [hw10];(repeat (first | exact Below.refl _ _ | (with_reducible assumption) | (with_reducible refine bel_later ?_ _) | (with_reducible refine bel_alloc ?_ _) | (with_reducible refine bel_drew ?_) | (with_reducible refine bel_drewN ?_ _) | (with_reducible refine bel_set ?_ (by first | (simp;done) | (simp;omega) | (dsimp only;omega)) _)))
     rw [← hw10]
     exact ⟨_,rfl,p',V1,rfl,⟨ROW9.out.same (fun b _ h=>Or.inr (by omega)) (by omega) (fun b _ h=>hk10 b (by omega)),LV9.out.same (fun b _ h=>h.1) (by omega) (fun b _ h=>hk10 b h.2.2)⟩,B10⟩
end
end Go.Proofs.YtahiahjhpakeiaaGreatDoor
