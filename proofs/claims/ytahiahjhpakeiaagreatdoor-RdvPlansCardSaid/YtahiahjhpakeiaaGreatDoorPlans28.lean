/-
  The document's Join.
-/
import Derived.Test.YtahiahjhpakeiaaGreatDoorPlans6
namespace Go.Proofs.YtahiahjhpakeiaaGreatDoor
open Go.RowKit Go.Maps Go.Sort
set_option linter.unusedVariables false
set_option linter.unusedSimpArgs false
section
attribute [local go_sem] later_cell later_frozen later_lt cell_set_off cell_set_block
variable {Q:Nat->Prop} {w w':World} {p:Where} {f:RS} {V:Nat->Value}
theorem joined_used (f:RS) (m:Nat) (M:Mem) (j:Nat):(if j=m then Value.bool true else .bool (f j).isSome) = .bool (setM f m M j).isSome:=by
 rw [isSome_set]
 by_cases e:j=m
 · rw [if_pos e,if_pos (by omega)]
 · rw [if_neg e,if_neg (by omega)]
theorem joined_live (f:RS) (m:Nat) (id x:Int) (l:List Int) (j:Nat):(if j=m then Value.bool true else .bool (livesR f j)) = .bool (livesR (setM f m ⟨true,id,x,l⟩) j):=by
 rw [livesR_set]
 by_cases e:j=m
 · rw [if_pos e,if_pos (by omega)]
 · rw [if_neg e,if_neg (by omega)]
theorem joined_ids (f:RS) (m:Nat) (id x:Int) (l:List Int) (j:Nat):(if j=m then Value.int .u64 id else .int .u64 (idR f j)) = .int .u64 (idR (setM f m ⟨true,id,x,l⟩) j):=by
 rw [idR_set]
 by_cases e:j=m
 · rw [if_pos e,if_pos (by omega)]
 · rw [if_neg e,if_neg (by omega)]
theorem joined_peers {u:World} {b o k m:Nat} (h:Row32 Q u 3 (peerC f V) b o k) (hm:m<32) (id x:Int) (v:Value) (l:List Int) :
 Row32 Q (((u.setCell ⟨b,o+m * 3,none⟩ (.int .u64 id)).setCell ⟨b,o+m * 3+1,none⟩ (.int .i64 x)).setCell ⟨b,o+m * 3+2,none⟩ v) 3 (peerC (setM f m ⟨true,id,x,l⟩) (fun k=>if k=m then v else V k)) b o k:=by
 rw [Nat.add_assoc,Nat.add_assoc]
 refine (((h.set (j:=m * 3) (by omega) _).set (j:=m * 3+1) (by omega) _).set (j:=m * 3+2) (by omega) v).congr fun j hj=>?_
 unfold peerC
 rw [idR_set,predR_set]
 by_cases e2:j=m * 3+2
 · subst e2
   rw [if_pos rfl,if_neg (by omega),if_neg (by omega)]
   show v=if (m * 3+2) / 3=m then v else V ((m * 3+2) / 3)
   rw [if_pos (by omega)]
 · rw [if_neg e2]
   by_cases e1:j=m * 3+1
   · subst e1
     rw [if_pos rfl,if_neg (by omega),if_pos (by omega),if_pos (by omega)]
   · rw [if_neg e1]
     by_cases e0:j=m * 3
     · subst e0
       rw [if_pos rfl,if_pos (by omega),if_pos (by omega)]
     · rw [if_neg e0]
       split
       · rw [if_neg (by omega)]
       · split
         · rw [if_neg (by omega)]
         · show V (j / 3)=if j / 3=m then v else V (j / 3)
           rw [if_neg (by omega)]
theorem joinR_same {f:RS} {n id via c:Int} (h1:joinC f n id via=c) (h2:c≠0):joinR f n id via=f:=by unfold joinR;rw [h1,if_neg h2]
set_option maxRecDepth 100000 in
set_option maxHeartbeats 8000000 in
theorem rjoin_any (h:RefIs Q w p f V) (I:Inv f) (n id via:Int) (hid:isPlace id):Calls Tryz.prog 46 #[(.agg #[.slice (some ⟨(p).b1,(p).o1,none⟩) 32 (p).k1,.slice (some ⟨(p).b2,(p).o2,none⟩) 32 (p).k2,.slice (some ⟨(p).b3,(p).o3,none⟩) 32 (p).k3,.slice (some ⟨(p).b4,(p).o4,none⟩) 32 (p).k4]),.int .i64 n,.int .u64 id,.int .i64 via] w (RefAns Q w (joinR f n id via) (joinC f n id via)):=by
 have HNo:Hid (∀ (c:Int) w',joinC f n id via=c->c≠0->RowKit.Below w.heap.size w w'->RefAns Q w (joinR f n id via) (joinC f n id via) (.returned (.tuple #[(.agg #[.slice (some ⟨(p).b1,(p).o1,none⟩) 32 (p).k1,.slice (some ⟨(p).b2,(p).o2,none⟩) 32 (p).k2,.slice (some ⟨(p).b3,(p).o3,none⟩) 32 (p).k3,.slice (some ⟨(p).b4,(p).o4,none⟩) 32 (p).k4]),.int .i64 c])) w'):=fun c w' h1 h2 h3=>by
  rw [joinR_same h1 h2,h1];exact RefAns.same h rfl h3
 by_cases hr:n<0∨32<=n
 · have hc:Hid (joinC f n id via=1):=show joinC f n id via=1 by unfold joinC;rw [if_pos hr]
   clear h I
   have hr2:n<0 ∨ ¬ n<0∧31<n:=by omega
   clear hr
   rcases hr2 with hr | ⟨hr,hr3⟩
   all_goals
    go_enter Tryz.func46,Tryz.ntmps46
    go_upto_region 1 with (fail)
    obtain ⟨w0,hw0⟩:∃ z,z=(w.alloc (.cells #[.slice (some ⟨p.b1,p.o1,none⟩) 32 p.k1,.slice (some ⟨p.b2,p.o2,none⟩) 32 p.k2,.slice (some ⟨p.b3,p.o3,none⟩) 32 p.k3,.slice (some ⟨p.b4,p.o4,none⟩) 32 p.k4] 32)).alloc (.cells #[.slice none 0 0,.slice none 0 0,.slice none 0 0,.slice none 0 0] 32):=⟨_,rfl⟩
    have B0:Hid (RowKit.Below w.heap.size w w0):=by rw [hw0];exact bel_alloc (bel_alloc (RowKit.Below.refl _ _) _) _
    have P0:Hid (BoxOf w0 w.heap.size p):=by rw [hw0];exact ⟨by simp [go_sem],by simp [go_sem],by simp [go_sem],by simp [go_sem],by simp [go_sem],by simp [go_sem],by simp [go_sem],by simp [go_sem],by simp;omega⟩
    have R0:Hid (BoxNil w0 (w.heap.size+1)):=by rw [hw0];exact ⟨by simp [go_sem],by simp [go_sem],by simp [go_sem],by simp [go_sem],by simp [go_sem],by simp [go_sem],by simp [go_sem],by simp [go_sem],by simp⟩
    rw [← hw0]
    clear hw0
    have c0:=(P0).out.c0
    have c1:=(P0).out.c1
    have c2:=(P0).out.c2
    have c3:=(P0).out.c3
    have pf0:=(P0).out.f0
    have pf1:=(P0).out.f1
    have pf2:=(P0).out.f2
    have pf3:=(P0).out.f3
    have zp:=(P0).out.z
    have r0:=(R0).out.c0
    have r1:=(R0).out.c1
    have r2:=(R0).out.c2
    have r3:=(R0).out.c3
    have rf0:=(R0).out.f0
    have rf1:=(R0).out.f1
    have rf2:=(R0).out.f2
    have rf3:=(R0).out.f3
    have zr:=(R0).out.z
    go_wp2_with fail
    have hB:=B0.out
    refine bodyPost_ret (v:=.tuple #[(.agg #[.slice (some ⟨(p).b1,(p).o1,none⟩) 32 (p).k1,.slice (some ⟨(p).b2,(p).o2,none⟩) 32 (p).k2,.slice (some ⟨(p).b3,(p).o3,none⟩) 32 (p).k3,.slice (some ⟨(p).b4,(p).o4,none⟩) 32 (p).k4]),.int .i64 1]) ?_ rfl ?_
    · simp [results,Tryz.results46,go_sem,r0,r1,r2,r3]
    exact HNo.out 1 _ hc.out (by decide) (by (repeat (first | exact Below.refl _ _ | (with_reducible assumption) | (with_reducible refine bel_later ?_ _) | (with_reducible refine bel_alloc ?_ _) | (with_reducible refine bel_drew ?_) | (with_reducible refine bel_drewN ?_ _) | (with_reducible refine bel_set ?_ (by first | (simp;done) | (simp;omega) | (dsimp only;omega)) _))))
 have HR:=Lib.hid hr
 obtain ⟨m,rfl⟩:∃ m:Nat,n=m:=⟨n.toNat,by omega⟩
 have hm1:m<32:=by omega
 have hmI:((m:Nat):Int)<32:=by omega
 have hm31:¬ (31:Int)<((m:Nat):Int):=by omega
 have hm0:¬ ((m:Nat):Int)<0:=by omega
 have cu:=h.rows.at_used hm1
 have zu:=h.rows.used.z
 clear hr
 cases hfn:f m with
 | some M =>
   have hc:Hid (joinC f m id via=7):=show joinC f m id via=7 by unfold joinC;rw [if_neg HR.out,hfn];rfl
   rw [hfn] at cu
   clear h I hfn
   go_enter Tryz.func46,Tryz.ntmps46
   go_upto_region 1 with (fail)
   obtain ⟨w0,hw0⟩:∃ z,z=(w.alloc (.cells #[.slice (some ⟨p.b1,p.o1,none⟩) 32 p.k1,.slice (some ⟨p.b2,p.o2,none⟩) 32 p.k2,.slice (some ⟨p.b3,p.o3,none⟩) 32 p.k3,.slice (some ⟨p.b4,p.o4,none⟩) 32 p.k4] 32)).alloc (.cells #[.slice none 0 0,.slice none 0 0,.slice none 0 0,.slice none 0 0] 32):=⟨_,rfl⟩
   have B0:Hid (RowKit.Below w.heap.size w w0):=by rw [hw0];exact bel_alloc (bel_alloc (RowKit.Below.refl _ _) _) _
   have P0:Hid (BoxOf w0 w.heap.size p):=by rw [hw0];exact ⟨by simp [go_sem],by simp [go_sem],by simp [go_sem],by simp [go_sem],by simp [go_sem],by simp [go_sem],by simp [go_sem],by simp [go_sem],by simp;omega⟩
   have R0:Hid (BoxNil w0 (w.heap.size+1)):=by rw [hw0];exact ⟨by simp [go_sem],by simp [go_sem],by simp [go_sem],by simp [go_sem],by simp [go_sem],by simp [go_sem],by simp [go_sem],by simp [go_sem],by simp⟩
   rw [← hw0]
   clear hw0
   have c0:=(P0).out.c0
   have c1:=(P0).out.c1
   have c2:=(P0).out.c2
   have c3:=(P0).out.c3
   have pf0:=(P0).out.f0
   have pf1:=(P0).out.f1
   have pf2:=(P0).out.f2
   have pf3:=(P0).out.f3
   have zp:=(P0).out.z
   have r0:=(R0).out.c0
   have r1:=(R0).out.c1
   have r2:=(R0).out.c2
   have r3:=(R0).out.c3
   have rf0:=(R0).out.f0
   have rf1:=(R0).out.f1
   have rf2:=(R0).out.f2
   have rf3:=(R0).out.f3
   have zr:=(R0).out.z
   have hB:=B0.out
   have cu:=(hB.cell (p:=⟨_,_,none⟩) zu).trans cu
   have zu:=Nat.lt_of_lt_of_le zu hB.size
   go_wp2_with fail
   refine bodyPost_ret (v:=.tuple #[(.agg #[.slice (some ⟨(p).b1,(p).o1,none⟩) 32 (p).k1,.slice (some ⟨(p).b2,(p).o2,none⟩) 32 (p).k2,.slice (some ⟨(p).b3,(p).o3,none⟩) 32 (p).k3,.slice (some ⟨(p).b4,(p).o4,none⟩) 32 (p).k4]),.int .i64 7]) ?_ rfl ?_
   · simp [results,Tryz.results46,go_sem,r0,r1,r2,r3]
   exact HNo.out 7 _ hc.out (by decide) (by (repeat (first | exact Below.refl _ _ | (with_reducible assumption) | (with_reducible refine bel_later ?_ _) | (with_reducible refine bel_alloc ?_ _) | (with_reducible refine bel_drew ?_) | (with_reducible refine bel_drewN ?_ _) | (with_reducible refine bel_set ?_ (by first | (simp;done) | (simp;omega) | (dsimp only;omega)) _))))
 | none =>
   rw [hfn] at cu
   have cl:=Lib.hid fun (wr:World) (hb:RowKit.Below w.heap.size w wr)=>rlives_any (h.rows.below hb) I.dom via
   cases hlv:livesR f via with
   | false =>
     have hc:Hid (joinC f m id via=6):=show joinC f m id via=6 by unfold joinC;rw [if_neg HR.out,hfn,hlv];rfl
     rw [hlv] at cl
     clear h I hfn hlv
     go_enter Tryz.func46,Tryz.ntmps46
     go_upto_region 1 with (fail)
     obtain ⟨w0,hw0⟩:∃ z,z=(w.alloc (.cells #[.slice (some ⟨p.b1,p.o1,none⟩) 32 p.k1,.slice (some ⟨p.b2,p.o2,none⟩) 32 p.k2,.slice (some ⟨p.b3,p.o3,none⟩) 32 p.k3,.slice (some ⟨p.b4,p.o4,none⟩) 32 p.k4] 32)).alloc (.cells #[.slice none 0 0,.slice none 0 0,.slice none 0 0,.slice none 0 0] 32):=⟨_,rfl⟩
     have B0:Hid (RowKit.Below w.heap.size w w0):=by rw [hw0];exact bel_alloc (bel_alloc (RowKit.Below.refl _ _) _) _
     have P0:Hid (BoxOf w0 w.heap.size p):=by rw [hw0];exact ⟨by simp [go_sem],by simp [go_sem],by simp [go_sem],by simp [go_sem],by simp [go_sem],by simp [go_sem],by simp [go_sem],by simp [go_sem],by simp;omega⟩
     have R0:Hid (BoxNil w0 (w.heap.size+1)):=by rw [hw0];exact ⟨by simp [go_sem],by simp [go_sem],by simp [go_sem],by simp [go_sem],by simp [go_sem],by simp [go_sem],by simp [go_sem],by simp [go_sem],by simp⟩
     rw [← hw0]
     clear hw0
     have c0:=(P0).out.c0
     have c1:=(P0).out.c1
     have c2:=(P0).out.c2
     have c3:=(P0).out.c3
     have pf0:=(P0).out.f0
     have pf1:=(P0).out.f1
     have pf2:=(P0).out.f2
     have pf3:=(P0).out.f3
     have zp:=(P0).out.z
     have r0:=(R0).out.c0
     have r1:=(R0).out.c1
     have r2:=(R0).out.c2
     have r3:=(R0).out.c3
     have rf0:=(R0).out.f0
     have rf1:=(R0).out.f1
     have rf2:=(R0).out.f2
     have rf3:=(R0).out.f3
     have zr:=(R0).out.z
     have hB0:=B0.out
     have cu:=(hB0.cell (p:=⟨_,_,none⟩) zu).trans cu
     have zu:=Nat.lt_of_lt_of_le zu hB0.size
     go_wp2_with fail
     refine (cl.out _ hB0).mono ?_
     rintro e w1 ⟨rfl,hb⟩
     have P1:=Lib.hid (P0.out.later hb)
     have R1:=Lib.hid (R0.out.later hb)
     have hB:=bel_below B0.out hb
     clear c0 c1 c2 c3 pf0 pf1 pf2 pf3 zp r0 r1 r2 r3 rf0 rf1 rf2 rf3 zr
     have c0:=(P1).out.c0
     have c1:=(P1).out.c1
     have c2:=(P1).out.c2
     have c3:=(P1).out.c3
     have pf0:=(P1).out.f0
     have pf1:=(P1).out.f1
     have pf2:=(P1).out.f2
     have pf3:=(P1).out.f3
     have zp:=(P1).out.z
     have r0:=(R1).out.c0
     have r1:=(R1).out.c1
     have r2:=(R1).out.c2
     have r3:=(R1).out.c3
     have rf0:=(R1).out.f0
     have rf1:=(R1).out.f1
     have rf2:=(R1).out.f2
     have rf3:=(R1).out.f3
     have zr:=(R1).out.z
     clear cu zu hB0
     go_wp2_with fail
     refine bodyPost_ret (v:=.tuple #[(.agg #[.slice (some ⟨(p).b1,(p).o1,none⟩) 32 (p).k1,.slice (some ⟨(p).b2,(p).o2,none⟩) 32 (p).k2,.slice (some ⟨(p).b3,(p).o3,none⟩) 32 (p).k3,.slice (some ⟨(p).b4,(p).o4,none⟩) 32 (p).k4]),.int .i64 6]) ?_ rfl ?_
     · simp [results,Tryz.results46,go_sem,r0,r1,r2,r3]
     exact HNo.out 6 _ hc.out (by decide) (by (repeat (first | exact Below.refl _ _ | (with_reducible assumption) | (with_reducible refine bel_later ?_ _) | (with_reducible refine bel_alloc ?_ _) | (with_reducible refine bel_drew ?_) | (with_reducible refine bel_drewN ?_ _) | (with_reducible refine bel_set ?_ (by first | (simp;done) | (simp;omega) | (dsimp only;omega)) _))))
   | true =>
     rw [hlv] at cl
     have H:=Lib.hid h
     have HI:=Lib.hid I
     have CLV:=Lib.hid fun (wr:World) (hb:RowKit.Below w.heap.size w wr)=>rlive_any (h.rows.below hb)
     have CC:=Lib.hid fun (wr:World) (hb:RowKit.Below w.heap.size w wr)=>rcopy_any (h.rows.below hb) fun k hk=>h.list.one k hk
     have hlen:=length_liveL f
     have hmem:=Lib.hid (fun x (hx:x∈liveL f)=>(mem_liveL I.dom).1 hx)
     have hC4:Hid (joinC f m id via=if (liveL f).any (fun k=>idR f k == id) then 8 else match joinAt f id 33 via with | some _=>0 | none=>5) :=
      show joinC f m id via=_ by unfold joinC;rw [if_neg HR.out,hfn,hlv];rfl
     have HV:=Lib.hid hlv
     have HFN:=Lib.hid hfn
     obtain ⟨L,hL⟩:∃ L,L=liveL f:=⟨_,rfl⟩
     rw [← hL] at CLV hlen hmem hC4
     clear h I hfn hlv hL
     go_enter Tryz.func46,Tryz.ntmps46
     go_upto_region 1 with (fail)
     obtain ⟨w0,hw0⟩:∃ z,z=(w.alloc (.cells #[.slice (some ⟨p.b1,p.o1,none⟩) 32 p.k1,.slice (some ⟨p.b2,p.o2,none⟩) 32 p.k2,.slice (some ⟨p.b3,p.o3,none⟩) 32 p.k3,.slice (some ⟨p.b4,p.o4,none⟩) 32 p.k4] 32)).alloc (.cells #[.slice none 0 0,.slice none 0 0,.slice none 0 0,.slice none 0 0] 32):=⟨_,rfl⟩
     have B0:Hid (RowKit.Below w.heap.size w w0):=by rw [hw0];exact bel_alloc (bel_alloc (RowKit.Below.refl _ _) _) _
     have P0:Hid (BoxOf w0 w.heap.size p):=by rw [hw0];exact ⟨by simp [go_sem],by simp [go_sem],by simp [go_sem],by simp [go_sem],by simp [go_sem],by simp [go_sem],by simp [go_sem],by simp [go_sem],by simp;omega⟩
     have R0:Hid (BoxNil w0 (w.heap.size+1)):=by rw [hw0];exact ⟨by simp [go_sem],by simp [go_sem],by simp [go_sem],by simp [go_sem],by simp [go_sem],by simp [go_sem],by simp [go_sem],by simp [go_sem],by simp⟩
     rw [← hw0]
     clear hw0
     have c0:=(P0).out.c0
     have c1:=(P0).out.c1
     have c2:=(P0).out.c2
     have c3:=(P0).out.c3
     have pf0:=(P0).out.f0
     have pf1:=(P0).out.f1
     have pf2:=(P0).out.f2
     have pf3:=(P0).out.f3
     have zp:=(P0).out.z
     have r0:=(R0).out.c0
     have r1:=(R0).out.c1
     have r2:=(R0).out.c2
     have r3:=(R0).out.c3
     have rf0:=(R0).out.f0
     have rf1:=(R0).out.f1
     have rf2:=(R0).out.f2
     have rf3:=(R0).out.f3
     have zr:=(R0).out.z
     have hB0:=B0.out
     have cu:=(hB0.cell (p:=⟨_,_,none⟩) zu).trans cu
     have zu:=Nat.lt_of_lt_of_le zu hB0.size
     go_wp2_with fail
     refine (cl.out _ hB0).mono ?_
     rintro e w1 ⟨rfl,hb⟩
     have P1:=Lib.hid (P0.out.later hb)
     have R1:=Lib.hid (R0.out.later hb)
     have hB:=bel_below B0.out hb
     clear c0 c1 c2 c3 pf0 pf1 pf2 pf3 zp r0 r1 r2 r3 rf0 rf1 rf2 rf3 zr
     have c0:=(P1).out.c0
     have c1:=(P1).out.c1
     have c2:=(P1).out.c2
     have c3:=(P1).out.c3
     have pf0:=(P1).out.f0
     have pf1:=(P1).out.f1
     have pf2:=(P1).out.f2
     have pf3:=(P1).out.f3
     have zp:=(P1).out.z
     have r0:=(R1).out.c0
     have r1:=(R1).out.c1
     have r2:=(R1).out.c2
     have r3:=(R1).out.c3
     have rf0:=(R1).out.f0
     have rf1:=(R1).out.f1
     have rf2:=(R1).out.f2
     have rf3:=(R1).out.f3
     have zr:=(R1).out.z
     clear cu zu hB0 cl
     go_wp2_with fail
     refine (CLV.out _ hB).mono ?_
     rintro e w2 ⟨v2,rfl,hs2,hb2⟩
     obtain ⟨a2,q2,rfl,_⟩:=hs2.slice
     have S2:=Lib.hid hs2
     have P2:=Lib.hid (P1.out.later hb2)
     have R2:=Lib.hid (R1.out.later hb2)
     have B2:=Lib.hid (bel_below hB hb2)
     clear c0 c1 c2 c3 pf0 pf1 pf2 pf3 zp r0 r1 r2 r3 rf0 rf1 rf2 rf3 zr
     clear hs2 hb2 hb hB P1 R1 P0 R0 B0 CLV
     go_wp2_with fail
     go_loopw [11,37] (fun _ i wr=>∃ k:Nat,k<=L.length∧i = .int .i64 k∧wr=w2∧Hid (∀ j,j<k->idR f (nth L j)≠id)) (fun _ i _=>L.length - (intOf i).toNat)
     case atStart=>exact ⟨0,Nat.zero_le _,rfl,rfl,fun j hj=>absurd hj (by omega)⟩
     case round =>
      obtain ⟨k,hk,rfl,rfl,hno⟩:=hrel
      by_cases hlt:k<L.length
      · obtain ⟨b,off,rfl,_,hb,hc⟩:=S2.out.at k hlt wr (RowKit.Below.refl _ _)
        have hin:nth L k∈L:=nth_mem.2 ⟨k,hlt,rfl⟩
        have hdk:=livesR_dom HI.out.dom (hmem.out _ hin)
        obtain ⟨x,hx⟩:∃ x:Nat,nth L k=x:=⟨(nth L k).toNat,by omega⟩
        have hx1:x<32:=by omega
        have hxI:((x:Nat):Int)<32:=by omega
        have ci:=(H.out.rows.below B2.out).at_id hx1
        have zi:=(H.out.rows.below B2.out).ids.z
        rw [hx] at hc
        have c0:=(P2).out.c0
        have c1:=(P2).out.c1
        have c2:=(P2).out.c2
        have c3:=(P2).out.c3
        have pf0:=(P2).out.f0
        have pf1:=(P2).out.f1
        have pf2:=(P2).out.f2
        have pf3:=(P2).out.f3
        have zp:=(P2).out.z
        have r0:=(R2).out.c0
        have r1:=(R2).out.c1
        have r2:=(R2).out.c2
        have r3:=(R2).out.c3
        have rf0:=(R2).out.f0
        have rf1:=(R2).out.f1
        have rf2:=(R2).out.f2
        have rf3:=(R2).out.f3
        have zr:=(R2).out.z
        by_cases he:idR f x=id
        · have hC:Hid (joinC f m id via=8):=show joinC f m id via=8 by rw [hC4.out,if_pos (List.any_eq_true.2 ⟨_,hin,by rw [hx];simpa using he⟩)]
          rw [he] at ci
          clear hdk hin he hx
          go_wp2_with fail
          have hB:=B2.out
          refine bodyPost_ret (v:=.tuple #[(.agg #[.slice (some ⟨(p).b1,(p).o1,none⟩) 32 (p).k1,.slice (some ⟨(p).b2,(p).o2,none⟩) 32 (p).k2,.slice (some ⟨(p).b3,(p).o3,none⟩) 32 (p).k3,.slice (some ⟨(p).b4,(p).o4,none⟩) 32 (p).k4]),.int .i64 8]) ?_ rfl ?_
          · simp [results,Tryz.results46,go_sem,r0,r1,r2,r3]
          exact HNo.out 8 _ hC.out (by decide) (by (repeat (first | exact Below.refl _ _ | (with_reducible assumption) | (with_reducible refine bel_later ?_ _) | (with_reducible refine bel_alloc ?_ _) | (with_reducible refine bel_drew ?_) | (with_reducible refine bel_drewN ?_ _) | (with_reducible refine bel_set ?_ (by first | (simp;done) | (simp;omega) | (dsimp only;omega)) _))))
        · have heb:(idR f x == id)=false:=by simpa using he
          have HE:Hid (idR f (nth L k)≠id):=by rw [hx];exact he
          clear hdk hin he hx
          go_wp2_with fail
          go_roundw
          case rel =>
           go_light
           refine ⟨k+1,by omega,by go_num,by first | rfl | trivial,fun j hj=>?_⟩
           by_cases e:j=k
           · subst e;exact HE.out
           · exact hno.out j (by omega)
          case measure=>go_light;simp [intOf];omega
      · obtain rfl:k=L.length:=by omega
        have hC5:Hid (joinC f m id via=match joinAt f id 33 via with | some _=>0 | none=>5):=show joinC f m id via=_ by
         rw [hC4.out,if_neg]
         intro h
         obtain ⟨x,hx,e⟩:=List.any_eq_true.1 h
         obtain ⟨j,hj,rfl⟩:=nth_mem.1 hx
         exact hno.out j hj (by simpa using e)
        clear hlt
        have c0:=(P2).out.c0
        have c1:=(P2).out.c1
        have c2:=(P2).out.c2
        have c3:=(P2).out.c3
        have pf0:=(P2).out.f0
        have pf1:=(P2).out.f1
        have pf2:=(P2).out.f2
        have pf3:=(P2).out.f3
        have zp:=(P2).out.z
        have r0:=(R2).out.c0
        have r1:=(R2).out.c1
        have r2:=(R2).out.c2
        have r3:=(R2).out.c3
        have rf0:=(R2).out.f0
        have rf1:=(R2).out.f1
        have rf2:=(R2).out.f2
        have rf3:=(R2).out.f3
        have zr:=(R2).out.z
        go_wp2_with fail
        clear c0 c1 c2 c3 pf0 pf1 pf2 pf3 zp r0 r1 r2 r3 rf0 rf1 rf2 rf3 zr
        obtain ⟨w3,hw3⟩:∃ w3,w3=wr:=⟨_,rfl⟩
        rw [← hw3] at P2 R2 B2 ⊢
        clear hw3
        go_loopw [12,13,14] (fun at_ i _ wq=>∃ (k:Nat) (x:Nat),k<=33∧i = .int .i64 k∧at_ = .int .i64 x∧Hid (livesR f x=true∧joinAt f id 33 via=joinAt f id (33 - k) x)∧Hid (RowKit.Below w3.heap.size w3 wq)) (fun _ i _ _=>33 - (intOf i).toNat)
        case atStart =>
         have hvd:=livesR_dom HI.out.dom HV.out
         exact ⟨0,via.toNat,by omega,rfl,by rw [show ((via.toNat:Nat):Int)=via by omega],by rw [show ((via.toNat:Nat):Int)=via by omega];exact ⟨HV.out,rfl⟩,RowKit.Below.refl _ _⟩
        case round =>
         obtain ⟨k,x,hk,rfl,rfl,hx,hBq⟩:=hrel
         have P4:=Lib.hid (P2.out.later hBq.out)
         have R4:=Lib.hid (R2.out.later hBq.out)
         have B4:=Lib.hid (bel_below B2.out hBq.out)
         by_cases hlt:k<33
         · have hxd:=livesR_dom HI.out.dom hx.out.1
           have hx1:x<32:=by omega
           have hxI:((x:Nat):Int)<32:=by omega
           have hlh:=HI.out.heads x hx.out.1
           have hhd:=livesR_dom HI.out.dom hlh
           obtain ⟨hd,hhx⟩:∃ hd:Nat,headR f x=hd:=⟨(headR f x).toNat,by omega⟩
           rw [hhx] at hlh hhd
           have HLH:=Lib.hid hlh
           have ROW4:=Lib.hid (H.out.rows.below B4.out)
           have LO4:=Lib.hid (H.out.list.below B4.out)
           obtain ⟨cid,cpr,cls⟩:=ROW4.out.at_peer hx1
           have zb:=ROW4.out.peers.z
           have xid:=ROW4.out.at_id hx1
           have zi:=ROW4.out.ids.z
           have CH:=Lib.hid fun (wh:World) (hb:RowKit.Below wr.heap.size wr wh)=>rhead_any (ROW4.out.below hb) HI.out.dom (succR f x) (by have:=(dom_len HI.out.dom x).1;omega) (V x) ((LO4.out x hx1).slAt.below hb) (idR f x) (predR f x)
           have eh:headL f (succR f x)=hd:=hhx
           rw [eh] at CH
           have CI:=Lib.hid fun (wh:World) (hb:RowKit.Below wr.heap.size wr wh)=>rid_any (ROW4.out.below hb) HI.out.dom hd
           have CW:=Lib.hid fun (wh:World)=>rwithin_any id (idR f x) (idR f hd) wh hid (idR_place HI.out.dom x) (idR_place HI.out.dom hd)
           have hnext:joinAt f id (33 - k) x=if withinB id (idR f x) (idR f hd) then some (x:Int) else joinAt f id (33 - (k+1)) hd:=by
            rw [show 33 - k=(33 - (k+1))+1 by omega]
            show (if withinB id (idR f x) (idR f (headR f x)) then some (x:Int) else joinAt f id (33 - (k+1)) (headR f x))=_
            rw [hhx]
           have HX:=Lib.hid hnext
           clear hnext eh hhx hlh hhd hxd
           have c0:=(P4).out.c0
           have c1:=(P4).out.c1
           have c2:=(P4).out.c2
           have c3:=(P4).out.c3
           have pf0:=(P4).out.f0
           have pf1:=(P4).out.f1
           have pf2:=(P4).out.f2
           have pf3:=(P4).out.f3
           have zp:=(P4).out.z
           have r0:=(R4).out.c0
           have r1:=(R4).out.c1
           have r2:=(R4).out.c2
           have r3:=(R4).out.c3
           have rf0:=(R4).out.f0
           have rf1:=(R4).out.f1
           have rf2:=(R4).out.f2
           have rf3:=(R4).out.f3
           have zr:=(R4).out.z
           go_wp2_with fail
           refine wp_region_calm (by kernel_rfl) (by kernel_rfl) ?_
           repeat (first | (go_big_quiet_step ((go_at_call 100;exact calls_calm (CH.out _ (by (repeat (first | exact Below.refl _ _ | (with_reducible assumption) | (with_reducible refine bel_later ?_ _) | (with_reducible refine bel_alloc ?_ _) | (with_reducible refine bel_drew ?_) | (with_reducible refine bel_drewN ?_ _) | (with_reducible refine bel_set ?_ (by first | (simp;done) | (simp;omega) | (dsimp only;omega)) _)))))))) | (refine wpQuiet_step (fun K hK=>?_);go_simp;first | (refine hK _ ?_;clear hK K) | (apply Exists.intro;refine ⟨fun _=>?_,hK _ ?_⟩;(go_at_call 100;exact calls_calm (CH.out _ (by (repeat (first | exact Below.refl _ _ | (with_reducible assumption) | (with_reducible refine bel_later ?_ _) | (with_reducible refine bel_alloc ?_ _) | (with_reducible refine bel_drew ?_) | (with_reducible refine bel_drewN ?_ _) | (with_reducible refine bel_set ?_ (by first | (simp;done) | (simp;omega) | (dsimp only;omega)) _))))));clear hK K)))
           refine wpQuiet_nil ?_
           intro _ hw'
           obtain ⟨xq,hw''⟩:=hw'
           subst hw''
           obtain ⟨w5,hB5⟩:=xq
           have P5:=Lib.hid (P4.out.later hB5)
           have R5:=Lib.hid (R4.out.later hB5)
           have B5:=Lib.hid (bel_below B4.out hB5)
           have ROW5:=Lib.hid (ROW4.out.below hB5)
           have Bq5:=Lib.hid (bel_below hBq.out hB5)
           have CI5:=Lib.hid fun (wh:World) (hb:RowKit.Below w5.heap.size w5 wh)=>CI.out wh (bel_below hB5 hb)
           clear c0 c1 c2 c3 pf0 pf1 pf2 pf3 zp r0 r1 r2 r3 rf0 rf1 rf2 rf3 zr
           dsimp only
           clear cid cpr cls zb xid zi hB5 P4 R4 B4 ROW4 LO4 CH CI
           have xid:=ROW5.out.at_id hx1
           have zi:=ROW5.out.ids.z
           have c0:=(P5).out.c0
           have c1:=(P5).out.c1
           have c2:=(P5).out.c2
           have c3:=(P5).out.c3
           have pf0:=(P5).out.f0
           have pf1:=(P5).out.f1
           have pf2:=(P5).out.f2
           have pf3:=(P5).out.f3
           have zp:=(P5).out.z
           have r0:=(R5).out.c0
           have r1:=(R5).out.c1
           have r2:=(R5).out.c2
           have r3:=(R5).out.c3
           have rf0:=(R5).out.f0
           have rf1:=(R5).out.f1
           have rf2:=(R5).out.f2
           have rf3:=(R5).out.f3
           have zr:=(R5).out.z
           cases hw:withinB id (idR f x) (idR f hd)
           · rw [hw] at CW
             have HX2:Hid (joinAt f id 33 via=joinAt f id (33 - (k+1)) hd):=show joinAt f id 33 via=_ by rw [hx.out.2,HX.out,hw];rfl
             clear hw HX
             go_wp2_with fail
             refine wp_region_calm (by kernel_rfl) (by kernel_rfl) ?_
             repeat (first | (go_big_quiet_step ((first | (go_at_call 102;exact calls_calm (CI5.out _ (by (repeat (first | exact Below.refl _ _ | (with_reducible assumption) | (with_reducible refine bel_later ?_ _) | (with_reducible refine bel_alloc ?_ _) | (with_reducible refine bel_drew ?_) | (with_reducible refine bel_drewN ?_ _) | (with_reducible refine bel_set ?_ (by first | (simp;done) | (simp;omega) | (dsimp only;omega)) _)))))) | (go_at_call 101;exact calls_calm_same (CW.out _))))) | (refine wpQuiet_step (fun K hK=>?_);go_simp;first | (refine hK _ ?_;clear hK K) | (apply Exists.intro;refine ⟨fun _=>?_,hK _ ?_⟩;(first | (go_at_call 102;exact calls_calm (CI5.out _ (by (repeat (first | exact Below.refl _ _ | (with_reducible assumption) | (with_reducible refine bel_later ?_ _) | (with_reducible refine bel_alloc ?_ _) | (with_reducible refine bel_drew ?_) | (with_reducible refine bel_drewN ?_ _) | (with_reducible refine bel_set ?_ (by first | (simp;done) | (simp;omega) | (dsimp only;omega)) _)))))) | (go_at_call 101;exact calls_calm_same (CW.out _)));clear hK K)))
             refine wpQuiet_nil ?_
             intro _ hw'
             obtain ⟨xq,hw''⟩:=hw'
             subst hw''
             have Bq6:=Lib.hid (bel_below Bq5.out xq.below)
             clear c0 c1 c2 c3 pf0 pf1 pf2 pf3 zp r0 r1 r2 r3 rf0 rf1 rf2 rf3 zr
             clear xid zi P5 R5 ROW5 CI5 CW
             go_wp2_with fail
             go_roundw
             case rel=>go_light;exact ⟨k+1,hd,by omega,by go_num,rfl,⟨HLH.out,HX2.out⟩,Bq6.out⟩
             case measure=>go_light;simp [intOf];omega
           · rw [hw] at CW
             have HX2:Hid (joinAt f id 33 via=some (x:Int)):=show joinAt f id 33 via=_ by rw [hx.out.2,HX.out,hw];rfl
             clear hw HX
             go_wp2_with fail
             refine wp_region_calm (by kernel_rfl) (by kernel_rfl) ?_
             repeat (first | (go_big_quiet_step ((first | (go_at_call 102;exact calls_calm (CI5.out _ (by (repeat (first | exact Below.refl _ _ | (with_reducible assumption) | (with_reducible refine bel_later ?_ _) | (with_reducible refine bel_alloc ?_ _) | (with_reducible refine bel_drew ?_) | (with_reducible refine bel_drewN ?_ _) | (with_reducible refine bel_set ?_ (by first | (simp;done) | (simp;omega) | (dsimp only;omega)) _)))))) | (go_at_call 101;exact calls_calm_same (CW.out _))))) | (refine wpQuiet_step (fun K hK=>?_);go_simp;first | (refine hK _ ?_;clear hK K) | (apply Exists.intro;refine ⟨fun _=>?_,hK _ ?_⟩;(first | (go_at_call 102;exact calls_calm (CI5.out _ (by (repeat (first | exact Below.refl _ _ | (with_reducible assumption) | (with_reducible refine bel_later ?_ _) | (with_reducible refine bel_alloc ?_ _) | (with_reducible refine bel_drew ?_) | (with_reducible refine bel_drewN ?_ _) | (with_reducible refine bel_set ?_ (by first | (simp;done) | (simp;omega) | (dsimp only;omega)) _)))))) | (go_at_call 101;exact calls_calm_same (CW.out _)));clear hK K)))
             refine wpQuiet_nil ?_
             intro _ hw'
             obtain ⟨xq,hw''⟩:=hw'
             subst hw''
             obtain ⟨w6,hB6⟩:=xq
             have P6:=Lib.hid (P5.out.later hB6)
             have R6:=Lib.hid (R5.out.later hB6)
             have B6:=Lib.hid (bel_below B5.out hB6)
             clear c0 c1 c2 c3 pf0 pf1 pf2 pf3 zp r0 r1 r2 r3 rf0 rf1 rf2 rf3 zr
             dsimp only
             clear xid zi hB6 P5 R5 ROW5 B5 CI5 CW Bq5
             have c0:=(P6).out.c0
             have c1:=(P6).out.c1
             have c2:=(P6).out.c2
             have c3:=(P6).out.c3
             have pf0:=(P6).out.f0
             have pf1:=(P6).out.f1
             have pf2:=(P6).out.f2
             have pf3:=(P6).out.f3
             have zp:=(P6).out.z
             have r0:=(R6).out.c0
             have r1:=(R6).out.c1
             have r2:=(R6).out.c2
             have r3:=(R6).out.c3
             have rf0:=(R6).out.f0
             have rf1:=(R6).out.f1
             have rf2:=(R6).out.f2
             have rf3:=(R6).out.f3
             have zr:=(R6).out.z
             go_wp2_with fail
             refine (CC.out _ B6.out).mono ?_
             rintro e w7 ⟨p',rfl,hrows,hfr,hb7⟩
             have P7:=Lib.hid (P6.out.later hb7)
             have R7:=Lib.hid (R6.out.later hb7)
             have B7:=Lib.hid (bel_below B6.out hb7)
             have hz67:=hb7.size
             have hz6:w.heap.size+1<w6.heap.size:=R6.out.z
             clear c0 c1 c2 c3 pf0 pf1 pf2 pf3 zp r0 r1 r2 r3 rf0 rf1 rf2 rf3 zr
             clear hb7 P6 R6 B6
             have c0:=(P7).out.c0
             have c1:=(P7).out.c1
             have c2:=(P7).out.c2
             have c3:=(P7).out.c3
             have pf0:=(P7).out.f0
             have pf1:=(P7).out.f1
             have pf2:=(P7).out.f2
             have pf3:=(P7).out.f3
             have zp:=(P7).out.z
             have r0:=(R7).out.c0
             have r1:=(R7).out.c1
             have r2:=(R7).out.c2
             have r3:=(R7).out.c3
             have rf0:=(R7).out.f0
             have rf1:=(R7).out.f1
             have rf2:=(R7).out.f2
             have rf3:=(R7).out.f3
             have zr:=(R7).out.z
             go_upto_region 20 with (fail)
             obtain ⟨w8,hw8⟩:∃ z,z=(((w7.setCell ⟨w.heap.size,0,none⟩ (.slice (some ⟨p'.b1,p'.o1,none⟩) 32 p'.k1)).setCell ⟨w.heap.size,1,none⟩ (.slice (some ⟨p'.b2,p'.o2,none⟩) 32 p'.k2)).setCell ⟨w.heap.size,2,none⟩ (.slice (some ⟨p'.b3,p'.o3,none⟩) 32 p'.k3)).setCell ⟨w.heap.size,3,none⟩ (.slice (some ⟨p'.b4,p'.o4,none⟩) 32 p'.k4):=⟨_,rfl⟩
             obtain ⟨hz8,hk8⟩:=block_set4 hw8
             have P8:Hid (BoxOf w8 w.heap.size p'):=P7.out.store _ _ _ _ hw8
             have R8:Hid (BoxNil w8 (w.heap.size+1)):=R7.out.block (by omega) (hk8 _ (by omega))
             have ROW8:Hid (RefRows (fun b=>w6.heap.size<=b) w8 p' f V):=hrows.same (fun _ _ h=>h) (by omega) fun b _ hq=>hk8 b (by omega)
             have FR8:Hid (FreshRows w6.heap.size w8 p'):=hfr.same (hk8 _ (by have:=hfr.m1;omega)) (hk8 _ (by have:=hfr.m2;omega)) (hk8 _ (by have:=hfr.m3;omega)) (hk8 _ (by have:=hfr.m4;omega))
             have B8:Hid (RowKit.Below w.heap.size w w8):=by
              have hB:=B7.out
              show RowKit.Below _ _ _
              rw [hw8]
              (repeat (first | exact Below.refl _ _ | (with_reducible assumption) | (with_reducible refine bel_later ?_ _) | (with_reducible refine bel_alloc ?_ _) | (with_reducible refine bel_drew ?_) | (with_reducible refine bel_drewN ?_ _) | (with_reducible refine bel_set ?_ (by first | (simp;done) | (simp;omega) | (dsimp only;omega)) _)))
             rw [← hw8]
             clear c0 c1 c2 c3 pf0 pf1 pf2 pf3 zp r0 r1 r2 r3 rf0 rf1 rf2 rf3 zr
             clear hw8 hk8 P7 R7 B7 hrows hfr hz8 hz67
             have c0:=(P8).out.c0
             have c1:=(P8).out.c1
             have c2:=(P8).out.c2
             have c3:=(P8).out.c3
             have pf0:=(P8).out.f0
             have pf1:=(P8).out.f1
             have pf2:=(P8).out.f2
             have pf3:=(P8).out.f3
             have zp:=(P8).out.z
             have r0:=(R8).out.c0
             have r1:=(R8).out.c1
             have r2:=(R8).out.c2
             have r3:=(R8).out.c3
             have rf0:=(R8).out.f0
             have rf1:=(R8).out.f1
             have rf2:=(R8).out.f2
             have rf3:=(R8).out.f3
             have zr:=(R8).out.z
             have wu:=ROW8.out.at_used hm1
             have wl:=ROW8.out.at_live hm1
             have wi:=ROW8.out.at_id hm1
             have zu:=ROW8.out.used.z
             have zl:=ROW8.out.live.z
             have zi:=ROW8.out.ids.z
             have fu:=FR8.out.f1 (p'.o1+m)
             have fl:=FR8.out.f2 (p'.o2+m)
             have fi:=FR8.out.f3 (p'.o3+m)
             have n12:=FR8.out.n12
             have n13:=FR8.out.n13
             have n23:=FR8.out.n23
             have l1:=FR8.out.m1
             have l2:=FR8.out.m2
             have l3:=FR8.out.m3
             have l4:=FR8.out.m4
             have g1:p'.b1≠w.heap.size:=by omega
             have g2:p'.b2≠w.heap.size:=by omega
             have g3:p'.b3≠w.heap.size:=by omega
             go_upto_region 23 with (fail)
             obtain ⟨w9,hw9⟩:∃ z,z=((w8.setCell ⟨p'.b1,p'.o1+m,none⟩ (.bool true)).setCell ⟨p'.b2,p'.o2+m,none⟩ (.bool true)).setCell ⟨p'.b3,p'.o3+m,none⟩ (.int .u64 id):=⟨_,rfl⟩
             have K9:∀ b,b≠p'.b1->b≠p'.b2->b≠p'.b3->w9.heap[b]? = w8.heap[b]?:=fun b h1 h2 h3=>by rw [hw9,Below.heap_setCell _ _ _ _ h3,Below.heap_setCell _ _ _ _ h2,Below.heap_setCell _ _ _ _ h1]
             have Z9:w9.heap.size=w8.heap.size:=by rw [hw9];simp only [size_set]
             have P9:Hid (BoxOf w9 w.heap.size p'):=P8.out.block (by omega) (K9 _ (by omega) (by omega) (by omega))
             have R9:Hid (BoxNil w9 (w.heap.size+1)):=R8.out.block (by omega) (K9 _ (by omega) (by omega) (by omega))
             have PE9:Hid (Row32 (fun b=>w6.heap.size<=b) w9 3 (peerC f V) p'.b4 p'.o4 p'.k4):=ROW8.out.peers.imp (fun h=>h) (by omega) (K9 _ FR8.out.n14.symm FR8.out.n24.symm FR8.out.n34.symm)
             have FR9:Hid (FreshRows w6.heap.size w9 p'):=by rw [hw9];exact ((FR8.out.set _ _).set _ _).set _ _
             have B9:Hid (RowKit.Below w.heap.size w w9):=by
              rw [hw9]
              exact bel_set (bel_set (bel_set B8.out (by show w.heap.size<=p'.b1;omega) _) (by show w.heap.size<=p'.b2;omega) _) (by show w.heap.size<=p'.b3;omega) _
             have U9:Hid (Row32 (fun b=>w6.heap.size<=b) w9 1 (fun j=>.bool (setM f m ⟨true,id,x,succR f x⟩ (j:Nat)).isSome) p'.b1 p'.o1 p'.k1):=by
              rw [hw9]
              exact (((ROW8.out.used.set (by omega) _).other _ _ FR8.out.n12.symm _).other _ _ FR8.out.n13.symm _).congr fun j _=>joined_used f m _ j
             have L9:Hid (Row32 (fun b=>w6.heap.size<=b) w9 1 (fun j=>.bool (livesR (setM f m ⟨true,id,x,succR f x⟩) (j:Nat))) p'.b2 p'.o2 p'.k2):=by
              rw [hw9]
              exact (((ROW8.out.live.other _ _ FR8.out.n12 _).set (by omega) _).other _ _ FR8.out.n23.symm _).congr fun j _=>joined_live f m id x _ j
             have I9:Hid (Row32 (fun b=>w6.heap.size<=b) w9 1 (fun j=>.int .u64 (idR (setM f m ⟨true,id,x,succR f x⟩) (j:Nat))) p'.b3 p'.o3 p'.k3):=by
              rw [hw9]
              exact (((ROW8.out.ids.other _ _ FR8.out.n13 _).other _ _ FR8.out.n23 _).set (by omega) _).congr fun j _=>joined_ids f m id x _ j
             have N14:=FR8.out.n14
             have N24:=FR8.out.n24
             have N34:=FR8.out.n34
             rw [← hw9]
             clear c0 c1 c2 c3 pf0 pf1 pf2 pf3 zp r0 r1 r2 r3 rf0 rf1 rf2 rf3 zr
             clear hw9 K9 Z9 P8 R8 B8 wu wl wi zu zl zi fu fl fi n12 n13 n23 g1 g2 g3
             have LO9:Hid (RefLists (fun b=>Q b∧b<w.heap.size) w9 f V):=H.out.list.same (fun b hb hq=>⟨hq,hb⟩) B9.out.size fun b hb _=>B9.out.block b hb
             obtain ⟨av,cv,ev⟩:=(LO9.out x hx1).len
             have LX:=Lib.hid (LO9.out x hx1).slAt
             rw [ev] at LX
             have cl2:w9.cell? ⟨p'.b4,p'.o4+x * 3+2,none⟩=some (.slice av (succR f x).length cv):=by rw [Nat.add_assoc,PE9.out.cell _ (by omega),peerC2,ev]
             clear ev
             have zb:=PE9.out.z
             have hlx:(succR f x).length<=3:=(dom_len HI.out.dom x).1
             obtain ⟨i0,hi0,hz0,hz1,hz2⟩:∃ i0,Tryz.prog.info? 3=some i0∧i0.zero=some (Value.int .i64 0)∧i0.size=1∧i0.bytes=8:=⟨intRI,intRI_at,by kernel_rfl,by kernel_rfl,by kernel_rfl⟩
             have c0:=(P9).out.c0
             have c1:=(P9).out.c1
             have c2:=(P9).out.c2
             have c3:=(P9).out.c3
             have pf0:=(P9).out.f0
             have pf1:=(P9).out.f1
             have pf2:=(P9).out.f2
             have pf3:=(P9).out.f3
             have zp:=(P9).out.z
             have r0:=(R9).out.c0
             have r1:=(R9).out.c1
             have r2:=(R9).out.c2
             have r3:=(R9).out.c3
             have rf0:=(R9).out.f0
             have rf1:=(R9).out.f1
             have rf2:=(R9).out.f2
             have rf3:=(R9).out.f3
             have zr:=(R9).out.z
             go_wp2_with fail
             refine wp_region_heads [0,1,2,3,4,6,7,8,9,10,11] 15 (fun w'=>∃ x:Later w9,w'=x.world) (by kernel_rfl) (by kernel_rfl) ⟨⟨{ w9 with drawn:=w9.drawn+1 },(RowKit.Below.refl _ _).drew⟩,rfl⟩ ?_ ?_
             · intro d v c a w h
               cases d <;> exact h
             · simp only [headOps]
               repeat (refine wpTame_step (fun K hK=>?_);go_simp;refine hK _ ?_;clear hK K)
               refine wpTame_nil ?_
               clear c0 c1 c2 c3 pf0 pf1 pf2 pf3 zp r0 r1 r2 r3 rf0 rf1 rf2 rf3 zr
               refine wpAnyC_step (f:=4) [5] (by kernel_rfl) rfl rfl (fun i hi=>?_)
               simp only [List.mem_cons,List.not_mem_nil,or_false] at hi
               subst hi
               refine ⟨_,rfl,fun R hR=>?_⟩
               go_wp2_with fail
               have OA:(w9.alloc (.cells #[] 3)).drew.ownsRow w9.heap.size 3 1 (.slice (some ⟨w9.heap.size,0,none⟩) 0 0) 0 []:=own_nil w9 3 w9.heap.size 1 w9.heap.size rfl (Nat.le_refl _)
               obtain ⟨wA,hwA⟩:∃ z,z=(w9.alloc (.cells #[] 3)).drew:=⟨_,rfl⟩
               have BA:RowKit.Below w9.heap.size w9 wA:=by rw [hwA];exact bel_drew (bel_alloc (RowKit.Below.refl _ _) _)
               rw [← hwA] at OA ⊢
               have HOA:=Lib.hid OA
               clear OA hwA
               refine hR _ _ ⟨⟨wA,BA⟩,rfl⟩ ?_
               clear hR R
               refine wpAnyC_step (f:=3) [12] (by kernel_rfl) rfl rfl (fun i hi=>?_)
               simp only [List.mem_cons,List.not_mem_nil,or_false] at hi
               subst hi
               refine ⟨_,rfl,fun R hR=>?_⟩
               simp only [List.getElem_toArray,List.getElem_cons_succ,List.getElem_cons_zero]
               go_wp2_with (at_builtin;go_loud (refine wpList_app rfl _ _ 36 rfl w9.heap.size 3 i0 (.int .i64 0) 8 Tryz.underlying36 hi0 hz0 hz1 hz2 rfl _ 0 [] rfl HOA.out _ _ _ _ rfl (LX.out.below BA) (fun _=>rfl) ?qc1 ?qc2 ?qc3 ?_))
               case qc1=>simp only [maxLen];omega
               case qc2=>omega
               case qc3=>exact BA.size
               intro v' wC ho hg
               have BC:RowKit.Below w9.heap.size w9 wC:=BA.grown hg BA.size (fun j hj=>(HOA.out.lt j hj).1)
               have hsl:=own_slAt ho
               have SC:Hid (SlAt w9.heap.size (fun i=>.int .i64 (nth (succR f x) i)) (succR f x).length wC v'):=by
                have:=hsl
                exact this.congr fun i hi=>by simp [hi]
               obtain ⟨aC,qC,rfl,_⟩:=SC.out.slice
               clear ho hg hsl BA HOA
               go_wp2_with fail
               refine hR _ _ ⟨⟨wC,BC⟩,rfl⟩ ?_
               clear hR R
               refine wpAnyC_step (f:=2) [13] (by kernel_rfl) rfl rfl (fun i hi=>?_)
               simp only [List.mem_cons,List.not_mem_nil,or_false] at hi
               subst hi
               refine ⟨_,rfl,fun R hR=>?_⟩
               go_wp2_with fail
               refine hR _ _ ⟨⟨wC,BC⟩,rfl⟩ ?_
               clear hR R
               refine wpAnyC_step (f:=1) [14] (by kernel_rfl) rfl rfl (fun i hi=>?_)
               simp only [List.mem_cons,List.not_mem_nil,or_false] at hi
               subst hi
               refine ⟨_,rfl,fun R hR=>?_⟩
               go_wp2_with fail
               refine hR _ _ ⟨⟨wC,BC⟩,rfl⟩ ?_
               clear hR R
               refine wpAnyC_end (k:=15) (by decide) rfl rfl (by kernel_rfl) ?_
               have PC:=Lib.hid (P9.out.later BC)
               have RC:=Lib.hid (R9.out.later BC)
               have PEC:=Lib.hid (PE9.out.imp (fun h=>h) BC.size (BC.block _ PE9.out.z))
               have FRC:Hid (∀ o,wC.frozen? ⟨p'.b4,o,none⟩=false):=fun o=>(BC.frozen (p:=⟨p'.b4,o,none⟩) PE9.out.z).trans (FR9.out.f4 o)
               have e0:=PEC.out.cell (m * 3) (by omega)
               have e1:=PEC.out.cell (m * 3+1) (by omega)
               have e2:=PEC.out.cell (m * 3+2) (by omega)
               rw [← Nat.add_assoc] at e1 e2
               have f0:=FRC.out (p'.o4+m * 3)
               have f1:=FRC.out (p'.o4+m * 3+1)
               have f2:=FRC.out (p'.o4+m * 3+2)
               have zC:=PEC.out.z
               have hzC:=BC.size
               have zP9:=PE9.out.z
               clear cl2 zb
               have UC:=Lib.hid (U9.out.imp (fun h=>h) BC.size (BC.block _ U9.out.z))
               have LC:=Lib.hid (L9.out.imp (fun h=>h) BC.size (BC.block _ L9.out.z))
               have IC:=Lib.hid (I9.out.imp (fun h=>h) BC.size (BC.block _ I9.out.z))
               have LOC:=Lib.hid (LO9.out.below BC)
               have B10:=Lib.hid (bel_below B9.out BC)
               clear BC P9 R9 PE9 FR9 U9 L9 I9 LO9 B9 LX
               go_upto_region 24 with (fail)
               obtain ⟨wD,hwD⟩:∃ z,z=((wC.setCell ⟨p'.b4,p'.o4+m * 3,none⟩ (.int .u64 id)).setCell ⟨p'.b4,p'.o4+m * 3+1,none⟩ (.int .i64 x)).setCell ⟨p'.b4,p'.o4+m * 3+2,none⟩ (.slice aC (succR f x).length qC):=⟨_,rfl⟩
               have KD:∀ b,b≠p'.b4->wD.heap[b]? = wC.heap[b]?:=fun b hb=>by rw [hwD,Below.heap_setCell _ _ _ _ hb,Below.heap_setCell _ _ _ _ hb,Below.heap_setCell _ _ _ _ hb]
               have ZD:wD.heap.size=wC.heap.size:=by rw [hwD];simp only [size_set]
               have PD:Hid (BoxOf wD w.heap.size p'):=PC.out.block (by omega) (KD _ (by omega))
               have RD:Hid (BoxNil wD (w.heap.size+1)):=RC.out.block (by omega) (KD _ (by omega))
               have ROWD:Hid (RefRows (fun b=>w6.heap.size<=b) wD p' (setM f m ⟨true,id,x,succR f x⟩) (fun k=>if k=m then .slice aC (succR f x).length qC else V k)):=by
                refine ⟨UC.out.imp (fun h=>h) (by omega) (KD _ N14),LC.out.imp (fun h=>h) (by omega) (KD _ N24),IC.out.imp (fun h=>h) (by omega) (KD _ N34),?_⟩
                rw [hwD]
                exact joined_peers PEC.out hm1 id x _ _
               have BD:Hid (RowKit.Below w.heap.size w wD):=by
                rw [hwD]
                exact bel_set (bel_set (bel_set B10.out (by show w.heap.size<=p'.b4;omega) _) (by show w.heap.size<=p'.b4;omega) _) (by show w.heap.size<=p'.b4;omega) _
               have LVD:Hid (RefLists (fun b=>((Q b∧b<w.heap.size)∨w.heap.size<=b)∧b≠w.heap.size+1) wD (setM f m ⟨true,id,x,succR f x⟩) (fun k=>if k=m then .slice aC (succR f x).length qC else V k)):=fun j hj=>by
                rw [succR_set]
                by_cases e:j=m
                · subst e
                  rw [if_pos rfl]
                  simp only [if_true]
                  refine (SlIn.of_slAt (Q:=fun b=>w9.heap.size<=b) SC.out fun _ h=>h).imp (fun b _ hb=>⟨Or.inr (by omega),by omega⟩) (by omega) (fun b _ hb=>KD b (by omega))
                · rw [if_neg (by omega)]
                  simp only [if_neg e]
                  refine (LOC.out j hj).imp (fun b _ hb=>⟨Or.inl hb,by have:=hb.2;omega⟩) (by omega) (fun b _ hb=>KD b (by have:=hb.2;omega))
               rw [← hwD]
               clear hwD KD ZD PC RC PEC FRC e0 e1 e2 f0 f1 f2 UC LC IC LOC B10 SC
               have c0:=(PD).out.c0
               have c1:=(PD).out.c1
               have c2:=(PD).out.c2
               have c3:=(PD).out.c3
               have pf0:=(PD).out.f0
               have pf1:=(PD).out.f1
               have pf2:=(PD).out.f2
               have pf3:=(PD).out.f3
               have zp:=(PD).out.z
               have r0:=(RD).out.c0
               have r1:=(RD).out.c1
               have r2:=(RD).out.c2
               have r3:=(RD).out.c3
               have rf0:=(RD).out.f0
               have rf1:=(RD).out.f1
               have rf2:=(RD).out.f2
               have rf3:=(RD).out.f3
               have zr:=(RD).out.z
               go_wp2_with fail
               refine bodyPost_ret (v:=.tuple #[(.agg #[.slice (some ⟨(p').b1,(p').o1,none⟩) 32 (p').k1,.slice (some ⟨(p').b2,(p').o2,none⟩) 32 (p').k2,.slice (some ⟨(p').b3,(p').o3,none⟩) 32 (p').k3,.slice (some ⟨(p').b4,(p').o4,none⟩) 32 (p').k4]),.int .i64 0]) ?_ rfl ?_
               · simp [results,Tryz.results46,go_sem,r0,r1,r2,r3]
               obtain ⟨wE,hwE⟩:∃ z,z=(((wD.setCell ⟨w.heap.size+1,0,none⟩ (.slice (some ⟨p'.b1,p'.o1,none⟩) 32 p'.k1)).setCell ⟨w.heap.size+1,1,none⟩ (.slice (some ⟨p'.b2,p'.o2,none⟩) 32 p'.k2)).setCell ⟨w.heap.size+1,2,none⟩ (.slice (some ⟨p'.b3,p'.o3,none⟩) 32 p'.k3)).setCell ⟨w.heap.size+1,3,none⟩ (.slice (some ⟨p'.b4,p'.o4,none⟩) 32 p'.k4):=⟨_,rfl⟩
               obtain ⟨hzE,hkE⟩:=block_set4 hwE
               have hB:=BD.out
               have BE:RowKit.Below w.heap.size w wE:=by rw [hwE];(repeat (first | exact Below.refl _ _ | (with_reducible assumption) | (with_reducible refine bel_later ?_ _) | (with_reducible refine bel_alloc ?_ _) | (with_reducible refine bel_drew ?_) | (with_reducible refine bel_drewN ?_ _) | (with_reducible refine bel_set ?_ (by first | (simp;done) | (simp;omega) | (dsimp only;omega)) _)))
               rw [← hwE]
               have hC0:joinC f m id via=0:=by rw [hC5.out,HX2.out]
               have hRF:joinR f m id via=setM f m ⟨true,id,x,succR f x⟩:=by unfold joinR;rw [if_pos hC0,HX2.out]
               rw [hC0,hRF]
               exact ⟨_,rfl,p',_,rfl,⟨ROWD.out.same (fun b _ h=>Or.inr (by omega)) (by omega) (fun b _ h=>hkE b (by omega)),LVD.out.same (fun b _ h=>h.1) (by omega) (fun b _ h=>hkE b h.2)⟩,BE⟩
         · obtain rfl:k=33:=by omega
           have hC:Hid (joinC f m id via=5):=show joinC f m id via=5 by rw [hC5.out,hx.out.2];rfl
           have c0:=(P4).out.c0
           have c1:=(P4).out.c1
           have c2:=(P4).out.c2
           have c3:=(P4).out.c3
           have pf0:=(P4).out.f0
           have pf1:=(P4).out.f1
           have pf2:=(P4).out.f2
           have pf3:=(P4).out.f3
           have zp:=(P4).out.z
           have r0:=(R4).out.c0
           have r1:=(R4).out.c1
           have r2:=(R4).out.c2
           have r3:=(R4).out.c3
           have rf0:=(R4).out.f0
           have rf1:=(R4).out.f1
           have rf2:=(R4).out.f2
           have rf3:=(R4).out.f3
           have zr:=(R4).out.z
           go_wp2_with fail
           have hB:=B4.out
           refine bodyPost_ret (v:=.tuple #[(.agg #[.slice (some ⟨(p).b1,(p).o1,none⟩) 32 (p).k1,.slice (some ⟨(p).b2,(p).o2,none⟩) 32 (p).k2,.slice (some ⟨(p).b3,(p).o3,none⟩) 32 (p).k3,.slice (some ⟨(p).b4,(p).o4,none⟩) 32 (p).k4]),.int .i64 5]) ?_ rfl ?_
           · simp [results,Tryz.results46,go_sem,r0,r1,r2,r3]
           exact HNo.out 5 _ hC.out (by decide) (by (repeat (first | exact Below.refl _ _ | (with_reducible assumption) | (with_reducible refine bel_later ?_ _) | (with_reducible refine bel_alloc ?_ _) | (with_reducible refine bel_drew ?_) | (with_reducible refine bel_drewN ?_ _) | (with_reducible refine bel_set ?_ (by first | (simp;done) | (simp;omega) | (dsimp only;omega)) _))))
end
end Go.Proofs.YtahiahjhpakeiaaGreatDoor
