/-
  The keepers of a group: the owner of its key, and the two behind it. The stable sort of no moves. What Plan asks of a circle and of lists: is a member there, the first of whom something is true, is a number among some. The document's owner of a place, and its peer: walked.
-/
import Derived.Test.YtahiahjhpakeiaaGreatDoorPlans1
import Derived.Test.YtahiahjhpakeiaaGreatDoorPlans13
import Derived.Test.YtahiahjhpakeiaaGreatDoorPlans16
import Derived.Test.YtahiahjhpakeiaaGreatDoorPlans2
import Derived.Test.YtahiahjhpakeiaaGreatDoorRows
import Derived.LoopTactic
import Derived.Outline
namespace Go.Proofs.YtahiahjhpakeiaaGreatDoor
open Go.RowKit Go.Maps Go.Sort Go.WideShapes Go.ChangeShapes Go.Deep
set_option linter.unusedVariables false
set_option linter.unusedSimpArgs false
section
attribute [local go_sem] later_cell later_frozen later_lt cell_set_off cell_set_block
theorem own_shapeK {w:World} {base e n k:Nat} {v:Value} {xs:List Value} (h:w.ownsRow base e k v n xs):∃ a c,v = .slice a n c:=by
 rcases h.2 with ⟨rfl,rfl⟩ | ⟨g',cap',cur,rfl,_⟩
 · exact ⟨_,_,rfl⟩
 · exact ⟨_,_,rfl⟩
def KeepPost (w:World) (f:RS) (X:Int) (e:Ending) (w':World):Prop :=
 ∃ v:Value,e = .returned v∧SlAt w.heap.size (fun j=>.int .i64 (nth (keepK f X) j)) 3 w' v∧Below w.heap.size w w'
set_option maxRecDepth 100000 in
set_option maxHeartbeats 4000000 in
theorem keep_any (w:World) (f:RS) (I:Inv f) (av iv:Value) (hc:SlAt 0 (fun i=>.int .i64 (nth (circ f) i)) (circ f).length w av) (hi:SlAt 0 (fun i=>.int .u64 (nth ((circ f).map (idR f)) i)) (circ f).length w iv) (nm:ByteArray) (hnm:nm.size<=1000000) :
 Calls Tryz.prog 16 #[.agg #[av,iv],.string nm] w (KeepPost w f (keyH nm)):=by
 obtain ⟨i0,hi0,hz0,hz1,hz2⟩:∃ i0,Tryz.prog.info? 3=some i0∧i0.zero=some (Value.int .i64 0)∧i0.size=1∧i0.bytes=8:=⟨intI,intI_at,by kernel_rfl,by kernel_rfl,by kernel_rfl⟩
 have hcl:(circ f).length<=32:=by rw [circ_len];exact length_liveL f
 obtain ⟨i,hoi⟩:=own_at I (keyH nm)
 have hi2:SlAt 0 (fun j=>.int .u64 (nth ((circ f).map (idR f)) j)) ((circ f).map (idR f)).length w iv:=by simpa using hi
 have CO:=Lib.hid fun wr (hb:Below w.heap.size w wr)=>cowner_at wr (circ f) ((circ f).map (idR f)) av iv (hc.below hb) (hi2.below hb) (by simp) (by omega) (circ_up I) (keyH nm)
 have CP:=Lib.hid fun wr (hb:Below w.heap.size w wr)=>(cpeer_at wr (circ f) ((circ f).map (idR f)) av iv (hc.below hb) (hi2.below hb) (by simp) (by omega) (cAt (circ f) i)).mono fun e w' h=>know_at I (i:Int) h
 have CK:=Lib.hid fun wr=>key_any nm wr hnm
 have hkk:keepK f (keyH nm)=keepL f i:=keepK_eq I hoi
 have HK:Hid (∀ v w',SlAt w.heap.size (fun j=>.int .i64 (nth (keepL f i) j)) 3 w' v->Below w.heap.size w w'->KeepPost w f (keyH nm) (.returned v) w'):=show ∀ v w',_ from fun v w' h1 h2=>by
  unfold KeepPost;rw [hkk];exact ⟨v,rfl,h1,h2⟩
 have hne:cAt (circ f) i ≠ -1:=fun e=>by
  have h:=owner_lives I (keyH nm)
  rw [show cOwner (circ f) ((circ f).map (idR f)) (keyH nm)=cAt (circ f) i from hoi] at h
  have:=livesR_dom I.dom h
  omega
 have hoi':cOwner (circ f) ((circ f).map (idR f)) (keyH nm)=cAt (circ f) i:=hoi
 rw [hoi'] at CO
 obtain ⟨aa,ac,rfl,_⟩:=hc.slice
 obtain ⟨ia,ic,rfl,_⟩:=hi.slice
 have HKL:Hid (keepL f i=[cAt (circ f) i,cAt (circ f) ((i:Int)+1),cAt (circ f) ((i:Int)+2)]):=show keepL f i=_ from rfl
 obtain ⟨kl,hkl⟩:∃ z,z=keepL f i:=⟨_,rfl⟩
 rw [← hkl] at HK HKL
 obtain ⟨id0,hid0⟩:∃ z,z=idR f (cAt (circ f) i):=⟨_,rfl⟩
 obtain ⟨pr0,hpr0⟩:∃ z,z=cAt (circ f) ((i:Int) - 1):=⟨_,rfl⟩
 obtain ⟨s0,hs0⟩:∃ z,z=cAt (circ f) ((i:Int)+1):=⟨_,rfl⟩
 obtain ⟨s1,hs1⟩:∃ z,z=cAt (circ f) ((i:Int)+2):=⟨_,rfl⟩
 obtain ⟨s2,hs2⟩:∃ z,z=cAt (circ f) ((i:Int)+3):=⟨_,rfl⟩
 obtain ⟨o,ho⟩:∃ z,z=cAt (circ f) i:=⟨_,rfl⟩
 rw [← hid0,← hpr0,← hs0,← hs1,← hs2,← ho] at CP
 rw [← ho,← hs0,← hs1] at HKL
 rw [← ho] at CO hne
 obtain ⟨cl,hcle⟩:∃ z,z=(circ f).length:=⟨_,rfl⟩
 rw [← hcle] at CO CP ⊢
 have hob:(o == -1)=false:=by simpa using hne
 clear hc hi hi2 hoi hoi' hne hkk hkl hid0 hpr0 hs0 hs1 hs2 ho hcl hcle
 go_enter Tryz.func16,Tryz.ntmps16
 go_wp2_with fail
 refine wp_region_calm (by kernel_rfl) (by kernel_rfl) ?_
 repeat (first | (go_big_quiet_step ((first | (go_at_call 22;exact calls_calm (CK.out _)) | (go_at_call 21;exact calls_calm (CO.out _ (by (repeat (first | exact Below.refl _ _ | (with_reducible assumption) | (with_reducible refine bel_later ?_ _) | (with_reducible refine bel_alloc ?_ _) | (with_reducible refine bel_drew ?_) | (with_reducible refine bel_drewN ?_ _) | (with_reducible refine bel_set ?_ (by first | (simp;done) | (simp;omega) | (dsimp only;omega)) _))))))))) | (refine wpQuiet_step (fun K hK=>?_);go_simp;first | (refine hK _ ?_;clear hK K) | (apply Exists.intro;refine ⟨fun _=>?_,hK _ ?_⟩;(first | (go_at_call 22;exact calls_calm (CK.out _)) | (go_at_call 21;exact calls_calm (CO.out _ (by (repeat (first | exact Below.refl _ _ | (with_reducible assumption) | (with_reducible refine bel_later ?_ _) | (with_reducible refine bel_alloc ?_ _) | (with_reducible refine bel_drew ?_) | (with_reducible refine bel_drewN ?_ _) | (with_reducible refine bel_set ?_ (by first | (simp;done) | (simp;omega) | (dsimp only;omega)) _)))))));clear hK K)))
 refine wpQuiet_nil ?_
 intro _ hw'
 obtain ⟨xq,hw''⟩:=hw'
 subst hw''
 obtain ⟨w2,hb2⟩:=xq
 dsimp only
 obtain ⟨w1,hw1⟩:∃ z,z=w.alloc (.cells #[.slice aa cl ac,.slice ia cl ic] 38):=⟨_,rfl⟩
 have b1:Below w.heap.size w w1:=by rw [hw1];exact bel_alloc (Below.refl _ _) _
 have y0:w1.cell? ⟨w.heap.size,0,none⟩=some (.slice aa cl ac):=by rw [hw1];simp [go_sem]
 have y1:w1.cell? ⟨w.heap.size,1,none⟩=some (.slice ia cl ic):=by rw [hw1];simp [go_sem]
 have yz:w.heap.size<w1.heap.size:=by rw [hw1];simp
 rw [← hw1] at hb2
 have y0:=(hb2.cell (p:=⟨w.heap.size,0,none⟩) yz).trans y0
 have y1:=(hb2.cell (p:=⟨w.heap.size,1,none⟩) yz).trans y1
 have yz:=Nat.lt_of_lt_of_le yz hb2.size
 have B2:=Lib.hid (bel_below b1 hb2)
 have C2:=Lib.hid (CP.out w2 B2.out)
 clear hw1 b1 hb2 CP CO CK
 go_wp2_with fail
 refine C2.out.mono ?_
 rintro e w3 ⟨v3,l,rfl,_,_,rfl,hs3,hb3⟩
 obtain ⟨va,vc,rfl,hvc,hvm⟩:=hs3.slice
 have B3:=Lib.hid (bel_below B2.out hb3)
 have S3:=Lib.hid (hs3.take (m:=2) (by omega))
 have hv2:2<=vc:=by omega
 clear hs3 hb3 C2 B2 y0 y1 yz
 go_wp2_with (at_builtin;refine wpList_app rfl _ _ 36 rfl w.heap.size 3 i0 (.int .i64 0) 8 Tryz.underlying36 hi0 hz0 hz1 hz2 rfl _ 1 [.int .i64 o] rfl (own_lit _ [.int .i64 o] 3 _ _ 1 ?c7 rfl ?c0 ?c1) _ _ 2 _ rfl ((S3.out.base (B':=0) (Nat.zero_le _)).below ?c2) ?c3 ?c4 ?c5 ?c6 ?_)
 case c7=>simp
 case c0=>have:=B3.out.size;simp;omega
 case c1=>simp [maxLen]
 case c2=>exact bel_alloc (bel_alloc (Below.refl _ _) _) _
 case c3=>intro i;rfl
 case c4=>simp only [maxLen];omega
 case c5=>omega
 case c6=>have:=B3.out.size;simp;omega
 intro v5 w5 ho hg
 have B5:Hid (Below w.heap.size w w5):=(bel_alloc (bel_alloc B3.out _) _).grown hg (by have:=B3.out.size;simp;omega) (fun k hk=>by simp [Value.ownBlock] at hk;have:=B3.out.size;omega)
 have ho':w5.ownsRow w.heap.size 3 1 v5 3 ([o,s0,s1].map (Value.int .i64)):=ho
 obtain ⟨a5,c5,rfl⟩:=own_shapeK ho'
 have S5:=Lib.hid (own_ints ho')
 clear ho ho' hg
 go_wp2_with fail
 go_ret
 exact HK.out _ _ (by rw [HKL.out];exact S5.out) B5.out
end
end Go.Proofs.YtahiahjhpakeiaaGreatDoor
section
namespace Go.Proofs.YtahiahjhpakeiaaGreatDoor
open Go.RowKit
set_option linter.unusedVariables false
set_option linter.unusedSimpArgs false
theorem insc_none (w:World) (v fv:Value):Calls Tryz.prog 148 #[v,.int .i64 0,.int .i64 0,fv] w fun e w'=>e = .returned (.tuple #[])∧w'=w:=by
 go_enter Tryz.func148,Tryz.ntmps148
 go_wp2
 refine wp_loop_rounds 1 ?_
 rw [rounds_succ]
 go_wp2
 go_end0
 exact ⟨rfl,rfl⟩
theorem stb_none (w:World) (v fv:Value):Calls Tryz.prog 113 #[v,.int .i64 0,fv] w fun e w'=>e = .returned (.tuple #[])∧w'=w:=by
 go_enter Tryz.func113,Tryz.ntmps113
 go_wp2
 refine wp_loop_rounds 1 ?_
 rw [rounds_succ]
 go_wp2_with (go_at_call 148;refine (insc_none _ _ _).mono ?_;rintro e w' ⟨rfl,rfl⟩)
 refine wp_loop_rounds 1 ?_
 rw [rounds_succ]
 go_wp2
 go_end0
 exact ⟨rfl,rfl⟩
theorem ssf_none (w:World) (a:Option Addr) (c:Nat) (fv:Value):Calls Tryz.prog 58 #[.slice a 0 c,fv] w fun e w'=>e = .returned (.tuple #[])∧w'=w:=by
 go_enter Tryz.func58,Tryz.ntmps58
 go_wp2_with (go_at_call 113;refine (stb_none _ _ _).mono ?_;rintro e w' ⟨rfl,rfl⟩)
 go_end0
 exact ⟨rfl,rfl⟩
end Go.Proofs.YtahiahjhpakeiaaGreatDoor
namespace Go.Proofs.YtahiahjhpakeiaaGreatDoor
open Go.RowKit Go.Maps Go.Sort Go.WideShapes Go.ChangeShapes Go.Deep
set_option linter.unusedVariables false
set_option linter.unusedSimpArgs false
attribute [local go_sem] later_cell later_frozen later_lt cell_set_off cell_set_block
def FirstI (p:Int->Bool) (l:List Int) (r:Int):Prop:=(r = -1 ∧ ∀ x∈l,p x=false) ∨ ∃ k:Nat,r=k∧k<l.length∧p (nth l k)=true ∧ ∀ j,j<k->p (nth l j)=false
theorem indexq_at (w:World) (v:Value) (l:List Int) (p:Int->Bool) (gf:Nat) (lb:Array Value) (hl:SlAt 0 (fun i=>.int .i64 (nth l i)) l.length w v) (hlm:l.length<=4000000000)
 (heg:∀ args w,(callFunc gf args).run Tryz.prog w = .ok (.enter gf args) w)
 (hp:∀ wr,RowKit.Below w.heap.size w wr -> ∀ x∈l,Calls Tryz.prog gf (#[.int .i64 x] ++ lb) wr fun e w'=>e = .returned (.bool (p x))∧RowKit.Below wr.heap.size wr w') :
 Calls Tryz.prog 55 #[v,.func (.func gf) #[] lb] w fun e w'=>∃ r:Int,e = .returned (.int .i64 r)∧FirstI p l r∧RowKit.Below w.heap.size w w':=by
 have HL:=Lib.hid hl
 have HPP:=Lib.hid hp
 obtain ⟨a,cap,rfl,_⟩:=hl.slice
 clear hl hp
 go_enter Tryz.func55,Tryz.ntmps55
 go_wp2
 go_loopw [5,8] (fun _ i wr=>∃ k:Nat,k<=l.length∧i = .int .i64 k∧RowKit.Below w.heap.size w wr∧Hid (∀ j,j<k->p (nth l j)=false)) (fun _ i _=>l.length - (intOf i).toNat)
 case atStart=>exact ⟨0,Nat.zero_le _,rfl,RowKit.Below.refl _ _,fun j hj=>absurd hj (by omega)⟩
 case round =>
  obtain ⟨k,hk,rfl,hB,hno⟩:=hrel
  by_cases hlt:k<l.length
  · obtain ⟨b,off,rfl,_,hb,hc⟩:=HL.out.at k hlt wr hB
    have hin:nth l k∈l:=nth_mem.2 ⟨k,hlt,rfl⟩
    have CP:=Lib.hid (HPP.out wr hB _ hin)
    cases hq:p (nth l k) with
    | true =>
      have HQ:=Lib.hid hq
      rw [hq] at CP
      clear hq hin
      go_wp2_with fail
      refine CP.out.mono ?_
      rintro e w5 ⟨rfl,hB5⟩
      have B5:=Lib.hid (bel_below hB hB5)
      clear hB5
      go_wp2_with fail
      go_ret
      exact ⟨k,rfl,Or.inr ⟨k,rfl,hlt,HQ.out,hno.out⟩,B5.out⟩
    | false =>
      have HQ:=Lib.hid hq
      rw [hq] at CP
      clear hq hin
      go_wp2_with fail
      refine CP.out.mono ?_
      rintro e w5 ⟨rfl,hB5⟩
      have B5:=Lib.hid (bel_below hB hB5)
      clear hB5
      go_wp2_with fail
      go_roundw
      case rel =>
       go_light
       refine ⟨k+1,by omega,by go_num,B5.out,fun j hj=>?_⟩
       by_cases e:j=k
       · subst e;exact HQ.out
       · exact hno.out j (by omega)
      case measure=>go_light;simp [intOf];omega
  · obtain rfl:k=l.length:=by omega
    go_wp2_with fail
    go_ret
    exact ⟨-1,rfl,Or.inl ⟨rfl,fun x hx=>by
     obtain ⟨j,hj,rfl⟩:=nth_mem.1 hx
     exact hno.out j hj⟩,hB⟩
theorem conti_any (w:World) (v:Value) (l:List Int) (h:SlAt 0 (fun i=>.int .i64 (nth l i)) l.length w v) (hl:l.length<=4000000000) (x:Int) :
 Calls Tryz.prog 57 #[v,.int .i64 x] w fun e w'=>e = .returned (.bool (l.contains x))∧RowKit.Below w.heap.size w w':=by
 have CX:=Lib.hid (indexi_any w v l h hl x)
 obtain ⟨a,cap,rfl,_⟩:=h.slice
 have HC:Hid (decide (0<=idxI l x)=l.contains x):=show _=_ by
  rw [Bool.eq_iff_iff,decide_eq_true_eq,List.contains_iff_mem]
  constructor
  · intro h0
    rcases idxI_cases l x with h1 | ⟨i,h1,h2,h3⟩
    · omega
    · rw [← h3];exact nth_mem.2 ⟨i,h1,rfl⟩
  · intro hm
    have:=idxI_mem hm
    omega
 obtain ⟨r,hr⟩:∃ z,z=idxI l x:=⟨_,rfl⟩
 rw [← hr] at CX HC
 clear h hr
 go_enter Tryz.func57,Tryz.ntmps57
 go_wp2_with fail
 refine CX.out.mono ?_
 rintro e w1 ⟨rfl,rfl⟩
 go_wp2_with fail
 all_goals
  go_ret
  exact ⟨by rw [← HC.out];first | done | rfl | simp_all,RowKit.Below.refl _ _⟩
theorem plan1_any (w:World) (f:RS) (I:Inv f) (av iv:Value) (hc:SlAt 0 (fun i=>.int .i64 (nth (circ f) i)) (circ f).length w av) (hi:SlAt 0 (fun i=>.int .u64 (nth ((circ f).map (idR f)) i)) (circ f).length w iv)
 (b:Nat) (c0:w.cell? ⟨b,0,none⟩=some av) (c1:w.cell? ⟨b,1,none⟩=some iv) (bz:b<w.heap.size) (n:Int) :
 Calls Tryz.prog 56 #[.int .i64 n,.pointer (some ⟨b,0,none⟩)] w fun e w'=>e = .returned (.bool (livesR f n))∧RowKit.Below w.heap.size w w':=by
 have hcl:(circ f).length<=32:=by rw [circ_len];exact length_liveL f
 have hi2:SlAt 0 (fun j=>.int .u64 (nth ((circ f).map (idR f)) j)) ((circ f).map (idR f)).length w iv:=by simpa using hi
 have CP:=cpeer_at w (circ f) ((circ f).map (idR f)) av iv hc hi2 (by simp) (by omega) n
 obtain ⟨aa,ac,rfl,_⟩:=hc.slice
 obtain ⟨ia,ic,rfl,_⟩:=hi.slice
 obtain ⟨cl,hcle⟩:∃ z,z=(circ f).length:=⟨_,rfl⟩
 cases hl:livesR f n with
 | true =>
   have hm:¬ idxI (circ f) n<0:=idxI_mem ((circ_mem I).2 hl)
   have CY:=Lib.hid (CP.mono fun e w' h=>h.yes hm)
   rw [← hcle] at c0 c1 CY
   clear hc hi hi2 CP hl hm hcle hcl
   go_enter Tryz.func56,Tryz.ntmps56
   go_wp2_with fail
   refine CY.out.mono ?_
   rintro e w1 ⟨v,rfl,hs,hb⟩
   obtain ⟨a1,q1,rfl,_⟩:=hs.slice
   have HB:=Lib.hid hb
   clear hs hb CY c0 c1
   go_wp2_with fail
   go_ret
   exact ⟨rfl,bel_alloc HB.out _⟩
 | false =>
   have hm:idxI (circ f) n<0:=by
    rcases idxI_cases (circ f) n with h1 | ⟨i,h1,h2,h3⟩
    · omega
    · exfalso
      have:=(circ_mem I).1 (nth_mem.2 ⟨i,h1,rfl⟩)
      rw [h3,hl] at this;cases this
   have CY:=Lib.hid (CP.mono fun e w' h=>(by unfold KnowPost at h;rw [if_pos hm] at h;exact h:e = .returned (.tuple #[.agg #[.int .u64 0,.int .i64 0,.slice none 0 0],.bool false])∧RowKit.Below w.heap.size w w'))
   rw [← hcle] at c0 c1 CY
   clear hc hi hi2 CP hl hm hcle hcl
   go_enter Tryz.func56,Tryz.ntmps56
   go_wp2_with fail
   refine CY.out.mono ?_
   rintro e w1 ⟨rfl,hb⟩
   have HB:=Lib.hid hb
   clear hb CY c0 c1
   go_wp2_with fail
   go_ret
   exact ⟨rfl,bel_alloc HB.out _⟩
end Go.Proofs.YtahiahjhpakeiaaGreatDoor
end
section
namespace Go.Proofs.YtahiahjhpakeiaaGreatDoor
open Go.RowKit Go.Maps Go.Sort
set_option linter.unusedVariables false
set_option linter.unusedSimpArgs false
attribute [local go_sem] later_cell later_frozen later_lt cell_set_off cell_set_block
def bestK (f:RS) (x:Int):Nat->Int
 | 0=>-1
 | k+1=>if bestK f x k<0 then nth (liveL f) k else if dist x (idR f (nth (liveL f) k))<dist x (idR f (bestK f x k)) then nth (liveL f) k else bestK f x k
theorem bestK_first {f:RS} {x:Int} {k:Nat} (h:bestK f x k = -1):bestK f x (k+1)=nth (liveL f) k:=by
 show (if _ then _ else _)=_
 rw [h];rfl
theorem bestK_take {f:RS} {x b:Int} {k:Nat} (h:bestK f x k=b) (h0:0<=b) (hd:dist x (idR f (nth (liveL f) k))<dist x (idR f b)):bestK f x (k+1)=nth (liveL f) k:=by
 show (if _ then _ else _)=_
 rw [h,if_neg (by omega),if_pos hd]
theorem bestK_skip {f:RS} {x b:Int} {k:Nat} (h:bestK f x k=b) (h0:0<=b) (hd:¬ dist x (idR f (nth (liveL f) k))<dist x (idR f b)):bestK f x (k+1)=b:=by
 show (if _ then _ else _)=_
 rw [h,if_neg (by omega),if_neg hd]
theorem live_nth {f:RS} (I:Inv f) {k:Nat} (hk:k<(liveL f).length):livesR f (nth (liveL f) k)=true:=(mem_liveL I.dom).1 (nth_mem.2 ⟨k,hk,rfl⟩)
theorem bestK_spec {f:RS} (I:Inv f) (x:Int):∀ k,k<=(liveL f).length->(k=0∧bestK f x k = -1)∨(0<k∧livesR f (bestK f x k)=true ∧ ∀ j,j<k->dist x (idR f (bestK f x k))<=dist x (idR f (nth (liveL f) j))):=by
 intro k
 induction k with
 | zero=>intro _;exact Or.inl ⟨rfl,rfl⟩
 | succ k ih =>
   intro hk
   have hl:=live_nth I (show k<(liveL f).length by omega)
   refine Or.inr ⟨by omega,?_⟩
   rcases ih (by omega) with ⟨h0,h1⟩ | ⟨h0,h1,h2⟩
   · rw [bestK_first h1]
     refine ⟨hl,fun j hj=>?_⟩
     obtain rfl:j=k:=by omega
     exact Int.le_refl _
   · have hp:=(livesR_dom I.dom h1).1
     by_cases hd:dist x (idR f (nth (liveL f) k))<dist x (idR f (bestK f x k))
     · rw [bestK_take rfl hp hd]
       refine ⟨hl,fun j hj=>?_⟩
       by_cases e:j=k
       · rw [e];exact Int.le_refl _
       · have:=h2 j (by omega);omega
     · rw [bestK_skip rfl hp hd]
       refine ⟨h1,fun j hj=>?_⟩
       by_cases e:j=k
       · rw [e];omega
       · exact h2 j (by omega)
theorem bestK_all {f:RS} (I:Inv f) {x:Int} (hx:isPlace x):bestK f x (liveL f).length=cOwner (circ f) ((circ f).map (idR f)) x:=by
 have h4:=live4 I
 rcases bestK_spec I x _ (Nat.le_refl _) with ⟨h0,_⟩ | ⟨_,h1,h2⟩
 · omega
 · refine (owner_best I hx h1 fun y hy=>?_).symm
   obtain ⟨j,hj,rfl⟩:=nth_mem.1 ((mem_liveL I.dom).2 hy)
   exact h2 j hj
variable {Q:Nat->Prop} {w:World} {p:Where} {f:RS} {V:Nat->Value}
set_option maxRecDepth 100000 in
set_option maxHeartbeats 8000000 in
theorem rown_any (h:RefRows Q w p f V) (I:Inv f) (x:Int) (hx:isPlace x):Calls Tryz.prog 67 #[(.agg #[.slice (some ⟨(p).b1,(p).o1,none⟩) 32 (p).k1,.slice (some ⟨(p).b2,(p).o2,none⟩) 32 (p).k2,.slice (some ⟨(p).b3,(p).o3,none⟩) 32 (p).k3,.slice (some ⟨(p).b4,(p).o4,none⟩) 32 (p).k4]),.int .u64 x] w fun e w'=>e = .returned (.int .i64 (cOwner (circ f) ((circ f).map (idR f)) x))∧RowKit.Below w.heap.size w w':=by
 have HR:=Lib.hid h
 have HI:=Lib.hid I
 have HA:=Lib.hid (bestK_all I hx)
 have CD:=Lib.hid fun (a:Int) (ha:isPlace a) (wr:World)=>rdist_any x a wr hx ha
 have hll:=length_liveL f
 clear h I hx
 go_enter Tryz.func67,Tryz.ntmps67
 go_upto_region 1 with (fail)
 obtain ⟨w1,hw1⟩:∃ z,z=w.alloc (.cells #[.slice (some ⟨p.b1,p.o1,none⟩) 32 p.k1,.slice (some ⟨p.b2,p.o2,none⟩) 32 p.k2,.slice (some ⟨p.b3,p.o3,none⟩) 32 p.k3,.slice (some ⟨p.b4,p.o4,none⟩) 32 p.k4] 32):=⟨_,rfl⟩
 obtain ⟨T,hT⟩:∃ T,T=w.heap.size:=⟨_,rfl⟩
 have B1:Hid (RowKit.Below w.heap.size w w1):=by rw [hw1];exact bel_alloc (RowKit.Below.refl _ _) _
 have T1:Hid (BoxOf w1 T p):=by rw [hw1,hT];exact ⟨by simp [go_sem],by simp [go_sem],by simp [go_sem],by simp [go_sem],by simp [go_sem],by simp [go_sem],by simp [go_sem],by simp [go_sem],by simp⟩
 rw [← hw1,← hT]
 clear hw1 hT
 have t0:=T1.out.c0
 have t1:=T1.out.c1
 have t2:=T1.out.c2
 have t3:=T1.out.c3
 have zT:=T1.out.z
 go_wp2_with fail
 refine (rlive_any (HR.out.below B1.out)).mono ?_
 rintro e w2 ⟨v,rfl,hv,hb2⟩
 obtain ⟨va,vc,rfl,_⟩:=hv.slice
 have B2:=Lib.hid (bel_below B1.out hb2)
 have T2:=Lib.hid (T1.out.later hb2)
 have SV:Hid (SlAt 0 (fun i=>.int .i64 (nth (liveL f) i)) (liveL f).length w2 (.slice va (liveL f).length vc)):=hv.base (Nat.zero_le _)
 clear hv hb2 t0 t1 t2 t3 zT T1 B1
 obtain ⟨L,hL⟩:∃ L,L=liveL f:=⟨_,rfl⟩
 rw [← hL] at SV hll HA ⊢
 have HL:=Lib.hid hL
 clear hL
 go_wp2_with fail
 go_loopw [5,7,11] (fun b _ i wr=>∃ k:Nat,k<=L.length∧i = .int .i64 k∧b = .int .i64 (bestK f x k)∧Hid (RowKit.Below w2.heap.size w2 wr)) (fun _ _ i _=>L.length - (intOf i).toNat)
 case atStart=>exact ⟨0,Nat.zero_le _,rfl,rfl,RowKit.Below.refl _ _⟩
 case round =>
  obtain ⟨k,hk,rfl,rfl,hB⟩:=hrel
  obtain ⟨b,hb⟩:∃ b,b=bestK f x k:=⟨_,rfl⟩
  rw [← hb]
  have HB:=Lib.hid hb
  clear hb
  by_cases hlt:k<L.length
  · have T3:=T2.out.later hB.out
    have t0:=T3.c0
    have t1:=T3.c1
    have t2:=T3.c2
    have t3:=T3.c3
    have zT:=T3.z
    obtain ⟨vb,off,rfl,_,hvz,hvc⟩:=SV.out.at k hlt wr hB.out
    have hnl:livesR f (nth L k)=true:=by rw [HL.out];exact live_nth HI.out (by rw [← HL.out];exact hlt)
    obtain ⟨n,hn⟩:∃ n,n=nth L k:=⟨_,rfl⟩
    rw [← hn] at hvc hnl
    obtain ⟨hn0,hn1⟩:=livesR_dom HI.out.dom hnl
    obtain ⟨m,rfl⟩:∃ m:Nat,n=m:=⟨n.toNat,by omega⟩
    have pn:=idR_place HI.out.dom m
    have HN:Hid ((m:Int)=nth (liveL f) k):=by rw [← HL.out];exact hn
    have hm:m<32:=by omega
    have RR:=HR.out.below (bel_below B2.out hB.out)
    have c1:=RR.at_id hm
    have z1:=RR.ids.z
    have hk1:=RR.ids.c0
    clear hn T3
    rcases bestK_spec HI.out x k (by rw [← HL.out];omega) with ⟨h0,h1⟩ | ⟨h0,h1,_⟩
    · rw [← HB.out] at h1
      have hb0:b<0:=by omega
      clear RR h0
      have H1:=Lib.hid h1
      clear h1
      go_wp2_with fail
      refine wp_region_calm (by kernel_rfl) (by kernel_rfl) ?_
      repeat (first | (go_big_quiet_step ((fail))) | (refine wpQuiet_step (fun K hK=>?_);go_simp;first | (refine hK _ ?_;clear hK K) | (apply Exists.intro;refine ⟨fun _=>?_,hK _ ?_⟩;(fail);clear hK K)))
      refine wpQuiet_nil ?_
      intro _ hw'
      obtain ⟨xq,hw''⟩:=hw'
      subst hw''
      have B3:=Lib.hid (bel_below hB.out xq.below)
      obtain ⟨w3,hB3⟩:=xq
      dsimp only at B3 ⊢
      clear t0 t1 t2 t3 zT hvc hvz c1 z1 hB3
      go_wp2_with fail
      go_roundw
      case rel=>go_light;exact ⟨k+1,by omega,by go_num,by rw [bestK_first (HB.out ▸ H1.out),HN.out],B3.out⟩
      case measure=>go_light;simp [intOf];omega
    · rw [← HB.out] at h1
      obtain ⟨hb0,hb1⟩:=livesR_dom HI.out.dom h1
      obtain ⟨q,rfl⟩:∃ q:Nat,b=q:=⟨b.toNat,by omega⟩
      have pb:=idR_place HI.out.dom q
      have c2:=RR.at_id (k:=q) (by omega)
      have hbn:¬ (q:Int)<0:=by omega
      clear RR h1
      by_cases hd:dist x (idR f m)<dist x (idR f q)
      · go_wp2_with fail
        refine wp_region_calm (by kernel_rfl) (by kernel_rfl) ?_
        repeat (first | (go_big_quiet_step ((go_at_call 116;exact calls_calm_same (CD.out _ (by assumption) _)))) | (refine wpQuiet_step (fun K hK=>?_);go_simp;first | (refine hK _ ?_;clear hK K) | (apply Exists.intro;refine ⟨fun _=>?_,hK _ ?_⟩;(go_at_call 116;exact calls_calm_same (CD.out _ (by assumption) _));clear hK K)))
        refine wpQuiet_nil ?_
        intro _ hw'
        obtain ⟨xq,hw''⟩:=hw'
        subst hw''
        have B3:=Lib.hid (bel_below hB.out xq.below)
        obtain ⟨w3,hB3⟩:=xq
        dsimp only at B3 ⊢
        clear t0 t1 t2 t3 zT hvc hvz c1 z1 hB3 c2
        go_wp2_with fail
        go_roundw
        case rel=>go_light;exact ⟨k+1,by omega,by go_num,by rw [bestK_take HB.out.symm hb0 (by rw [← HN.out];exact hd),HN.out],B3.out⟩
        case measure=>go_light;simp [intOf];omega
      · go_wp2_with fail
        refine wp_region_calm (by kernel_rfl) (by kernel_rfl) ?_
        repeat (first | (go_big_quiet_step ((go_at_call 116;exact calls_calm_same (CD.out _ (by assumption) _)))) | (refine wpQuiet_step (fun K hK=>?_);go_simp;first | (refine hK _ ?_;clear hK K) | (apply Exists.intro;refine ⟨fun _=>?_,hK _ ?_⟩;(go_at_call 116;exact calls_calm_same (CD.out _ (by assumption) _));clear hK K)))
        refine wpQuiet_nil ?_
        intro _ hw'
        obtain ⟨xq,hw''⟩:=hw'
        subst hw''
        have B3:=Lib.hid (bel_below hB.out xq.below)
        obtain ⟨w3,hB3⟩:=xq
        dsimp only at B3 ⊢
        clear t0 t1 t2 t3 zT hvc hvz c1 z1 hB3 c2
        go_wp2_with fail
        go_roundw
        case rel=>go_light;exact ⟨k+1,by omega,by go_num,by rw [bestK_skip HB.out.symm hb0 (by rw [← HN.out];exact Int.not_lt.2 hd)],B3.out⟩
        case measure=>go_light;simp [intOf];omega
  · obtain hkl:k=L.length:=by omega
    have hE:b=cOwner (circ f) ((circ f).map (idR f)) x:=by rw [HB.out,hkl];exact HA.out
    have HE:=Lib.hid hE
    clear hkl hE
    go_wp2_with fail
    go_ret
    exact ⟨by rw [HE.out];first | done | rfl,bel_below B2.out hB.out⟩
end Go.Proofs.YtahiahjhpakeiaaGreatDoor
namespace Go.Proofs.YtahiahjhpakeiaaGreatDoor
open Go.RowKit Go.Maps Go.Sort
set_option linter.unusedVariables false
set_option linter.unusedSimpArgs false
attribute [local go_sem] later_cell later_frozen later_lt cell_set_off cell_set_block
structure Box3 (u:World) (b:Nat) (x0 x1 x2:Value):Prop where
 c0:u.cell? ⟨b,0,none⟩=some x0
 c1:u.cell? ⟨b,1,none⟩=some x1
 c2:u.cell? ⟨b,2,none⟩=some x2
 f0:u.frozen? ⟨b,0,none⟩=false
 f1:u.frozen? ⟨b,1,none⟩=false
 f2:u.frozen? ⟨b,2,none⟩=false
 z:b<u.heap.size
theorem Box3.block {u u':World} {b:Nat} {x0 x1 x2:Value} (h:Box3 u b x0 x1 x2) (hs:u.heap.size<=u'.heap.size) (hb:u'.heap[b]? = u.heap[b]?):Box3 u' b x0 x1 x2 :=
 ⟨(World.cell?_of_block hb).trans h.c0,(World.cell?_of_block hb).trans h.c1,(World.cell?_of_block hb).trans h.c2,(World.frozen?_of_block hb).trans h.f0,(World.frozen?_of_block hb).trans h.f1,(World.frozen?_of_block hb).trans h.f2,Nat.lt_of_lt_of_le h.z hs⟩
theorem Box3.later {u u':World} {b:Nat} {x0 x1 x2:Value} (h:Box3 u b x0 x1 x2) (hb:RowKit.Below u.heap.size u u'):Box3 u' b x0 x1 x2:=h.block hb.size (hb.block _ h.z)
theorem Box3.set1 {u:World} {b:Nat} {x0 x1 x2:Value} (h:Box3 u b x0 x1 x2) (y:Value):Box3 (u.setCell ⟨b,1,none⟩ y) b x0 y x2 :=
 ⟨by rw [cell_set_off _ _ _ _ _ (by decide)];exact h.c0,World.cell?_setCell_same _ _ _ h.c1,by rw [cell_set_off _ _ _ _ _ (by decide)];exact h.c2,by rw [World.frozen?_setCell];exact h.f0,by rw [World.frozen?_setCell];exact h.f1,by rw [World.frozen?_setCell];exact h.f2,by rw [size_set];exact h.z⟩
theorem Box3.set2 {u:World} {b:Nat} {x0 x1 x2:Value} (h:Box3 u b x0 x1 x2) (y:Value):Box3 (u.setCell ⟨b,2,none⟩ y) b x0 x1 y :=
 ⟨by rw [cell_set_off _ _ _ _ _ (by decide)];exact h.c0,by rw [cell_set_off _ _ _ _ _ (by decide)];exact h.c1,World.cell?_setCell_same _ _ _ h.c2,by rw [World.frozen?_setCell];exact h.f0,by rw [World.frozen?_setCell];exact h.f1,by rw [World.frozen?_setCell];exact h.f2,by rw [size_set];exact h.z⟩
def sucK (c:List Int) (x:Int) (i:Nat):List Int:=(List.range (min i 3)).map fun j:Nat=>cAt c (x+((j:Int)+1))
def preK (c:List Int) (x:Int) (i:Nat):Int:=if i=0 then -1 else cAt c (x+(i:Int))
theorem sucK_more {c:List Int} {x:Int} {i:Nat} (h:i<3):sucK c x (i+1)=sucK c x i ++ [cAt c (x+((i:Int)+1))]:=by
 unfold sucK
 rw [show min (i+1) 3=min i 3+1 by omega,List.range_succ,List.map_append,show min i 3=i by omega];rfl
theorem sucK_same {c:List Int} {x:Int} {i:Nat} (h:¬ i<3):sucK c x (i+1)=sucK c x i:=by
 unfold sucK
 rw [show min (i+1) 3=min i 3 by omega]
theorem sucK_all {c:List Int} {x:Int} {i:Nat} (h:3<=i):sucK c x i=[cAt c (x+1),cAt c (x+2),cAt c (x+3)]:=by
 unfold sucK
 rw [show min i 3=3 by omega]
 simp [List.range_succ]
theorem preK_all {f:RS} (I:Inv f) (x:Int):preK (circ f) x ((circ f).length - 1)=cAt (circ f) (x - 1):=by
 have h4:4<=(circ f).length:=by rw [circ_len];exact live4 I
 unfold preK
 rw [if_neg (by omega)]
 unfold cAt
 rw [show x+(((circ f).length - 1:Nat):Int)=x - 1+((circ f).length:Int) by omega,Int.add_emod_right]
def PeerPost (w:World) (f:RS) (x:Int) (e:Ending) (w':World):Prop :=
 ∃ v,e = .returned (.agg #[.int .u64 (idR f (cAt (circ f) x)),.int .i64 (cAt (circ f) (x - 1)),v]) ∧
   SlAt w.heap.size (fun i=>.int .i64 (nth [cAt (circ f) (x+1),cAt (circ f) (x+2),cAt (circ f) (x+3)] i)) 3 w' v∧RowKit.Below w.heap.size w w'
variable {Q:Nat->Prop} {w:World} {p:Where} {f:RS} {V:Nat->Value}
set_option maxRecDepth 100000 in
set_option maxHeartbeats 8000000 in
theorem rpeer_any (h:RefRows Q w p f V) (I:Inv f) (x:Int) (n:Int) (hn:n=cAt (circ f) x):Calls Tryz.prog 69 #[(.agg #[.slice (some ⟨(p).b1,(p).o1,none⟩) 32 (p).k1,.slice (some ⟨(p).b2,(p).o2,none⟩) 32 (p).k2,.slice (some ⟨(p).b3,(p).o3,none⟩) 32 (p).k3,.slice (some ⟨(p).b4,(p).o4,none⟩) 32 (p).k4]),.int .i64 n] w (PeerPost w f x):=by
 obtain ⟨i0,hi,hz0,hz1,hz2⟩:∃ i0,Tryz.prog.info? 3=some i0∧i0.zero=some (Value.int .i64 0)∧i0.size=1∧i0.bytes=8:=⟨intRI,intRI_at,by kernel_rfl,by kernel_rfl,by kernel_rfl⟩
 have HR:=Lib.hid h
 have HI:=Lib.hid I
 have h4:4<=(circ f).length:=by rw [circ_len];exact live4 I
 have hlen:(circ f).length<=32:=by rw [circ_len];exact length_liveL f
 have HPR:=Lib.hid (preK_all I x)
 have HSU:=Lib.hid (fun i (hi:3<=i)=>sucK_all (c:=circ f) (x:=x) hi)
 have HLV:=Lib.hid (circ_len f)
 have HOW:=Lib.hid fun (y:Int)=>owner_next I y
 have HLI:=Lib.hid fun (y:Int)=>livesR_dom I.dom (cAt_lives I y)
 obtain ⟨m,rfl⟩:∃ m:Nat,n=m:=⟨n.toNat,by have:=(HLI.out x).1;omega⟩
 have hm:m<32:=by have:=(HLI.out x).2;omega
 have c0:=h.at_id hm
 have zc:=h.ids.z
 have hkc:=h.ids.c0
 have HN:=Lib.hid hn
 obtain ⟨idm,hid⟩:∃ a,a=idR f m:=⟨_,rfl⟩
 rw [← hid] at c0
 have HID:Hid (idm=idR f (cAt (circ f) x)):=by show _=_;rw [hid,hn]
 clear h I hn hid
 go_enter Tryz.func69,Tryz.ntmps69
 go_upto_region 2 with (fail)
 obtain ⟨w1,hw1⟩:∃ z,z=((w.alloc (.cells #[.slice (some ⟨p.b1,p.o1,none⟩) 32 p.k1,.slice (some ⟨p.b2,p.o2,none⟩) 32 p.k2,.slice (some ⟨p.b3,p.o3,none⟩) 32 p.k3,.slice (some ⟨p.b4,p.o4,none⟩) 32 p.k4] 32)).alloc (.cells #[.int .u64 0,.int .i64 0,.slice none 0 0] 126)).alloc (.cells #[.int .u64 idm,.int .i64 (-1),.slice none 0 0] 126):=⟨_,rfl⟩
 obtain ⟨T,hT⟩:∃ T,T=w.heap.size:=⟨_,rfl⟩
 have B1:Hid (RowKit.Below w.heap.size w w1):=by rw [hw1];exact bel_alloc (bel_alloc (bel_alloc (RowKit.Below.refl _ _) _) _) _
 have T1:Hid (BoxOf w1 T p):=by rw [hw1,hT];exact ⟨by simp [go_sem],by simp [go_sem],by simp [go_sem],by simp [go_sem],by simp [go_sem],by simp [go_sem],by simp [go_sem],by simp [go_sem],by simp;omega⟩
 have U1:Hid (Box3 w1 (T+1) (.int .u64 0) (.int .i64 0) (.slice none 0 0)):=by rw [hw1,hT];exact ⟨by simp [go_sem],by simp [go_sem],by simp [go_sem],by simp [go_sem],by simp [go_sem],by simp [go_sem],by simp⟩
 have X1:Hid (Box3 w1 (T+1+1) (.int .u64 idm) (.int .i64 (-1)) (.slice none 0 0)):=by rw [hw1,hT];exact ⟨by simp [go_sem],by simp [go_sem],by simp [go_sem],by simp [go_sem],by simp [go_sem],by simp [go_sem],by simp⟩
 have hz1':w1.heap.size=T+1+1+1:=by rw [hw1,hT];simp
 have HT:=Lib.hid hT
 rw [← hw1,← hT]
 clear hw1 hT c0 zc
 have t0:=T1.out.c0
 have t1:=T1.out.c1
 have t2:=T1.out.c2
 have t3:=T1.out.c3
 have zT:=T1.out.z
 have x0:=X1.out.c0
 have zX:=X1.out.z
 go_wp2_with fail
 refine (rlive_any (HR.out.below B1.out)).mono ?_
 rintro e w2 ⟨v,rfl,hv,hb2⟩
 obtain ⟨va,vc,rfl,_⟩:=hv.slice
 have B2:Hid (RowKit.Below w.heap.size w w2):=bel_below B1.out hb2
 have T2:=Lib.hid (T1.out.later hb2)
 have U2:=Lib.hid (U1.out.later hb2)
 have X2:=Lib.hid (X1.out.later hb2)
 rw [← HLV.out]
 clear hv hb2 t0 t1 t2 t3 zT x0 zX T1 U1 X1 B1 hz1'
 obtain ⟨cl,hcl⟩:∃ cl,cl=(circ f).length:=⟨_,rfl⟩
 rw [← hcl] at h4 hlen HPR ⊢
 clear hcl
 have hst:Hid (idm=idR f (cAt (circ f) (x+((0:Nat):Int)))):=by show _=_;rw [HID.out];simp
 go_wp2_with fail
 go_loopw [6,8,9] (fun xv i _ wr=>∃ (k:Nat) (sv:Value),k<=cl - 1∧i = .int .i64 k∧xv = .int .u64 (idR f (cAt (circ f) (x+(k:Int))))∧Hid (RowKit.Below w.heap.size w wr)∧Hid (BoxOf wr T p)∧Hid (Box3 wr (T+1) (.int .u64 0) (.int .i64 0) (.slice none 0 0))∧Hid (Box3 wr (T+1+1) (.int .u64 idm) (.int .i64 (preK (circ f) x k)) sv)∧Hid (wr.ownsRow (T+1+1+1) 3 1 sv (min k 3) ((sucK (circ f) x k).map (Value.int .i64)))) (fun _ i _ _=>cl - (intOf i).toNat)
 case atStart=>exact ⟨0,.slice none 0 0,Nat.zero_le _,rfl,by rw [hst.out],B2.out,T2.out,U2.out,X2.out,World.ownsRow_nil _ _ _ _⟩
 case round =>
  obtain ⟨k,sv,hk,rfl,rfl,hB,hT,hU,hX,hO⟩:=hrel
  obtain ⟨y,hy⟩:∃ y,y=idR f (cAt (circ f) (x+(k:Int))):=⟨_,rfl⟩
  rw [← hy]
  have HY:=Lib.hid hy
  clear hy
  by_cases hlt:k<cl - 1
  · have hkI:(k:Int)<(cl:Int) - 1:=by omega
    have t0:=hT.out.c0
    have t1:=hT.out.c1
    have t2:=hT.out.c2
    have t3:=hT.out.c3
    have zT:=hT.out.z
    have ho:cOwner (circ f) ((circ f).map (idR f)) (IntKind.u64.wrap (y+1))=cAt (circ f) (x+(k:Int)+1):=by rw [IntKind.wrap_u64,HY.out];exact HOW.out _
    obtain ⟨q,hq⟩:∃ q:Nat,(q:Int)=cAt (circ f) (x+(k:Int)+1):=⟨(cAt (circ f) (x+(k:Int)+1)).toNat,by have:=(HLI.out (x+(k:Int)+1)).1;omega⟩
    have hq32:q<32:=by have:=(HLI.out (x+(k:Int)+1)).2;omega
    have CO:=rown_any (HR.out.below hB.out) HI.out (IntKind.u64.wrap (y+1)) (by rw [IntKind.wrap_u64];unfold isPlace;omega)
    rw [ho,← hq] at CO
    have COO:=Lib.hid CO
    have HQ:Hid ((q:Int)=cAt (circ f) (x+((k+1:Nat):Int))):=by show _=_;rw [hq,show x+(k:Int)+1=x+((k+1:Nat):Int) by omega]
    clear CO ho hq
    go_wp2_with fail
    refine COO.out.mono ?_
    rintro e w3 ⟨rfl,hb3⟩
    have B3:Hid (RowKit.Below w.heap.size w w3):=bel_below hB.out hb3
    have T3:=Lib.hid (hT.out.later hb3)
    have U3:=Lib.hid (hU.out.later hb3)
    have X3:=Lib.hid (hX.out.later hb3)
    have O3:Hid (w3.ownsRow (T+1+1+1) 3 1 sv (min k 3) ((sucK (circ f) x k).map (Value.int .i64))):=owns_block hO.out fun g hg=>hb3.block g (hO.out.lt g hg).2
    have hz3:=hb3.size
    clear hb3 COO t0 t1 t2 t3 zT
    by_cases h3:k<3
    · have h3I:(k:Int)<3:=by omega
      have hmk:min k 3=k:=by omega
      rw [hmk] at O3
      obtain ⟨sa,sc,rfl⟩:∃ a c,sv = .slice a k c:=by
       rcases O3.out.2 with ⟨e,h0⟩ | ⟨g,cap,cur,e,_⟩
       · exact ⟨none,0,by rw [e,h0]⟩
       · exact ⟨_,cap,e⟩
      have x0:=X3.out.c0
      have x1:=X3.out.c1
      have x2:=X3.out.c2
      have xf:=X3.out.f2
      have zX:=X3.out.z
      go_wp2_with (at_builtin;refine wpList_app rfl _ _ 36 rfl (T+1+1+1) 3 i0 (.int .i64 0) 8 Tryz.underlying36 hi hz0 hz1 hz2 rfl _ k _ rfl (O3.out.alloc _) 0 _ 1 _ rfl (sl_new _ .i64 [(q:Int)] 3 _ 1 rfl rfl (by simp [maxLen])) (fun _=>rfl) ?qa1 ?qa2 ?qa3 ?_)
      case qa1=>simp only [maxLen];omega
      case qa2=>omega
      case qa3=>simp;omega
      intro v' w4 ho hg
      have b34:RowKit.Below (T+1+1+1) w3 w4:=((RowKit.Below.refl _ _).alloc (by omega) _).grown hg (by simp;omega) (fun j hj=>by have:=O3.out.lt j hj;omega)
      obtain ⟨va',vc',rfl⟩:=owns_shape ho (by omega)
      have T4:=Lib.hid (T3.out.block b34.size (b34.block _ (by omega)))
      have U4:=Lib.hid (U3.out.block b34.size (b34.block _ (by omega)))
      have X4:=Lib.hid (X3.out.block b34.size (b34.block _ (by omega)))
      have B4:Hid (RowKit.Below w.heap.size w w4):=B3.out.trans (b34.mono (by have:=HT.out;omega))
      have O4:Hid (w4.ownsRow (T+1+1+1) 3 1 (.slice (some ⟨va',0,none⟩) (k+1) vc') (k+1) ((sucK (circ f) x (k+1)).map (Value.int .i64))):=by
       rw [sucK_more h3,List.map_append]
       rw [show cAt (circ f) (x+((k:Int)+1))=(q:Int) by rw [HQ.out];congr 1]
       show World.ownsRow _ _ _ _ _ _ _
       simpa [nth] using ho
      clear x0 x1 x2 xf zX ho hg b34 O3 X3 U3 T3 B3
      have x0:=X4.out.c0
      have x1:=X4.out.c1
      have x2:=X4.out.c2
      have xf:=X4.out.f2
      have zX:=X4.out.z
      go_upto_region 10 with (fail)
      obtain ⟨w5,hw5⟩:∃ z,z=w4.setCell ⟨T+1+1,2,none⟩ (.slice (some ⟨va',0,none⟩) (k+1) vc'):=⟨_,rfl⟩
      have hs5:w5.heap.size=w4.heap.size:=by rw [hw5];exact size_set _ _ _
      have hk5:∀ b,b≠T+1+1->w5.heap[b]? = w4.heap[b]?:=fun b hb=>by rw [hw5];exact Below.heap_setCell _ _ _ _ hb
      have X5:Hid (Box3 w5 (T+1+1) (.int .u64 idm) (.int .i64 (preK (circ f) x k)) (.slice (some ⟨va',0,none⟩) (k+1) vc')):=by rw [hw5];exact X4.out.set2 _
      have T5:=Lib.hid (T4.out.block (Nat.le_of_eq hs5.symm) (hk5 _ (by omega)))
      have U5:=Lib.hid (U4.out.block (Nat.le_of_eq hs5.symm) (hk5 _ (by omega)))
      have B5:Hid (RowKit.Below w.heap.size w w5):=by rw [hw5];exact bel_set B4.out (by have:=HT.out;dsimp only;omega) _
      have O5:Hid (w5.ownsRow (T+1+1+1) 3 1 (.slice (some ⟨va',0,none⟩) (k+1) vc') (min (k+1) 3) ((sucK (circ f) x (k+1)).map (Value.int .i64))):=by
       rw [hw5,show min (k+1) 3=k+1 by omega];exact ownsRow_setCell_below O4.out (by dsimp only;omega) _
      rw [← hw5]
      clear hw5 hs5 hk5 O4 B4 U4 T4 X4 x0 x1 x2 xf zX
      generalize (.slice (some ⟨va',0,none⟩) (k+1) vc':Value)=sv5 at X5 O5
      have hp1:preK (circ f) x (k+1)=q:=by unfold preK;rw [if_neg (by omega)];exact HQ.out.symm
      have HP1:=Lib.hid hp1
      clear hp1
      have x0:=X5.out.c0
      have x1:=X5.out.c1
      have x2:=X5.out.c2
      have xf:=X5.out.f1
      have zX:=X5.out.z
      go_upto_region 11 with (fail)
      obtain ⟨w6,hw6⟩:∃ z,z=w5.setCell ⟨T+1+1,1,none⟩ (.int .i64 q):=⟨_,rfl⟩
      have hs6:w6.heap.size=w5.heap.size:=by rw [hw6];exact size_set _ _ _
      have hk6:∀ b,b≠T+1+1->w6.heap[b]? = w5.heap[b]?:=fun b hb=>by rw [hw6];exact Below.heap_setCell _ _ _ _ hb
      have X6:Hid (Box3 w6 (T+1+1) (.int .u64 idm) (.int .i64 q) sv5):=by rw [hw6];exact X5.out.set1 _
      have T6:=Lib.hid (T5.out.block (Nat.le_of_eq hs6.symm) (hk6 _ (by omega)))
      have U6:=Lib.hid (U5.out.block (Nat.le_of_eq hs6.symm) (hk6 _ (by omega)))
      have B6:Hid (RowKit.Below w.heap.size w w6):=by rw [hw6];exact bel_set B5.out (by have:=HT.out;dsimp only;omega) _
      have O6:Hid (w6.ownsRow (T+1+1+1) 3 1 sv5 (min (k+1) 3) ((sucK (circ f) x (k+1)).map (Value.int .i64))):=by rw [hw6];exact ownsRow_setCell_below O5.out (by dsimp only;omega) _
      rw [← hw6]
      clear hw6 hs6 hk6 O5 B5 U5 T5 X5 x0 x1 x2 xf zX
      have t0:=T6.out.c0
      have t1:=T6.out.c1
      have t2:=T6.out.c2
      have t3:=T6.out.c3
      have zT:=T6.out.z
      have RR:=HR.out.below B6.out
      have cq:=RR.at_id hq32
      have zq:=RR.ids.z
      have hqI:(q:Int)<32:=by omega
      clear RR
      go_wp2_with fail
      go_roundw
      case rel=>go_light;exact ⟨k+1,sv5,by omega,by go_num,by rw [HQ.out],B6.out,T6.out,U6.out,by show Box3 _ _ _ _ _;rw [HP1.out];exact X6.out,O6.out⟩
      case measure=>go_light;simp [intOf];omega
    · have h3I:¬ (k:Int)<3:=by omega
      have T5:=T3
      have U5:=U3
      have X5:=X3
      have B5:=B3
      have O5:Hid (w3.ownsRow (T+1+1+1) 3 1 sv (min (k+1) 3) ((sucK (circ f) x (k+1)).map (Value.int .i64))):=by
       rw [show min (k+1) 3=min k 3 by omega,sucK_same h3];exact O3.out
      obtain ⟨sv5,hsv⟩:∃ s,s=sv:=⟨_,rfl⟩
      obtain ⟨w5,hw5⟩:∃ s,s=w3:=⟨_,rfl⟩
      rw [← hsv] at X5 O5
      rw [← hw5] at X5 O5 T5 U5 B5 ⊢
      clear T3 U3 X3 B3 O3 hsv hw5
      have hp1:preK (circ f) x (k+1)=q:=by unfold preK;rw [if_neg (by omega)];exact HQ.out.symm
      have HP1:=Lib.hid hp1
      clear hp1
      have x0:=X5.out.c0
      have x1:=X5.out.c1
      have x2:=X5.out.c2
      have xf:=X5.out.f1
      have zX:=X5.out.z
      go_upto_region 11 with (fail)
      obtain ⟨w6,hw6⟩:∃ z,z=w5.setCell ⟨T+1+1,1,none⟩ (.int .i64 q):=⟨_,rfl⟩
      have hs6:w6.heap.size=w5.heap.size:=by rw [hw6];exact size_set _ _ _
      have hk6:∀ b,b≠T+1+1->w6.heap[b]? = w5.heap[b]?:=fun b hb=>by rw [hw6];exact Below.heap_setCell _ _ _ _ hb
      have X6:Hid (Box3 w6 (T+1+1) (.int .u64 idm) (.int .i64 q) sv5):=by rw [hw6];exact X5.out.set1 _
      have T6:=Lib.hid (T5.out.block (Nat.le_of_eq hs6.symm) (hk6 _ (by omega)))
      have U6:=Lib.hid (U5.out.block (Nat.le_of_eq hs6.symm) (hk6 _ (by omega)))
      have B6:Hid (RowKit.Below w.heap.size w w6):=by rw [hw6];exact bel_set B5.out (by have:=HT.out;dsimp only;omega) _
      have O6:Hid (w6.ownsRow (T+1+1+1) 3 1 sv5 (min (k+1) 3) ((sucK (circ f) x (k+1)).map (Value.int .i64))):=by rw [hw6];exact ownsRow_setCell_below O5.out (by dsimp only;omega) _
      rw [← hw6]
      clear hw6 hs6 hk6 O5 B5 U5 T5 X5 x0 x1 x2 xf zX
      have t0:=T6.out.c0
      have t1:=T6.out.c1
      have t2:=T6.out.c2
      have t3:=T6.out.c3
      have zT:=T6.out.z
      have RR:=HR.out.below B6.out
      have cq:=RR.at_id hq32
      have zq:=RR.ids.z
      have hqI:(q:Int)<32:=by omega
      clear RR
      go_wp2_with fail
      go_roundw
      case rel=>go_light;exact ⟨k+1,sv5,by omega,by go_num,by rw [HQ.out],B6.out,T6.out,U6.out,by show Box3 _ _ _ _ _;rw [HP1.out];exact X6.out,O6.out⟩
      case measure=>go_light;simp [intOf];omega
  · have hkI:¬ (k:Int)<(cl:Int) - 1:=by omega
    have hkl:k=cl - 1:=by omega
    have hmk:min k 3=3:=by omega
    rw [hmk] at hO
    have hsl:=own_ints hO.out
    rw [HSU.out k (by omega)] at hsl
    obtain ⟨sa,sc,rfl,_⟩:=hsl.slice
    have hpr:preK (circ f) x k=cAt (circ f) (x - 1):=by rw [hkl];exact HPR.out
    rw [hpr] at hX
    obtain ⟨pr,hprn⟩:∃ a,a=cAt (circ f) (x - 1):=⟨_,rfl⟩
    rw [← hprn] at hX
    have HP:=Lib.hid hprn
    have O9:Hid (wr.ownsRow (T+1+1+1) 3 1 (.slice sa 3 sc) 3 ([cAt (circ f) (x+1),cAt (circ f) (x+2),cAt (circ f) (x+3)].map (Value.int .i64))):=by
     have:=hO.out;rwa [HSU.out k (by omega)] at this
    have x0:=hX.out.c0
    have x1:=hX.out.c1
    have x2:=hX.out.c2
    have zX:=hX.out.z
    have u0:=hU.out.c0
    have u1:=hU.out.c1
    have u2:=hU.out.c2
    have uf0:=hU.out.f0
    have uf1:=hU.out.f1
    have uf2:=hU.out.f2
    have zU:=hU.out.z
    clear hsl hpr hprn hkl hmk hO
    go_wp2_with fail
    refine bodyPost_ret (v:=.agg #[.int .u64 idm,.int .i64 pr,.slice sa 3 sc]) ?_ rfl ?_
    · simp [results,Tryz.results69,go_sem,u0,u1,u2]
    refine ⟨.slice sa 3 sc,by rw [HID.out,HP.out],?_,?_⟩
    · have:=own_ints (ownsRow_setCell_below (ownsRow_setCell_below (ownsRow_setCell_below O9.out (a:=⟨T+1,0,none⟩) (by dsimp only;omega) (.int .u64 idm)) (a:=⟨T+1,1,none⟩) (by dsimp only;omega) (.int .i64 pr)) (a:=⟨T+1,2,none⟩) (by dsimp only;omega) (.slice sa 3 sc))
      exact this.base (by have:=HT.out;omega)
    · exact bel_set (bel_set (bel_set hB.out (by have:=HT.out;dsimp only;omega) _) (by have:=HT.out;dsimp only;omega) _) (by have:=HT.out;dsimp only;omega) _
end Go.Proofs.YtahiahjhpakeiaaGreatDoor
end
