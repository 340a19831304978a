/-
  The document's keepers. The document's plan.
-/
import Derived.Test.YtahiahjhpakeiaaGreatDoorPlans1
import Derived.Test.YtahiahjhpakeiaaGreatDoorPlans13
import Derived.Test.YtahiahjhpakeiaaGreatDoorPlans14
import Derived.Test.YtahiahjhpakeiaaGreatDoorPlans21
import Derived.Test.YtahiahjhpakeiaaGreatDoorPlans22
import Derived.Test.YtahiahjhpakeiaaGreatDoorPlans23
import Derived.Test.YtahiahjhpakeiaaGreatDoorPlans27
import Derived.Deep.DeepCutAuto
section
namespace Go.Proofs.YtahiahjhpakeiaaGreatDoor
open Go.RowKit Go.Maps Go.Sort Go.WideShapes Go.ChangeShapes Go.Deep
set_option linter.unusedVariables false
set_option linter.unusedSimpArgs false
attribute [local go_sem] later_cell later_frozen later_lt cell_set_off cell_set_block
end Go.Proofs.YtahiahjhpakeiaaGreatDoor
namespace Go.Proofs.YtahiahjhpakeiaaGreatDoor
open Go.RowKit Go.Maps Go.Sort Go.WideShapes Go.ChangeShapes Go.Deep
set_option linter.unusedVariables false
set_option linter.unusedSimpArgs false
attribute [local go_sem] later_cell later_frozen later_lt cell_set_off cell_set_block
theorem putE_nil (y:Ent):putE [] y=[y]:=by
 unfold putE hitB findI;simp
theorem putT_at (x:Ent) (T:Int->Option (List Ent)) (n:Int):putT x T n n=some (putE ((T n).getD []) (cleanE x)):=by unfold putT;rw [setT_same]
theorem putT_ne (x:Ent) (T:Int->Option (List Ent)) {n m:Int} (h:m≠n):putT x T n m=T m:=by unfold putT;rw [setT_ne _ _ h]
theorem putsT_out (x:Ent):∀ (ks:List Int) (T:Int->Option (List Ent)) (n:Int),n ∉ ks->putsT x T ks n=T n
 | [],_,_,_=>rfl
 | k :: ks,T,n,h=>by
   have h1:n≠k:=fun e=>h (by simp [e])
   have h2:n ∉ ks:=fun e=>h (by simp [e])
   show putsT x (putT x T k) ks n=_
   rw [putsT_out x ks _ n h2,putT_ne _ _ h1]
theorem putsT_in (x:Ent):∀ (ks:List Int) (T:Int->Option (List Ent)) (n:Int),ks.Nodup->n∈ks->putsT x T ks n=some (putE ((T n).getD []) (cleanE x))
 | [],_,_,_,h=>by simp at h
 | k :: ks,T,n,hd,h=>by
   have hd':=List.nodup_cons.1 hd
   show putsT x (putT x T k) ks n=_
   rcases List.mem_cons.1 h with rfl | h
   · rw [putsT_out x ks _ n hd'.1,putT_at]
   · have:n≠k:=fun e=>hd'.1 (e ▸ h)
     rw [putsT_in x ks _ n hd'.2 h,putT_ne _ _ this]
def gE:Ent:=⟨[103],7,[],false,0⟩
theorem kids_put (g:Str) (x:Ent) (hx:x.g=g):(kidsE [cleanE x] g).length=1:=by
 unfold kidsE
 rw [List.length_map,List.filter_cons,clean_g]
 simp [hx]
set_option maxRecDepth 100000 in
set_option maxHeartbeats 8000000 in
theorem awake21_any (W:World):Calls Tryz.prog 9 #[] W fun e w'=>e = .returned (.bool true)∧Below W.heap.size W w':=by
 go_enter Tryz.func9,Tryz.ntmps9
 go_wp2_with fail
 refine (base_any _).mono ?_
 rintro e w1 ⟨v1,rfl,hs1,hB1⟩
 have CB:=Lib.hid (born_any W w1 hB1 v1 ids0 (hs1.base (Nat.zero_le _)) (by unfold ids0 isPlace;simp))
 clear hs1 hB1
 go_wp2_with fail
 refine CB.out.mono ?_
 intro e w2 hq
 unfold Born at hq
 rw [show fourB ids0=true from by unfold fourB;rw [set0];rfl,if_pos rfl] at hq
 obtain ⟨rb,mb,rfl,hR1⟩:=hq
 obtain ⟨f,hf⟩:∃ f,f=newF ids0 (setI ids0) 4:=⟨_,rfl⟩
 rw [← hf] at hR1
 have HIN:=Lib.hid hR1.inv
 have BW2:=Lib.hid hR1.below
 obtain ⟨g,hG⟩:=hR1.ring
 have CC:=Lib.hid (of_at hG hR1.inv)
 clear hR1 CB hG hf
 go_wp2_with fail
 refine CC.out.mono ?_
 rintro e w3 ⟨av,iv,rfl,hav,hiv,hb3⟩
 obtain ⟨aa,ac,rfl,_⟩:=hav.slice
 obtain ⟨ia,ic,rfl,_⟩:=hiv.slice
 have HAV:=Lib.hid (hav.base (B':=0) (Nat.zero_le _))
 have HIV:=Lib.hid (hiv.base (B':=0) (Nat.zero_le _))
 obtain ⟨cl,hcl⟩:∃ z,z=(circ f).length:=⟨_,rfl⟩
 have HCL:=Lib.hid hcl
 have B3:=Lib.hid (bel_below BW2.out hb3)
 rw [← hcl]
 clear hcl hav hiv hb3 CC
 go_upto_region 5 with (fail)
 obtain ⟨w4,hw4⟩:∃ z,z=w3.alloc (.cells #[.slice aa cl ac,.slice ia cl ic] 38):=⟨_,rfl⟩
 obtain ⟨X,hX⟩:∃ z,z=w3.heap.size:=⟨_,rfl⟩
 have b34:Below w3.heap.size w3 w4:=by rw [hw4];exact bel_alloc (Below.refl _ _) _
 have x0:w4.cell? ⟨X,0,none⟩=some (.slice aa cl ac):=by rw [hw4,hX];simp [go_sem]
 have x1:w4.cell? ⟨X,1,none⟩=some (.slice ia cl ic):=by rw [hw4,hX];simp [go_sem]
 have xz:X<w4.heap.size:=by rw [hw4,hX];simp
 have B34:=Lib.hid b34
 have CK:=keep_any w4 f HIN.out _ _ (HAV.out.below b34) (HIV.out.below b34) (ByteArray.mk #[103]) (by decide)
 rw [← HCL.out] at CK
 have CK:=Lib.hid CK
 have HKD:=Lib.hid (keepK_nodup HIN.out (keyH (ByteArray.mk #[103])))
 have HKL:Hid (∀ n∈keepK f (keyH (ByteArray.mk #[103])),0<=n∧n<32):=fun n hn=>livesR_dom HIN.out.dom (keepK_lives HIN.out _ n hn)
 unfold KeepPost at CK
 obtain ⟨ks,hks⟩:∃ z,z=keepK f (keyH (ByteArray.mk #[103])):=⟨_,rfl⟩
 have HKS:=Lib.hid hks
 have HK3:Hid (ks.length=3):=show _=_ by rw [hks];rfl
 rw [← hks] at CK HKD HKL
 rw [← hw4]
 try rw [← hX]
 clear hw4 hX b34 hks
 go_wp2_with fail
 refine CK.out.mono ?_
 rintro e w5 ⟨v5,rfl,hs5,hb5⟩
 obtain ⟨a5,c5,rfl,_⟩:=hs5.slice
 have S5:=Lib.hid (hs5.base (B':=0) (Nat.zero_le _))
 have B5:=Lib.hid (bel_below (bel_below B3.out B34.out) hb5)
 have AV5:=Lib.hid (HAV.out.below (bel_below B34.out hb5))
 have IV5:=Lib.hid (HIV.out.below (bel_below B34.out hb5))
 have x0:=(hb5.cell (p:=⟨X,0,none⟩) xz).trans x0
 have x1:=(hb5.cell (p:=⟨X,1,none⟩) xz).trans x1
 have xz:=Nat.lt_of_lt_of_le xz hb5.size
 clear hs5 hb5 CK HAV HIV B3 B34
 go_wp2_with fail
 refine (snew_any w5).mono ?_
 rintro e w6 ⟨sb,mb2,rfl,⟨R0,tb0,hS6⟩,hb6⟩
 have S6:=Lib.hid hS6
 have x0:=(hb6.cell (p:=⟨X,0,none⟩) xz).trans x0
 have x1:=(hb6.cell (p:=⟨X,1,none⟩) xz).trans x1
 have CP:=sput_any S6.out (fun n l h=>by cases h) f HIN.out _ _ (AV5.out.below hb6) (IV5.out.below hb6) gE (by decide) (.slice none 0 0) (slT_nil _ _) (by decide)
 rw [← HCL.out,show keepK f (keyH (bs gE.g))=ks from HKS.out.symm] at CP
 have CP:=Lib.hid CP
 have B6:=Lib.hid hb6
 have xz6:=Nat.lt_of_lt_of_le xz hb6.size
 clear hS6 hb6
 go_wp2_with fail
 refine CP.out.mono ?_
 rintro e w7 ⟨rfl,⟨R7,tb7,hS7⟩,hK7⟩
 have K57:Hid (Kept (fun b=>¬ b<w5.heap.size) w5 w7):=((Kept.refl _ w5).below B6.out).trans hK7
 have S7:=Lib.hid (slAt_kept2 S5.out K57.out fun b _ h1 h2=>h2 h1)
 have AV7:=Lib.hid (slAt_kept2 AV5.out K57.out fun b _ h1 h2=>h2 h1)
 have IV7:=Lib.hid (slAt_kept2 IV5.out K57.out fun b _ h1 h2=>h2 h1)
 have x0:=(World.cell?_of_block (a:=⟨X,0,none⟩) (hK7.block X xz6 (fun h=>h xz))).trans x0
 have x1:=(World.cell?_of_block (a:=⟨X,1,none⟩) (hK7.block X xz6 (fun h=>h xz))).trans x1
 have hTT:∀ n∈ks,(kidsE ((putsT gE (fun _=>none) ks n).getD []) [103]).length=1:=fun n hn=>by
  rw [putsT_in gE ks _ n HKD.out hn]
  show (kidsE (putE [] (cleanE gE)) [103]).length=1
  rw [putE_nil];exact kids_put _ _ rfl
 have HTT:=Lib.hid hTT
 have xz7:=Nat.lt_of_lt_of_le xz6 hK7.size
 have HS7:=Lib.hid hS7
 have B7:Hid (Below W.heap.size W w7):=B5.out.trans (K57.out.toBelow B5.out.size fun b hb h=>by have:=B5.out.size;omega)
 obtain ⟨T7,hT7⟩:∃ z,z=putsT gE (fun _=>none) ks:=⟨_,rfl⟩
 rw [← hT7] at HS7 HTT
 obtain ⟨qb,qo,hq,_,hqz,hl0⟩:=S7.out.at 0 (by omega) w7 (Below.refl _ _)
 have hqz5:qb<w5.heap.size:=by
  obtain ⟨qb',qo',hq',_,hqz',_⟩:=S5.out.at 0 (by omega) w5 (Below.refl _ _)
  rw [hq] at hq'
  cases hq'
  exact hqz'
 subst hq
 rw [Nat.add_zero] at hl0
 have hl2:w7.cell? ⟨qb,qo+2,none⟩=some (.int .i64 (nth ks 2)):=by
  obtain ⟨qb',qo',hq',_,_,h2⟩:=S7.out.at 2 (by omega) w7 (Below.refl _ _)
  cases hq'
  exact h2
 have hn0:nth ks 0∈ks:=nth_mem.2 ⟨0,by rw [HK3.out];omega,rfl⟩
 have hn2:nth ks 2∈ks:=nth_mem.2 ⟨2,by rw [HK3.out];omega,rfl⟩
 have CW:=Lib.hid (wish_any HS7.out (nth ks 0) (HKL.out _ hn0).1 (HKL.out _ hn0).2 [103])
 have HL0:=Lib.hid (HTT.out _ hn0)
 have HL2:=Lib.hid (HTT.out _ hn2)
 have HD2:=Lib.hid (HKL.out _ hn2)
 have HNE:Hid (nth ks 2≠nth ks 0):=show _≠_ from fun e=>by
  have h3:=List.pairwise_iff_getElem.1 HKD.out 0 2 (by rw [HK3.out];omega) (by rw [HK3.out];omega) (by omega)
  rw [← nth_eq (by rw [HK3.out];omega),← nth_eq (by rw [HK3.out];omega)] at h3
  exact h3 e.symm
 obtain ⟨n0,hn0e⟩:∃ z,z=nth ks 0:=⟨_,rfl⟩
 obtain ⟨n2,hn2e⟩:∃ z,z=nth ks 2:=⟨_,rfl⟩
 rw [← hn0e] at hl0 CW HL0 HNE
 rw [← hn2e] at hl2 HL2 HNE HD2
 clear hS7 hK7 hTT hT7 hn0e hn2e hn0 hn2 CP S7 S5 S6 AV7 IV7
 go_wp2_with fail
 refine CW.out.mono ?_
 rintro e w8 ⟨v8,R8,tb8,rfl,hE8,hS8,hK8⟩
 obtain ⟨a8,c8,rfl,_⟩:=hE8.slice
 have hT8:(setT T7 n0 ((T7 n0).getD [])) n2=T7 n2:=setT_ne _ _ HNE.out
 have CW2:=wish_any hS8 n2 HD2.out.1 HD2.out.2 [103]
 rw [hT8] at CW2
 have CW2:=Lib.hid CW2
 have hl2:=(World.cell?_of_block (a:=⟨qb,qo+2,none⟩) (hK8.block qb hqz (fun h=>h hqz5))).trans hl2
 have x0:=(World.cell?_of_block (a:=⟨X,0,none⟩) (hK8.block X xz7 (fun h=>h xz))).trans x0
 have x1:=(World.cell?_of_block (a:=⟨X,1,none⟩) (hK8.block X xz7 (fun h=>h xz))).trans x1
 have xz8:=Nat.lt_of_lt_of_le xz7 hK8.size
 have hqz8:=Nat.lt_of_lt_of_le hqz hK8.size
 have B8:Hid (Below W.heap.size W w8):=B7.out.trans (hK8.toBelow B7.out.size fun b hb h=>by have:=B5.out.size;omega)
 have K58:=Lib.hid (K57.out.trans hK8)
 have HL80:=HL0.out
 obtain ⟨kl,hkl⟩:∃ z,z=kidsE ((T7 n0).getD []) [103]:=⟨_,rfl⟩
 rw [← hkl] at HL80 ⊢
 rw [HL80]
 clear hE8 hS8 hK8 hT8 CW hkl HL80 K57
 go_wp2_with fail
 refine CW2.out.mono ?_
 rintro e w9 ⟨v9,R9,tb9,rfl,hE9,hS9,hK9⟩
 obtain ⟨a9,c9,rfl,_⟩:=hE9.slice
 have x0:=(World.cell?_of_block (a:=⟨X,0,none⟩) (hK9.block X xz8 (fun h=>h xz))).trans x0
 have x1:=(World.cell?_of_block (a:=⟨X,1,none⟩) (hK9.block X xz8 (fun h=>h xz))).trans x1
 have xz9:=Nat.lt_of_lt_of_le xz8 hK9.size
 have B9:Hid (Below W.heap.size W w9):=B8.out.trans (hK9.toBelow B8.out.size fun b hb h=>by have:=B5.out.size;omega)
 have K59:=K58.out.trans hK9
 have AV9:=Lib.hid (slAt_kept2 AV5.out K59 fun b _ h1 h2=>h2 h1)
 have IV9:=Lib.hid (slAt_kept2 IV5.out K59 fun b _ h1 h2=>h2 h1)
 have HL90:=HL2.out
 obtain ⟨kl,hkl⟩:∃ z,z=kidsE ((T7 n2).getD []) [103]:=⟨_,rfl⟩
 rw [← hkl] at HL90 ⊢
 rw [HL90]
 clear hE9 hS9 hK9 CW2 hkl HL90 K58 K59 HTT HS7
 go_wp2_with fail
 obtain ⟨w10,hw10⟩:∃ z,z=w9.alloc (.cells #[.string { data:=#[103] }] 9):=⟨_,rfl⟩
 have b10:Below w9.heap.size w9 w10:=by rw [hw10];exact bel_alloc (Below.refl _ _) _
 have SS:Hid (SlS 0 [[103]] w10 (.slice (some ⟨w9.heap.size,0,none⟩) 1 1)):=show SlAt _ _ _ _ _ by
  rw [hw10]
  exact (slS_one w9 [103] 9 w9.heap.size rfl).congr fun i hi=>by
   obtain rfl:i=0:=by have:i<1:=hi;omega
   rfl
 have B10:=Lib.hid (bel_below B9.out b10)
 have CPL:=plan_any w10 f f HIN.out HIN.out _ _ _ _ (AV9.out.below b10) (IV9.out.below b10) (AV9.out.below b10) (IV9.out.below b10) _ [[103]] SS.out (by decide) (by decide)
 rw [← HCL.out] at CPL
 have CPL:=Lib.hid CPL
 rw [← hw10]
 clear hw10 b10 SS AV9 IV9
 refine CPL.out.mono ?_
 rintro e w11 ⟨v,L,rfl,hv,_,hp,hb11⟩
 rw [planU_same HIN.out] at hp
 obtain rfl:=List.Perm.eq_nil hp
 obtain ⟨a11,c11,rfl⟩:=hv.slice
 have B11:=Lib.hid (bel_below B10.out hb11)
 rw [List.length_nil]
 clear hv hp hb11 CPL
 go_wp2_with fail
 go_ret
 exact ⟨rfl,B11.out⟩
end Go.Proofs.YtahiahjhpakeiaaGreatDoor
end
namespace Go.Proofs.YtahiahjhpakeiaaGreatDoor
open Go.RowKit Go.Maps Go.Sort Go.WideShapes Go.ChangeShapes Go.Deep
set_option linter.unusedVariables false
set_option linter.unusedSimpArgs false
section
attribute [local go_sem] later_cell later_frozen later_lt cell_set_off cell_set_block
theorem field_succT (x y z:Value) (w:World):(Instr.field 126 (.agg #[x,y,z]) 2).run Tryz.prog w = .ok z w:=by kernel_rfl
theorem rhash_any (s:ByteArray) (w:World) (hs:s.size<=140737488351232) :
 Calls Tryz.prog 117 #[.string s] w fun e w'=>e = .returned (.int .u64 (hash s.data.toList))∧w=w':=by
 go_enter Tryz.func117,Tryz.ntmps117
 go_wp2
 go_loop [3,4] (fun p i=>∃ k:Nat,k<=s.size∧i = .int .i64 k∧p = .int .u64 (mixes (s.data.toList.take k) s.size)) (fun _ i=>s.size - (intOf i).toNat)
 case atStart=>exact ⟨0,Nat.zero_le _,rfl,rfl⟩
 case round =>
  obtain ⟨k,hk,rfl,rfl⟩:=hrel
  by_cases hlt:k<s.size
  · have E:=Lib.hid (mixes_snoc s k hlt s.size)
    generalize mixes (s.data.toList.take k) s.size=h at *
    go_wp2
    go_round
    case rel=>go_light;exact ⟨k+1,by omega,by go_num,by rw [E.out,quo_u64 _ _ (by omega)];rfl⟩
    case measure=>go_light;simp [intOf];omega
  · obtain rfl:k=s.size:=by omega
    have e:mixes (s.data.toList.take s.size) s.size=mixes s.data.toList s.data.toList.length:=by rw [List.take_of_length_le (by simp)];rfl
    have E:Hid (hash s.data.toList=last (mixes (s.data.toList.take s.size) s.size)):=by rw [e];exact (rfl:hash _=_)
    clear e
    generalize mixes (s.data.toList.take s.size) s.size=h at *
    go_wp2
    go_ret
    exact ⟨by rw [E.out];show Ending.returned (.int .u64 (bits .xor .u64 (IntKind.u64.wrap (h * 14181476777654086739)) (IntKind.u64.wrap ((IntKind.u64.wrap (h * 14181476777654086739)).tdiv 536870912))))=_;rw [quo_u64 _ _ (by omega)];rfl,rfl⟩
theorem rkey_any (s:ByteArray) (w:World) (hs:s.size<=1000000) :
 Calls Tryz.prog 68 #[.string s] w fun e w'=>e = .returned (.int .u64 (keyH s))∧Below w.heap.size w w':=by
 obtain ⟨g,hg⟩:∃ z,z=ByteArray.mk #[103,114,111,117,112,32] ++ s:=⟨_,rfl⟩
 have hgs:g.size<=1000006:=by rw [hg,ByteArray.size_append];show 6+s.size<=_;omega
 have HK:Hid (keyH s=hash g.data.toList):=show keyH s=_ by rw [hg];rfl
 have HG:=Lib.hid hg
 clear hg
 go_enter Tryz.func68,Tryz.ntmps68
 go_wp2_with fail
 rw [← HG.out]
 refine (rhash_any g _ (by omega)).mono ?_
 rintro e w1 ⟨rfl,rfl⟩
 go_wp2_with fail
 go_ret
 exact ⟨by rw [HK.out];first | done | rfl,Below.refl _ _⟩
theorem rini_any (w:World) (v:Value) (l:List Int) (h:SlAt 0 (fun i=>.int .i64 (nth l i)) l.length w v) (hl:l.length<=4000000000) (x:Int) :
 Calls Tryz.prog 65 #[v,.int .i64 x] w fun e w'=>e = .returned (.bool (l.contains x))∧w'=w:=by
 have HL:=Lib.hid h
 obtain ⟨a,cap,rfl,_⟩:=h.slice
 have HP:Hid (∀ b:Bool,(b=true↔x∈l)->Ending.returned (.bool b) = .returned (.bool (l.contains x))):=fun b hb=>by
  congr 2
  rw [Bool.eq_iff_iff,hb,List.contains_iff_mem]
 clear h
 go_enter Tryz.func65,Tryz.ntmps65
 go_wp2_with fail
 go_loopw [9] (fun i wr=>∃ k:Nat,k<=l.length∧i = .int .i64 k∧Hid (wr=w)∧Hid (∀ j,j<k->nth l j≠x)) (fun i _=>l.length - (intOf i).toNat)
 case atStart=>exact ⟨0,Nat.zero_le _,rfl,rfl,fun j hj=>absurd hj (by omega)⟩
 case round =>
  obtain ⟨k,hk,rfl,hw,hN⟩:=hrel
  have hw0:=hw.out
  subst hw0
  clear hw
  by_cases hlt:k<l.length
  · obtain ⟨b,off,rfl,_,hb,hc⟩:=HL.out.at k hlt _ (RowKit.Below.refl _ _)
    have hin:nth l k∈l:=nth_mem.2 ⟨k,hlt,rfl⟩
    by_cases hx:nth l k=x
    · have hxb:(nth l k == x)=true:=by simpa using hx
      have HX:Hid (x∈l):=hx ▸ hin
      clear hx hin
      go_wp2_with fail
      go_ret
      exact ⟨HP.out true ⟨fun _=>HX.out,fun _=>rfl⟩,rfl⟩
    · have hxb:(nth l k == x)=false:=by simpa using hx
      have HN2:Hid (∀ j,j<k+1->nth l j≠x):=fun j hj=>by
       rcases Nat.lt_or_ge j k with h | h
       · exact hN.out j h
       · obtain rfl:j=k:=by omega
         exact hx
      clear hx hin
      go_wp2_with fail
      go_roundw
      case rel=>go_light;exact ⟨k+1,by omega,by go_num,True.intro,HN2.out⟩
      case measure=>go_light;simp [intOf];omega
  · obtain rfl:k=l.length:=by omega
    go_wp2_with fail
    go_ret
    exact ⟨HP.out false ⟨fun h=>(by cases h),fun h=>by
     obtain ⟨j,hj,e⟩:=nth_mem.1 h
     exact absurd e (hN.out j hj)⟩,rfl⟩
set_option maxRecDepth 100000 in
set_option maxHeartbeats 4000000 in
theorem rkeep_any {Q:Nat->Prop} (w:World) (p:Where) (f:RS) (V:Nat->Value) (h:RefRows Q w p f V) (I:Inv f) (nm:ByteArray) (hnm:nm.size<=1000000) :
 Calls Tryz.prog 17 #[(.agg #[.slice (some ⟨(p).b1,(p).o1,none⟩) 32 (p).k1,.slice (some ⟨(p).b2,(p).o2,none⟩) 32 (p).k2,.slice (some ⟨(p).b3,(p).o3,none⟩) 32 (p).k3,.slice (some ⟨(p).b4,(p).o4,none⟩) 32 (p).k4]),.string nm] w (KeepPost w f (keyH nm)):=by
 obtain ⟨i0,hi0,hz0,hz1,hz2⟩:∃ i0,Tryz.prog.info? 3=some i0∧i0.zero=some (Value.int .i64 0)∧i0.size=1∧i0.bytes=8:=⟨intI,intI_at,by kernel_rfl,by kernel_rfl,by kernel_rfl⟩
 obtain ⟨i,hoi⟩:=own_at I (keyH nm)
 have HR:=Lib.hid h
 have CK:=Lib.hid fun wr=>rkey_any nm wr hnm
 have CO:=Lib.hid fun wr (hb:Below w.heap.size w wr)=>rown_any (h.below hb) I (keyH nm) (keyH_place nm)
 have CP:=Lib.hid fun wr (hb:Below w.heap.size w wr)=>rpeer_any (h.below hb) I (i:Int) _ rfl
 rw [show cOwner (circ f) ((circ f).map (idR f)) (keyH nm)=cAt (circ f) (i:Int) from hoi] at CO
 unfold PeerPost at CP
 have hne:0<=cAt (circ f) (i:Int):=(livesR_dom I.dom (cAt_lives I (i:Int))).1
 have hkk:keepK f (keyH nm)=keepL f i:=keepK_eq I hoi
 have HK:Hid (∀ v w',SlAt w.heap.size (fun j=>.int .i64 (nth (keepL f i) j)) 3 w' v->Below w.heap.size w w'->KeepPost w f (keyH nm) (.returned v) w'):=show ∀ v w',_ from fun v w' h1 h2=>by
  unfold KeepPost;rw [hkk];exact ⟨v,rfl,h1,h2⟩
 have HKL:Hid (keepL f i=[cAt (circ f) i,cAt (circ f) ((i:Int)+1),cAt (circ f) ((i:Int)+2)]):=show keepL f i=_ from rfl
 obtain ⟨kl,hkl⟩:∃ z,z=keepL f i:=⟨_,rfl⟩
 rw [← hkl] at HK HKL
 obtain ⟨o0,ho0⟩:∃ z,z=cAt (circ f) (i:Int):=⟨_,rfl⟩
 obtain ⟨o1,ho1⟩:∃ z,z=cAt (circ f) ((i:Int)+1):=⟨_,rfl⟩
 obtain ⟨o2,ho2⟩:∃ z,z=cAt (circ f) ((i:Int)+2):=⟨_,rfl⟩
 obtain ⟨o3,ho3⟩:∃ z,z=cAt (circ f) ((i:Int)+3):=⟨_,rfl⟩
 obtain ⟨om,hom⟩:∃ z,z=cAt (circ f) ((i:Int) - 1):=⟨_,rfl⟩
 rw [← ho0,← ho1,← ho2,← ho3,← hom] at CP
 rw [← ho0] at CO hne
 rw [← ho0,← ho1,← ho2] at HKL
 obtain ⟨id0,hid0⟩:∃ z,z=idR f o0:=⟨_,rfl⟩
 rw [← hid0] at CP
 have hneb:¬ o0<0:=by omega
 clear h hoi hkk hkl ho0 ho1 ho2 ho3 hom hid0 hne
 go_enter Tryz.func17,Tryz.ntmps17
 go_upto_region 1 with (fail)
 obtain ⟨w1,hw1⟩:∃ z,z=w.alloc (.cells #[.slice (some ⟨p.b1,p.o1,none⟩) 32 p.k1,.slice (some ⟨p.b2,p.o2,none⟩) 32 p.k2,.slice (some ⟨p.b3,p.o3,none⟩) 32 p.k3,.slice (some ⟨p.b4,p.o4,none⟩) 32 p.k4] 32):=⟨_,rfl⟩
 obtain ⟨X,hX⟩:∃ z,z=w.heap.size:=⟨_,rfl⟩
 have b1:Below w.heap.size w w1:=by rw [hw1];exact bel_alloc (Below.refl _ _) _
 have x0:w1.cell? ⟨X,0,none⟩=some (.slice (some ⟨p.b1,p.o1,none⟩) 32 p.k1):=by rw [hw1,hX];simp [go_sem]
 have x1:w1.cell? ⟨X,1,none⟩=some (.slice (some ⟨p.b2,p.o2,none⟩) 32 p.k2):=by rw [hw1,hX];simp [go_sem]
 have x2:w1.cell? ⟨X,2,none⟩=some (.slice (some ⟨p.b3,p.o3,none⟩) 32 p.k3):=by rw [hw1,hX];simp [go_sem]
 have x3:w1.cell? ⟨X,3,none⟩=some (.slice (some ⟨p.b4,p.o4,none⟩) 32 p.k4):=by rw [hw1,hX];simp [go_sem]
 have xz:X<w1.heap.size:=by rw [hw1,hX];simp
 rw [← hw1]
 try rw [← hX]
 clear hw1 hX
 refine wp_region_calm (by kernel_rfl) (by kernel_rfl) ?_
 repeat (first | (go_big_quiet_step ((first | (go_at_call 68;exact calls_calm (CK.out _)) | (go_at_call 67;exact calls_calm (CO.out _ (by (repeat (first | exact Below.refl _ _ | (with_reducible assumption) | (with_reducible refine bel_later ?_ _) | (with_reducible refine bel_alloc ?_ _) | (with_reducible refine bel_drew ?_) | (with_reducible refine bel_drewN ?_ _) | (with_reducible refine bel_set ?_ (by first | (simp;done) | (simp;omega) | (dsimp only;omega)) _))))))))) | (refine wpQuiet_step (fun K hK=>?_);go_simp;first | (refine hK _ ?_;clear hK K) | (apply Exists.intro;refine ⟨fun _=>?_,hK _ ?_⟩;(first | (go_at_call 68;exact calls_calm (CK.out _)) | (go_at_call 67;exact calls_calm (CO.out _ (by (repeat (first | exact Below.refl _ _ | (with_reducible assumption) | (with_reducible refine bel_later ?_ _) | (with_reducible refine bel_alloc ?_ _) | (with_reducible refine bel_drew ?_) | (with_reducible refine bel_drewN ?_ _) | (with_reducible refine bel_set ?_ (by first | (simp;done) | (simp;omega) | (dsimp only;omega)) _)))))));clear hK K)))
 refine wpQuiet_nil ?_
 intro _ hw'
 obtain ⟨xq,hw''⟩:=hw'
 subst hw''
 obtain ⟨w2,hb2⟩:=xq
 dsimp only
 have x0:=(hb2.cell (p:=⟨X,0,none⟩) xz).trans x0
 have x1:=(hb2.cell (p:=⟨X,1,none⟩) xz).trans x1
 have x2:=(hb2.cell (p:=⟨X,2,none⟩) xz).trans x2
 have x3:=(hb2.cell (p:=⟨X,3,none⟩) xz).trans x3
 have xz2:=Nat.lt_of_lt_of_le xz hb2.size
 have B2:=Lib.hid (bel_below b1 hb2)
 clear hb2 b1 CK CO
 go_wp2_with fail
 obtain ⟨w3,hw3⟩:∃ z,z=w2.alloc (.cells #[.int .i64 o0] 3):=⟨_,rfl⟩
 have b23:Below w2.heap.size w2 w3:=by rw [hw3];exact bel_alloc (Below.refl _ _) _
 have O3:Hid (w3.ownsRow w.heap.size 3 1 (.slice (some ⟨w2.heap.size,0,none⟩) 1 1) 1 ([o0].map (Value.int .i64))):=by
  rw [hw3]
  exact own_lit w2 [.int .i64 o0] 3 _ _ 1 rfl rfl B2.out.size (by simp [maxLen])
 have B3:=Lib.hid (bel_below B2.out b23)
 have hz23:w3.heap.size=w2.heap.size+1:=by rw [hw3];simp
 rw [← hw3]
 clear hw3 b23
 refine (CP.out _ B3.out).mono ?_
 rintro e w4 ⟨v4,rfl,hs4,hb4⟩
 obtain ⟨a4,c4,rfl,_⟩:=hs4.slice
 have S4:=Lib.hid (hs4.base (B':=w2.heap.size+1) (by rw [hz23];exact Nat.le_refl _))
 have O4:Hid (w4.ownsRow w.heap.size 3 1 (.slice (some ⟨w2.heap.size,0,none⟩) 1 1) 1 ([o0].map (Value.int .i64))):=ownsRow_same O3.out fun q hq=>hb4.block q (World.ownsRow.lt O3.out q hq).2
 have B4:=Lib.hid (bel_below B3.out hb4)
 have hzO:w2.heap.size<w4.heap.size:=(World.ownsRow.lt O4.out _ rfl).2
 clear hs4 hb4 CP O3
 have hfs:=field_succT (.int .u64 id0) (.int .i64 om) (.slice a4 3 c4)
 go_wp2_with fail
 clear hfs
 have HT:Hid (∀ m,m<3->(kl.take (m+1)).map (Value.int .i64)=(kl.take m).map (Value.int .i64) ++ [.int .i64 (nth kl m)]):=fun m hm=>by
  have hl:m<kl.length:=by rw [HKL.out];exact hm
  rw [List.take_succ_eq_append_getElem hl,List.map_append,nth_eq hl];rfl
 have HN:Hid (∀ k,k<2->nth [o1,o2,o3] k=nth kl (k+1)):=fun k hk=>by
  rw [HKL.out]
  have:k=0∨k=1:=by omega
  rcases this with rfl | rfl <;> rfl
 have O0:Hid (w4.ownsRow w.heap.size 3 1 (.slice (some ⟨w2.heap.size,0,none⟩) 1 1) 1 ((kl.take 1).map (Value.int .i64))):=show World.ownsRow _ _ _ _ _ _ _ by rw [HKL.out];exact O4.out
 clear O4
 go_loopw [6,22] (fun vo vi wr=>∃ k m:Nat,k<=3∧m<=3∧vi = .int .i64 k∧(k+1<=m∨m=3)∧m<=k+1∧Hid (wr.ownsRow w.heap.size 3 1 vo m ((kl.take m).map (Value.int .i64)))∧Hid (Kept (fun b=>b=w2.heap.size) w4 wr)∧Hid (∀ q,vo.ownBlock=some q->q=w2.heap.size∨w4.heap.size<=q)) (fun _ vi _=>3 - (intOf vi).toNat)
 case atStart=>exact ⟨0,1,by omega,by omega,rfl,by omega,by omega,O0.out,Kept.refl _ _,fun q hq=>Or.inl (by cases hq;rfl)⟩
 case round =>
  obtain ⟨k,m,hk,hm,rfl,hkm1,hkm2,hO,hK,hQ⟩:=hrel
  obtain ⟨ao,co,rfl⟩:=own_shape hO.out
  have hKz:=hK.out.size
  have S4k:=Lib.hid (slAt_kept2 S4.out hK.out fun b h1 _ h2=>by omega)
  by_cases hlt:k<3
  · have hkI:(k:Int)<3:=by omega
    obtain ⟨sb,so,rfl,_,hsz,hsc⟩:=S4k.out.at k hlt _ (Below.refl _ _)
    by_cases hm3:m<3
    · have hmI:(m:Int)<3:=by omega
      have hmk:m=k+1:=by omega
      have hTm:=Lib.hid (HT.out m hm3)
      rw [HN.out k (by omega),← hmk] at hsc
      obtain ⟨x,hx⟩:∃ z,z=nth kl m:=⟨_,rfl⟩
      rw [← hx] at hsc hTm
      obtain ⟨L,hL⟩:∃ z,z=(kl.take m).map (Value.int .i64):=⟨_,rfl⟩
      rw [← hL] at hTm hO
      have hwz:=B4.out.size
      clear hx hL hmk
      go_wp2_with (at_builtin;refine wpList_app_row rfl _ _ 36 rfl w.heap.size 3 i0 (.int .i64 0) 8 Tryz.underlying36 hi0 hz0 hz1 hz2 rfl _ m L rfl ?c0 0 (fun i=>.int .i64 (nth [x] i)) 1 _ rfl (sl_new _ .i64 [x] 3 _ 1 ?c4 rfl (by simp [maxLen])) (by decide) (fun _=>rfl) ?c1 ?c2 ?c3 ?_)
      case c0=>exact ownsRow_same hO.out fun q hq=>(bel_alloc (Below.refl _ wr) _).block q (World.ownsRow.lt hO.out q hq).2
      case c1=>simp only [maxLen];omega
      case c2=>omega
      case c3=>first | omega | (simp;omega)
      case c4=>first | rfl | simp
      intro va wa ho hg hv
      have HO:Hid (wa.ownsRow w.heap.size 3 1 va (m+1) ((kl.take (m+1)).map (Value.int .i64))):=show World.ownsRow _ _ _ _ _ _ _ by rw [hTm.out];exact ho
      have KA:Hid (Kept (fun b=>b=w2.heap.size) w4 wa):=(hK.out.below (bel_alloc (Below.refl _ _) _)).grow hg hQ.out
      have HQ2:Hid (∀ q,va.ownBlock=some q->q=w2.heap.size∨w4.heap.size<=q):=fun q hq=>by
       rcases hv with h1 | h1
       · rw [h1] at hq;exact hQ.out q hq
       · rw [h1] at hq
         cases hq
         right;first | omega | (simp;omega)
      obtain ⟨va1,va2,rfl⟩:=own_shape HO.out
      clear ho hg hv hO hQ hsc hsz
      go_wp2_with fail
      go_roundw
      case rel=>go_light;exact ⟨k+1,m+1,by omega,by omega,by go_num,by omega,by omega,HO.out,KA.out,HQ2.out⟩
      case measure=>go_light;simp [intOf];omega
    · have hmI:¬ (m:Int)<3:=by omega
      go_wp2_with fail
      go_roundw
      case rel=>go_light;exact ⟨k+1,m,by omega,by omega,by go_num,by omega,by omega,hO.out,hK.out,hQ.out⟩
      case measure=>go_light;simp [intOf];omega
  · have hkI:¬ (k:Int)<3:=by omega
    obtain rfl:m=3:=by omega
    have hall:kl.take 3=kl:=List.take_of_length_le (by rw [HKL.out];exact Nat.le_refl _)
    have ho:=hO.out
    rw [hall] at ho
    have hsl:=own_ints ho
    rw [show kl.length=3 by rw [HKL.out];rfl] at hsl
    have HSL:=Lib.hid hsl
    have BW:Hid (Below w.heap.size w wr):=B4.out.trans (hK.out.toBelow B4.out.size fun b hb h=>by have:=B2.out.size;omega)
    clear ho hsl hO hQ hall
    go_wp2_with fail
    go_ret
    exact HK.out _ _ HSL.out BW.out
end
section
attribute [local go_sem] later_cell later_frozen later_lt cell_set_off cell_set_block
noncomputable def rmvI:TypeInfo:=(Tryz.prog.info? 52).get (by kernel_rfl)
theorem rmvI_at:Tryz.prog.info? 52=some rmvI:=by kernel_rfl
theorem rmv_info:∃ i0,Tryz.prog.info? 52=some i0∧i0.zero=some zM∧i0.size=3∧i0.bytes=32:=⟨rmvI,rmvI_at,by kernel_rfl,by kernel_rfl,by kernel_rfl⟩
def OwnR (B:Nat) (l:List Mv) (w:World) (v:Value):Prop:=w.ownsRow B 52 3 v l.length (l.flatMap mvCells)
theorem OwnR.below {B:Nat} {l:List Mv} {w w':World} {v:Value} (h:OwnR B l w v) (hb:Below w.heap.size w w'):OwnR B l w' v:=ownsRow_same h fun q hq=>hb.block q (World.ownsRow.lt h q hq).2
theorem OwnR.slice {B:Nat} {l:List Mv} {w:World} {v:Value} (h:OwnR B l w v):∃ a c,v = .slice a l.length c:=by
 rcases h.2 with ⟨rfl,h0⟩ | ⟨g',cap',cur,rfl,_⟩
 · rw [h0];exact ⟨_,_,rfl⟩
 · exact ⟨_,_,rfl⟩
theorem OwnR.mv {B:Nat} {l:List Mv} {w:World} {v:Value} (h:OwnR B l w v):MvSl B l w v:=by
 have hc:=fun g hg=>World.ownsRow.cells h (g:=g) hg
 have hf:=fun g hg o=>own_frozen h (q:=g) hg o
 rcases h.2 with ⟨rfl,h0⟩ | ⟨g,cap,cur,rfl,hB,hg,hn,hm,hs,ht⟩
 · exact Or.inl ⟨List.length_eq_zero_iff.1 h0,rfl⟩
 · refine Or.inr ⟨g,cap,rfl,hB,hn,hm,fun k hk=>?_,fun o=>hf g rfl o,(Array.getElem?_eq_some_iff.1 hg).1⟩
   have q:∀ j u,(mvCells (elt l k))[j]? = some u->w.cell? ⟨g,k * 3+j,none⟩=some u:=fun j u hu=>by
    have hj:j<3:=(List.getElem?_eq_some_iff.1 hu).1
    have:=hc g rfl (k * 3+j) u (by rw [flat_at mvCells mvCells_len l k j (elt l k) (by rw [elt_eq hk];exact List.getElem?_eq_getElem hk) hj];exact hu)
    rw [add_spot _ _ rfl] at this
    simpa using this
   exact ⟨q 0 _ rfl,q 1 _ rfl,q 2 _ rfl⟩
theorem wpList_app_rmv {w:World} {ops:Array Oper} {rest:List Oper} {o:Oper} {a:Act} {Q:Exit->Act->World->Prop} (hgd:o.guard=none) (s x:Operand)
 (ho:o.op = .call { callee:=.builtin .append,args:=#[s,x],argTypes:=#[49,49] }) (B:Nat) (l:List Mv) (v:Value) (hs:a.eval s=v) (hown:OwnR B l w v)
 (b:Nat) (m:Mv) (hx:a.eval x = .slice (some ⟨b,0,none⟩) 1 1) (hrow:MvC w b 0 m) (hl:l.length<=1000000) (hB:B<=w.heap.size)
 (h:∀ v' w',Hid (OwnR B (l ++ [m]) w' v')->Hid (w.grownBy w' v.ownBlock)->Hid (v'.ownBlock=v.ownBlock∨v'.ownBlock=some w.heap.size)->wpList Tryz.prog ops Q rest (a.put o.dst v') w'):wpList Tryz.prog ops Q (o :: rest) a w:=by
 obtain ⟨i0,hi0,hz0,hz1,hz2⟩:=rmv_info
 refine wpList_app_wide (P:=Tryz.prog) hgd s x 49 ho B 52 i0 zM 3 32 Tryz.underlying49 hi0 hz0 hz1 hz2 rfl (by decide) v l.length (l.flatMap mvCells) hs hown b 0 1 1 (fun j=>(mvCells m).getD j undef) hx (by decide) ?_ ?_ (by simp only [maxLen];omega) (by omega) hB (mvCells m) ?_ ?_
 · intro j hj
   have:j=0∨j=1∨j=2:=by omega
   rcases this with rfl | rfl | rfl
   · exact hrow.c0
   · exact hrow.c1
   · exact hrow.c2
 · intro j hj
   have:j=0∨j=1∨j=2:=by omega
   rcases this with rfl | rfl | rfl <;> rfl
 · rfl
 · intro v' w' q1 q2 q3
   refine h v' w' ?_ q2 q3
   show World.ownsRow _ _ _ _ _ _ _
   rw [List.length_append,List.flatMap_append]
   simpa using q1
def fromL (p:Int->Bool) (l:List Int):Int:=(l.find? p).getD (-1)
theorem fromL_cons (p:Int->Bool) (x:Int) (l:List Int):fromL p (x :: l)=if p x then x else fromL p l:=by
 unfold fromL
 by_cases h:p x=true
 · rw [List.find?_cons_of_pos h,if_pos h];rfl
 · rw [List.find?_cons_of_neg h,if_neg h]
def planT (now old:List Int) (g:Str) (o:Int) (t:Nat):List Mv:=(((List.range t).map Int.ofNat).filter fun n=>now.contains n && !old.contains n).map fun n=>⟨g,o,n⟩
theorem planT_succ (now old:List Int) (g:Str) (o:Int) (t:Nat):planT now old g o (t+1)=if now.contains (t:Int) && !old.contains (t:Int) then planT now old g o t ++ [⟨g,o,(t:Int)⟩] else planT now old g o t:=by
 unfold planT
 rw [List.range_succ,List.map_append,List.filter_append,List.map_append]
 have e:List.filter (fun n=>now.contains n && !old.contains n) (List.map Int.ofNat [t])=if now.contains (t:Int) && !old.contains (t:Int) then [(t:Int)] else []:=by
  show List.filter _ [(t:Int)]=_
  rw [List.filter_cons,List.filter_nil]
 rw [e]
 split
 · rfl
 · simp
theorem planT_len (now old:List Int) (g:Str) (o:Int) (t:Nat):(planT now old g o t).length<=t:=by
 unfold planT
 rw [List.length_map]
 exact Nat.le_trans (List.length_filter_le _ _) (by simp)
def planH (f f':RS) (X:Int) (g:Str):List Mv:=if 0<=fromL (livesR f') (keepK f X) then planT (keepK f' X) (keepK f X) g (fromL (livesR f') (keepK f X)) 32 else []
def planV (X:Str->Int) (f f':RS) (gs:List Str):List Mv:=gs.flatMap fun g=>planH f f' (X g) g
theorem planV_snoc (X:Str->Int) (f f':RS) (gs:List Str) (g:Str):planV X f f' (gs ++ [g])=planV X f f' gs ++ planH f f' (X g) g:=by unfold planV;rw [List.flatMap_append];simp
theorem planH_len (f f':RS) (X:Int) (g:Str):(planH f f' X g).length<=32:=by
 unfold planH
 split
 · exact planT_len _ _ _ _ _
 · simp
theorem planV_len (X:Str->Int) (f f':RS) (gs:List Str):(planV X f f' gs).length<=32 * gs.length:=by
 induction gs with
 | nil=>simp [planV]
 | cons g gs ih =>
   have:=planH_len f f' (X g) g
   unfold planV at *
   rw [List.flatMap_cons,List.length_append,List.length_cons]
   omega
theorem planH_mem {f f':RS} (I:Inv f) (I':Inv f') (X:Int) (g:Str) (m:Mv):m∈planH f f' X g↔m∈planG f f' X g:=by
 unfold planH planG
 cases hf:(keepK f X).find? (livesR f') with
 | none =>
   have:fromL (livesR f') (keepK f X) = -1:=by unfold fromL;rw [hf];rfl
   rw [this,if_neg (by omega)]
 | some o =>
   have e:fromL (livesR f') (keepK f X)=o:=by unfold fromL;rw [hf];rfl
   have ho:=keepK_lives I X o (List.mem_of_find?_eq_some hf)
   have:=livesR_dom I.dom ho
   rw [e,if_pos this.1]
   unfold planT
   simp only [List.mem_map,List.mem_filter,List.mem_range,Bool.and_eq_true,List.contains_iff_mem,Bool.not_eq_true']
   constructor
   · rintro ⟨n,⟨⟨t,ht,rfl⟩,h1,h2⟩,rfl⟩
     exact ⟨_,⟨h1,h2⟩,rfl⟩
   · rintro ⟨n,⟨h1,h2⟩,rfl⟩
     have hn:=livesR_dom I'.dom (keepK_lives I' X n h1)
     exact ⟨n,⟨⟨n.toNat,by omega,by simp;omega⟩,h1,h2⟩,rfl⟩
theorem planH_ord (f f':RS) (X:Int) (g:Str):OrdM (planH f f' X g) ∧ ∀ m∈planH f f' X g,m.g=g:=by
 unfold planH
 split
 · unfold planT
   refine ⟨List.pairwise_map.2 ?_,fun m hm=>?_⟩
   · refine List.Pairwise.imp (R:=fun a b:Int=>a<b) (fun {a b} h=>Or.inr ⟨rfl,h⟩) (List.Pairwise.filter _ ?_)
     refine List.pairwise_map.2 ((List.pairwise_lt_range).imp fun {a b} h=>?_)
     exact Int.ofNat_lt.2 h
   · obtain ⟨n,_,rfl⟩:=List.mem_map.1 hm;rfl
 · exact ⟨List.Pairwise.nil,by simp⟩
theorem planV_ord (X:Str->Int) (f f':RS):∀ {gs:List Str},UpS gs->OrdM (planV X f f' gs)
 | [],_=>List.Pairwise.nil
 | g :: gs,h=>by
   have h':=List.pairwise_cons.1 h
   have e:planV X f f' (g :: gs)=planH f f' (X g) g ++ planV X f f' gs:=by unfold planV;rw [List.flatMap_cons]
   rw [e]
   refine List.pairwise_append.2 ⟨(planH_ord _ _ _ _).1,planV_ord X f f' h'.2,fun a ha b hb=>?_⟩
   have h1:=(planH_ord f f' (X g) g).2 a ha
   unfold planV at hb
   obtain ⟨g2,hg2,hb⟩:=List.mem_flatMap.1 hb
   have h2:=(planH_ord f f' (X g2) g2).2 b hb
   left
   rw [h1,h2]
   exact h'.1 g2 hg2
theorem planV_mem (X:Str->Int) {f f':RS} (I:Inv f) (I':Inv f') (gs:List Str) (m:Mv):m∈planV X f f' gs↔m∈planU X f f' gs:=by
 unfold planV planU
 simp only [List.mem_flatMap]
 constructor
 · rintro ⟨g,h1,h2⟩;exact ⟨g,h1,(planH_mem I I' _ _ _).1 h2⟩
 · rintro ⟨g,h1,h2⟩;exact ⟨g,h1,(planH_mem I I' _ _ _).2 h2⟩
set_option maxRecDepth 100000 in
set_option maxHeartbeats 8000000 in
theorem rplan_any {Q Q':Nat->Prop} (w:World) (p p':Where) (f f':RS) (V V':Nat->Value) (h:RefRows Q w p f V) (h':RefRows Q' w p' f' V') (I:Inv f) (I':Inv f')
 (v:Value) (l:List Str) (hs:SlS 0 l w v) (hl:l.length<=1000) (hz:∀ s∈l,(bs s).size<=1000000) :
 Calls Tryz.prog 14 #[(.agg #[.slice (some ⟨(p).b1,(p).o1,none⟩) 32 (p).k1,.slice (some ⟨(p).b2,(p).o2,none⟩) 32 (p).k2,.slice (some ⟨(p).b3,(p).o3,none⟩) 32 (p).k3,.slice (some ⟨(p).b4,(p).o4,none⟩) 32 (p).k4]),(.agg #[.slice (some ⟨(p').b1,(p').o1,none⟩) 32 (p').k1,.slice (some ⟨(p').b2,(p').o2,none⟩) 32 (p').k2,.slice (some ⟨(p').b3,(p').o3,none⟩) 32 (p').k3,.slice (some ⟨(p').b4,(p').o4,none⟩) 32 (p').k4]),v] w fun e w'=>∃ v' B,e = .returned v'∧w.heap.size<=B∧OwnR B (planV (fun g=>keyH (bs g)) f f' (setS l)) w' v'∧Below w.heap.size w w':=by
 have HP:Hid (∀ v' B w',w.heap.size<=B->OwnR B (planV (fun g=>keyH (bs g)) f f' (setS l)) w' v'->Below w.heap.size w w' -> ∃ v'' B,Ending.returned v' = .returned v''∧w.heap.size<=B∧OwnR B (planV (fun g=>keyH (bs g)) f f' (setS l)) w' v''∧Below w.heap.size w w'):=fun v' B w' h1 h2 h3=>⟨v',B,rfl,h1,h2,h3⟩
 have CA0:=Lib.hid fun (w':World) (hb:Below w.heap.size w w') nm hnm=>rkeep_any w' p f V (h.below hb) I nm hnm
 have CB0:=Lib.hid fun (w':World) (hb:Below w.heap.size w w') nm hnm=>rkeep_any w' p' f' V' (h'.below hb) I' nm hnm
 have CL0:=Lib.hid fun (w':World) (hb:Below w.heap.size w w')=>rlive_any (h'.below hb)
 have HZ:Hid (∀ s∈setS l,(bs s).size<=1000000):=fun s h=>hz s ((mem_setS l s).1 h)
 have hll:(setS l).length<=1000:=by have:=setS_len l;omega
 have HLI:Hid (∀ n,(liveL f').contains n=livesR f' n):=fun n=>by
  rw [Bool.eq_iff_iff,List.contains_iff_mem,mem_liveL I'.dom]
 have HLL:Hid ((liveL f').length<=32):=by
  show _<=_
  unfold liveL
  exact Nat.le_trans (List.length_filter_le _ _) (by simp)
 have SN:=Lib.hid hs
 have HX:Hid (∀ g c fs any t,(⟨g,c,fs,any,t⟩:Ent)=cleanE ⟨[],0,l,false,0⟩->any=false->fs=setS l):=fun g c fs any t h1 h2=>by
  unfold cleanE at h1
  split at h1
  · injection h1 with _ _ _ h3;rw [h3] at h2;cases h2
  · injection h1
 obtain ⟨na,nc,rfl,_⟩:=hs.slice
 have CC:=Lib.hid fun (w':World) (hb:Below w.heap.size w w')=>show Calls Tryz.prog 63 #[.agg #[.string { data:=#[] },.int .i64 0,.slice na l.length nc,.bool false,.int .i64 0]] w' _ from rclean_any w' ⟨[],0,l,false,0⟩ (.slice na l.length nc) (SN.out.below hb) (by show l.length<=_;omega)
 have CS:=Lib.hid fun (w':World) (hb:Below w.heap.size w w')=>rsort_texts w' l (.slice na l.length nc) (SN.out.below hb) (by omega)
 obtain ⟨L,hL⟩:∃ z,z=setS l:=⟨_,rfl⟩
 rw [← hL] at HP HZ hll HX CS ⊢
 clear h h' hs hz hL SN
 go_enter Tryz.func14,Tryz.ntmps14
 go_upto_region 1 with (fail)
 obtain ⟨A,hA⟩:∃ z,z=w.heap.size:=⟨_,rfl⟩
 obtain ⟨B,hB⟩:∃ z,z=A+1:=⟨_,rfl⟩
 obtain ⟨w1,hw1⟩:∃ z,z=(w.alloc (.cells #[.slice (some ⟨p.b1,p.o1,none⟩) 32 p.k1,.slice (some ⟨p.b2,p.o2,none⟩) 32 p.k2,.slice (some ⟨p.b3,p.o3,none⟩) 32 p.k3,.slice (some ⟨p.b4,p.o4,none⟩) 32 p.k4] 32)).alloc (.cells #[.slice (some ⟨p'.b1,p'.o1,none⟩) 32 p'.k1,.slice (some ⟨p'.b2,p'.o2,none⟩) 32 p'.k2,.slice (some ⟨p'.b3,p'.o3,none⟩) 32 p'.k3,.slice (some ⟨p'.b4,p'.o4,none⟩) 32 p'.k4] 32):=⟨_,rfl⟩
 have b1:Below w.heap.size w w1:=by rw [hw1];exact bel_alloc (bel_alloc (Below.refl _ _) _) _
 have y0:w1.cell? ⟨A,0,none⟩=some (.slice (some ⟨p.b1,p.o1,none⟩) 32 p.k1):=by rw [hw1,hA];simp [go_sem]
 have y1:w1.cell? ⟨A,1,none⟩=some (.slice (some ⟨p.b2,p.o2,none⟩) 32 p.k2):=by rw [hw1,hA];simp [go_sem]
 have y2:w1.cell? ⟨A,2,none⟩=some (.slice (some ⟨p.b3,p.o3,none⟩) 32 p.k3):=by rw [hw1,hA];simp [go_sem]
 have y3:w1.cell? ⟨A,3,none⟩=some (.slice (some ⟨p.b4,p.o4,none⟩) 32 p.k4):=by rw [hw1,hA];simp [go_sem]
 have yz:A<w1.heap.size:=by rw [hw1,hA];simp;omega
 have x0:w1.cell? ⟨B,0,none⟩=some (.slice (some ⟨p'.b1,p'.o1,none⟩) 32 p'.k1):=by rw [hw1,hB,hA];simp [go_sem]
 have x1:w1.cell? ⟨B,1,none⟩=some (.slice (some ⟨p'.b2,p'.o2,none⟩) 32 p'.k2):=by rw [hw1,hB,hA];simp [go_sem]
 have x2:w1.cell? ⟨B,2,none⟩=some (.slice (some ⟨p'.b3,p'.o3,none⟩) 32 p'.k3):=by rw [hw1,hB,hA];simp [go_sem]
 have x3:w1.cell? ⟨B,3,none⟩=some (.slice (some ⟨p'.b4,p'.o4,none⟩) 32 p'.k4):=by rw [hw1,hB,hA];simp [go_sem]
 have xz:B<w1.heap.size:=by rw [hw1,hB,hA];simp
 have B1:=Lib.hid b1
 rw [← hw1]
 try rw [← hA]
 try rw [← hB]
 clear hw1 hA hB
 go_wp2_with fail
 refine (CC.out w1 b1).mono ?_
 rintro e w2 ⟨v2,rfl,hs2,hb2⟩
 have BB2:=Lib.hid hb2
 obtain ⟨⟨g2,c2,fs2,any2,t2⟩,hx2⟩:∃ z,z=cleanE ⟨[],0,l,false,0⟩:=⟨_,rfl⟩
 have HX2:=Lib.hid (HX.out _ _ _ _ _ hx2)
 have hfl:fs2.length<=1000:=by
  have h1:fs2=(cleanE ⟨[],0,l,false,0⟩).fs:=by rw [← hx2]
  rw [h1];unfold cleanE;split
  · simp
  · exact Nat.le_trans (setS_len l) hl
 rw [← hx2] at hs2 ⊢
 unfold EntV
 dsimp only at hs2 ⊢
 obtain ⟨gb,hgb⟩:∃ z,z=bs g2:=⟨_,rfl⟩
 have HG:Hid (sV g2 = .string gb):=show _=_ by rw [hgb];rfl
 rw [HG.out]
 obtain ⟨a2,k2,rfl,_⟩:=hs2.slice
 have S2:=Lib.hid (hs2.base (B':=0) (Nat.zero_le _))
 clear hs2 hb2 b1 CC hx2 hgb HX
 go_upto_region 2 with (fail)
 obtain ⟨w3,hw3⟩:∃ z,z=w2.alloc (.cells #[.string gb,.int .i64 c2,.slice a2 fs2.length k2,.bool any2,.int .i64 t2] 85):=⟨_,rfl⟩
 obtain ⟨X,hX⟩:∃ z,z=w2.heap.size:=⟨_,rfl⟩
 have hxs:Box5 w3 X (.string gb) (.int .i64 c2) (.slice a2 fs2.length k2) (.bool any2) (.int .i64 t2):=by rw [hw3,hX];exact box5_new _ _ _ _ _ _ _
 have b23:Below w2.heap.size w2 w3:=by rw [hw3];exact bel_alloc (Below.refl _ _) _
 have BB3:=Lib.hid (BB2.out.trans (b23.mono BB2.out.size))
 have S3:=Lib.hid (S2.out.below b23)
 have c2':=hxs.c2
 have c3':=hxs.c3
 have hxz:=hxs.z
 rw [← hw3]
 try rw [← hX]
 clear hw3 hX hxs b23 S2 BB2
 go_upto_if 23 with (fail)
 go_cut [8] (fun s8 wx=>∃ a8 k8,s8 = .slice a8 L.length k8∧Hid (SlS 0 L wx s8)∧Hid (Below w1.heap.size w1 wx))
 case first =>
  cases any2 with
  | true =>
    go_wp2_with fail
    refine (CS.out w3 (bel_below B1.out BB3.out)).mono ?_
    rintro e w4 ⟨v4,rfl,s4,hb4⟩
    obtain ⟨a4,k4,rfl,_⟩:=s4.slice
    have S4:=Lib.hid (s4.base (B':=0) (Nat.zero_le _))
    have BB4:=Lib.hid (bel_below BB3.out hb4)
    clear s4 hb4
    go_wp2_with fail
    go_meet
    case rel=>exact ⟨a4,k4,rfl,S4.out,BB4.out⟩
  | false =>
    have hfe:=HX2.out rfl
    subst hfe
    go_wp2_with fail
    go_meet
    case rel=>exact ⟨a2,k2,rfl,S3.out,BB3.out⟩
 case rest =>
  obtain ⟨a8,k8,rfl,S8,BB8⟩:=hcut
  obtain ⟨X,hX⟩:∃ z,z=fun g:Str=>keyH (bs g):=⟨_,rfl⟩
  have HXG:Hid (∀ g,X g=keyH (bs g)):=fun g=>by rw [hX]
  have HXE:=Lib.hid hX
  rw [← hX] at HP
  have HYW:Hid (w.heap.size<=wc.heap.size):=show _<=_ from (bel_below B1.out BB8.out).size
  clear hX hl CS HX2 S3 c2' c3' HG hfl BB3
  go_upto_region 6 with (fail)
  obtain ⟨w5,hw5⟩:∃ z,z=wc.alloc (.cells #[] 52):=⟨_,rfl⟩
  have b5:Below wc.heap.size wc w5:=by rw [hw5];exact bel_alloc (Below.refl _ _) _
  have O5:Hid (OwnR wc.heap.size [] w5 (.slice (some ⟨wc.heap.size,0,none⟩) 0 0)):=show World.ownsRow _ _ _ _ _ _ _ by rw [hw5];exact World.ownsRow_made wc #[] 0 (Nat.le_refl _) (Nat.zero_le _) (by simp)
  have hz5:wc.heap.size<w5.heap.size:=by rw [hw5];simp
  have B5:=Lib.hid b5
  rw [← hw5]
  clear hw5 b5
  go_wp2_with fail
  go_loopw [9,29] (fun o i wr=>∃ k:Nat,k<=L.length∧i = .int .i64 k∧Hid (OwnR wc.heap.size (planV X f f' (L.take k)) wr o)∧Hid (Below wc.heap.size wc wr)) (fun _ i _=>L.length - (intOf i).toNat)
  case atStart=>exact ⟨0,Nat.zero_le _,rfl,O5.out,B5.out⟩
  case round =>
   obtain ⟨k,hk,rfl,hO,hB⟩:=hrel
   have BR:=Lib.hid (bel_below BB8.out hB.out)
   obtain ⟨oa,oc,rfl⟩:=hO.out.slice
   have hplen:(planV X f f' (L.take k)).length<=32 * k:=by
    have h1:=planV_len X f f' (L.take k)
    rw [List.length_take] at h1;omega
   by_cases hlt:k<L.length
   · obtain ⟨sb,so,rfl,_,hsz,hck⟩:=SlAt.at S8.out k hlt wr hB.out
     have hgz:=HZ.out _ (show nthT L k∈L by rw [nthT_eq hlt];exact List.getElem_mem hlt)
     have HSN:Hid (planV X f f' (L.take (k+1))=planV X f f' (L.take k) ++ planH f f' (keyH (bs (nthT L k))) (nthT L k)):=show _=_ by
      rw [List.take_succ_eq_append_getElem hlt,planV_snoc,nthT_eq hlt,HXG.out]
     obtain ⟨M,hM⟩:∃ z,z=planV X f f' (L.take k):=⟨_,rfl⟩
     rw [← hM] at hO HSN hplen ⊢
     obtain ⟨g,hg⟩:∃ z,z=nthT L k:=⟨_,rfl⟩
     rw [← hg] at hck hgz HSN
     replace hck:wr.cell? ⟨sb,so+k,none⟩=some (.string (bs g)):=hck
     clear hg hM
     have y0:=(BR.out.cell (p:=⟨A,0,none⟩) yz).trans y0
     have y1:=(BR.out.cell (p:=⟨A,1,none⟩) yz).trans y1
     have y2:=(BR.out.cell (p:=⟨A,2,none⟩) yz).trans y2
     have y3:=(BR.out.cell (p:=⟨A,3,none⟩) yz).trans y3
     have x0:=(BR.out.cell (p:=⟨B,0,none⟩) xz).trans x0
     have x1:=(BR.out.cell (p:=⟨B,1,none⟩) xz).trans x1
     have x2:=(BR.out.cell (p:=⟨B,2,none⟩) xz).trans x2
     have x3:=(BR.out.cell (p:=⟨B,3,none⟩) xz).trans x3
     have yzr:=Nat.lt_of_lt_of_le yz BR.out.size
     have xzr:=Nat.lt_of_lt_of_le xz BR.out.size
     have BW:=Lib.hid (bel_below B1.out BR.out)
     have CA:=Lib.hid fun w' (hb:Below wr.heap.size wr w')=>CA0.out w' (bel_below BW.out hb) (bs g) hgz
     have CB:=Lib.hid fun w' (hb:Below wr.heap.size wr w')=>CB0.out w' (bel_below BW.out hb) (bs g) hgz
     have CL:=Lib.hid fun w' (hb:Below wr.heap.size wr w')=>CL0.out w' (bel_below BW.out hb)
     unfold KeepPost at CA CB
     unfold ListPost at CL
     obtain ⟨kk,hkk⟩:∃ z,z=keepK f (keyH (bs g)):=⟨_,rfl⟩
     have HK3:Hid (kk.length=3):=show _=_ by rw [hkk];rfl
     obtain ⟨kn,hkn⟩:∃ z,z=keepK f' (keyH (bs g)):=⟨_,rfl⟩
     have HN3:Hid (kn.length=3):=show _=_ by rw [hkn];rfl
     have HPG0:Hid (planH f f' (keyH (bs g)) g=if 0<=fromL (livesR f') kk then planT kn kk g (fromL (livesR f') kk) 32 else []):=show _=_ by rw [hkk,hkn];rfl
     rw [← hkk] at CA
     rw [← hkn] at CB
     obtain ⟨F,hF⟩:∃ z:Nat->Int,z=fun j=>fromL (livesR f') (kk.drop j):=⟨_,rfl⟩
     have HPG:Hid (planH f f' (keyH (bs g)) g=if 0<=F 0 then planT kn kk g (F 0) 32 else []):=show _=_ by rw [hF];exact HPG0.out
     have HF3:Hid (F 3 = -1):=show _=_ by
      rw [hF]
      show fromL _ (kk.drop 3)=_
      rw [List.drop_of_length_le (by rw [HK3.out];exact Nat.le_refl _)];rfl
     have HFS:Hid (∀ m,m<3->F m=if livesR f' (nth kk m) then nth kk m else F (m+1)):=fun m hm=>by
      have hl:m<kk.length:=by rw [HK3.out];exact hm
      rw [hF]
      show fromL _ (kk.drop m)=_
      rw [List.drop_eq_getElem_cons hl,fromL_cons,nth_eq hl]
     have HPS:Hid (∀ o t,planT kn kk g o (t+1)=if kn.contains (t:Int) && !kk.contains (t:Int) then planT kn kk g o t ++ [⟨g,o,(t:Int)⟩] else planT kn kk g o t):=fun o t=>planT_succ kn kk g o t
     have HPZ:Hid (∀ o,planT kn kk g o 0=[]):=fun o=>rfl
     have HPN:Hid (∀ o t,(planT kn kk g o t).length<=t):=fun o t=>planT_len _ _ _ _ _
     obtain ⟨pt,hpt⟩:∃ z,z=planT kn kk g:=⟨_,rfl⟩
     rw [← hpt] at HPG HPS HPZ HPN
     obtain ⟨ph,hph⟩:∃ z,z=planH f f' (keyH (bs g)) g:=⟨_,rfl⟩
     rw [← hph] at HSN HPG
     obtain ⟨Z,hZ⟩:∃ z,z=wr.heap.size:=⟨_,rfl⟩
     obtain ⟨T,hT⟩:∃ z:Nat->Prop,z=fun b=>Value.ownBlock (.slice oa M.length oc)=some b:=⟨_,rfl⟩
     have HT:Hid (∀ b,T b->wc.heap.size<=b∧b<Z):=fun b hb=>by rw [hT] at hb;rw [hZ];exact World.ownsRow.lt hO.out b hb
     have HTE:Hid (∀ q,Value.ownBlock (.slice oa M.length oc)=some q->T q):=fun q hq=>by rw [hT];exact hq
     have HZ1:Hid (Z<=wr.heap.size):=show _<=_ by omega
     clear hZ hT hkk hkn hgz hpt hph hF HPG0
     go_wp2_with fail
     refine wp_region_heads [0,1,3,4] 7 (fun w'=>∃ x:Later wr,w'=x.world) (by kernel_rfl) (by kernel_rfl) ⟨⟨{ wr with drawn:=wr.drawn+1 },(RowKit.Below.refl _ _).drew⟩,rfl⟩ (fun d v c a w h=>by cases d <;> exact h) ?_
     simp only [headOps]
     repeat (refine wpTame_step (fun K hK=>?_);go_simp;refine hK _ ?_;clear hK K)
     refine wpTame_nil ?_
     have BD:Hid (RowKit.Below wr.heap.size wr { wr with drawn:=wr.drawn+1 }):=(RowKit.Below.refl _ _).drew
     refine wpAnyC_step (f:=3) [2] (by kernel_rfl) rfl rfl (fun i hi=>?_)
     simp only [List.mem_cons,List.not_mem_nil,or_false] at hi
     subst hi
     refine ⟨_,rfl,fun R hR=>?_⟩
     go_wp2_with fail
     refine (CA.out _ BD.out).mono ?_
     rintro e wa ⟨va,rfl,hsa,hba⟩
     obtain ⟨aA,cA,rfl,_⟩:=hsa.slice
     have BA:=Lib.hid (bel_below BD.out hba)
     have SA:=Lib.hid (hsa.base (B':=Z) HZ1.out)
     clear hsa hba BD CA
     go_wp2_with fail
     refine hR _ _ ⟨⟨wa,(BA).out⟩,rfl⟩ ?_
     clear hR R
     refine wpAnyC_step (f:=2) [5] (by kernel_rfl) rfl rfl (fun i hi=>?_)
     simp only [List.mem_cons,List.not_mem_nil,or_false] at hi
     subst hi
     refine ⟨_,rfl,fun R hR=>?_⟩
     go_wp2_with fail
     refine (CB.out _ BA.out).mono ?_
     rintro e wb ⟨vb,rfl,hsb,hbb⟩
     obtain ⟨aB,cB,rfl,_⟩:=hsb.slice
     have BB:=Lib.hid (bel_below BA.out hbb)
     have SA2:=Lib.hid (SA.out.below hbb)
     have SB:=Lib.hid (hsb.base (B':=Z) (Nat.le_trans HZ1.out BA.out.size))
     clear hsb hbb BA CB SA
     go_wp2_with fail
     refine hR _ _ ⟨⟨wb,(BB).out⟩,rfl⟩ ?_
     clear hR R
     refine wpAnyC_mid (f:=1) [6] ⟨⟨wb,BB.out⟩,rfl⟩ (by kernel_rfl) (fun d v c a w h=>by cases d <;> exact h) ?_
     simp only [headOps]
     repeat (refine wpTame_step (fun K hK=>?_);go_simp;refine hK _ ?_;clear hK K)
     refine wpTame_nil ?_
     refine wpAnyC_end (k:=7) (by decide) rfl rfl (by kernel_rfl) ?_
     have O5:=Lib.hid (hO.out.below BB.out)
     have x0:=(BB.out.cell (p:=⟨B,0,none⟩) xzr).trans x0
     have x1:=(BB.out.cell (p:=⟨B,1,none⟩) xzr).trans x1
     have x2:=(BB.out.cell (p:=⟨B,2,none⟩) xzr).trans x2
     have x3:=(BB.out.cell (p:=⟨B,3,none⟩) xzr).trans x3
     have xzb:=Nat.lt_of_lt_of_le xzr BB.out.size
     have CL2:=Lib.hid fun w' (hb:Below wb.heap.size wb w')=>CL.out w' (bel_below BB.out hb)
     have hB0:Hid (Below wc.heap.size wc wb):=bel_below hB.out BB.out
     clear y0 y1 y2 y3 hck hsz hO CL
     go_wp2_with fail
     go_loopw [14,15] (fun vf vi wi=>((∃ m:Nat,m<3∧vi = .int .i64 m∧vf = .int .i64 (F (m+1)))∨(vi = .int .i64 (-1)∧vf = .int .i64 (F 0)))∧Hid (Below wb.heap.size wb wi)) (fun _ vi _=>(intOf vi+1).toNat)
     case atStart=>exact ⟨Or.inl ⟨2,by omega,rfl,by rw [HF3.out]⟩,Below.refl _ _⟩
     case round =>
      obtain ⟨hvi,hBi⟩:=hrel
      have SAi:=Lib.hid (SA2.out.below hBi.out)
      rcases hvi with ⟨m,hm,rfl,rfl⟩ | ⟨rfl,rfl⟩
      · have hmI:(m:Int)<3:=by omega
        have x0:=(hBi.out.cell (p:=⟨B,0,none⟩) xzb).trans x0
        have x1:=(hBi.out.cell (p:=⟨B,1,none⟩) xzb).trans x1
        have x2:=(hBi.out.cell (p:=⟨B,2,none⟩) xzb).trans x2
        have x3:=(hBi.out.cell (p:=⟨B,3,none⟩) xzb).trans x3
        have xzi:=Nat.lt_of_lt_of_le xzb hBi.out.size
        obtain ⟨tb,tof,rfl,_,htz,htc⟩:=SAi.out.at m hm _ (Below.refl _ _)
        have HFM:=Lib.hid (HFS.out m hm)
        obtain ⟨n,hn⟩:∃ z,z=nth kk m:=⟨_,rfl⟩
        rw [← hn] at htc HFM
        have HLN:=Lib.hid (HLI.out n)
        clear hn SAi
        go_wp2_with fail
        refine wp_region_heads [0,2,3,4,5] 6 (fun w'=>∃ x:Later wr,w'=x.world) (by kernel_rfl) (by kernel_rfl) ⟨⟨{ wr with drawn:=wr.drawn+1 },(RowKit.Below.refl _ _).drew⟩,rfl⟩ (fun d v c a w h=>by cases d <;> exact h) ?_
        simp only [headOps]
        repeat (refine wpTame_step (fun K hK=>?_);go_simp;refine hK _ ?_;clear hK K)
        refine wpTame_nil ?_
        have BD:Hid (RowKit.Below wr.heap.size wr { wr with drawn:=wr.drawn+1 }):=(RowKit.Below.refl _ _).drew
        refine wpAnyC_step (f:=1) [1] (by kernel_rfl) rfl rfl (fun i hi=>?_)
        simp only [List.mem_cons,List.not_mem_nil,or_false] at hi
        subst hi
        refine ⟨_,rfl,fun R hR=>?_⟩
        go_wp2_with fail
        refine (CL2.out _ (bel_below hBi.out BD.out)).mono ?_
        rintro e wl ⟨vl,rfl,hsl,hbl⟩
        obtain ⟨al,cl,rfl,_⟩:=hsl.slice
        have BL:=Lib.hid (bel_below BD.out hbl)
        have CI:=rini_any wl (.slice al (liveL f').length cl) (liveL f') (hsl.base (Nat.zero_le _)) (by have:=HLL.out;omega) n
        rw [HLN.out] at CI
        obtain ⟨bl,hbl2⟩:∃ z,z=livesR f' n:=⟨_,rfl⟩
        rw [← hbl2] at CI HFM
        have CI:=Lib.hid CI
        have htc:=(BL.out.cell (p:=⟨tb,tof+m,none⟩) htz).trans htc
        have BIL:=Lib.hid (bel_below hBi.out BL.out)
        clear hsl hbl BD hbl2 x0 x1 x2 x3 HLN htz
        go_wp2_with fail
        refine hR _ _ ⟨⟨wl,(BL).out⟩,rfl⟩ ?_
        clear hR R
        refine wpAnyC_end (k:=6) (by decide) rfl rfl (by kernel_rfl) ?_
        cases bl with
        | true =>
          have HF2:Hid (F m=n):=show _=_ by rw [HFM.out];rfl
          go_wp2_with fail
          refine CI.out.mono ?_
          rintro e we ⟨rfl,hwe⟩
          replace hwe:=hwe.symm
          subst hwe
          clear CI
          go_wp2_with fail
          go_roundw
          case rel =>
           go_light
           refine ⟨?_,BIL.out⟩
           rcases Nat.eq_zero_or_pos m with h0 | h0
           · exact Or.inr ⟨by rw [h0];rfl,by rw [← HF2.out,h0]⟩
           · exact Or.inl ⟨m - 1,by omega,by congr 1 <;> omega,by rw [← HF2.out,show m - 1+1=m by omega]⟩
          case measure=>go_light;simp [intOf] <;> omega
        | false =>
          have HF2:Hid (F m=F (m+1)):=show _=_ by rw [HFM.out];rfl
          go_wp2_with fail
          refine CI.out.mono ?_
          rintro e we ⟨rfl,hwe⟩
          replace hwe:=hwe.symm
          subst hwe
          clear CI
          go_wp2_with fail
          go_roundw
          case rel =>
           go_light
           refine ⟨?_,BIL.out⟩
           rcases Nat.eq_zero_or_pos m with h0 | h0
           · exact Or.inr ⟨by rw [h0];rfl,by rw [← HF2.out,h0]⟩
           · exact Or.inl ⟨m - 1,by omega,by congr 1 <;> omega,by rw [show m - 1+1=m by omega,HF2.out]⟩
          case measure=>go_light;simp [intOf] <;> omega
      · have SBi:=Lib.hid (SB.out.below hBi.out)
        have hBD:Hid (Below wc.heap.size wc wr):=bel_below hB0.out hBi.out
        have O6:=Lib.hid (O5.out.below hBi.out)
        have HZD:Hid (Z<=wr.heap.size):=show _<=_ from Nat.le_trans HZ1.out (Nat.le_trans BB.out.size hBi.out.size)
        obtain ⟨D,hD⟩:∃ z,z=wr.heap.size:=⟨_,rfl⟩
        have HD:=Lib.hid hD
        obtain ⟨fr,hfr⟩:∃ z,z=F 0:=⟨_,rfl⟩
        rw [← hfr] at HPG ⊢
        clear hfr hD x0 x1 x2 x3
        go_wp2_with fail
        go_loopw [9,16] (fun o vi wi=>∃ t:Nat,t<=32∧vi = .int .i64 t∧(fr<0->t=0)∧Hid (OwnR wc.heap.size (M ++ pt fr t) wi o)∧Hid (Kept T wr wi)∧Hid (∀ q,o.ownBlock=some q->T q∨D<=q)) (fun _ vi _=>32 - (intOf vi).toNat)
        case atStart=>exact ⟨0,by omega,rfl,fun _=>rfl,(by show OwnR _ _ _ _;rw [HPZ.out,List.append_nil];exact O6.out),Kept.refl _ _,fun q hq=>Or.inl (HTE.out q hq)⟩
        case round =>
         obtain ⟨t,ht,rfl,htf,hOj,hBk,hQ⟩:=hrel
         have SAj:=Lib.hid (slAt_kept2 SAi.out hBk.out fun b h1 _ h2=>by have:=(HT.out b h2).2;omega)
         have SBj:=Lib.hid (slAt_kept2 SBi.out hBk.out fun b h1 _ h2=>by have:=(HT.out b h2).2;omega)
         have hBz:Hid (Below wc.heap.size wc wr):=hBD.out.trans (hBk.out.toBelow hBD.out.size fun b hb h2=>by have:=(HT.out b h2).1;omega)
         obtain ⟨pa,pc,rfl⟩:=hOj.out.slice
         have hML:(M ++ pt fr t).length<=32 * k+32:=by have:=HPN.out fr t;rw [List.length_append];omega
         have hwD:D<=wr.heap.size:=by rw [HD.out];exact hBk.out.size
         by_cases hf0:0<=fr
         · by_cases hlt2:t<32
           · have htI:(t:Int)<32:=by omega
             have CN:=rini_any wr (.slice aB 3 cB) kn (by rw [HN3.out];exact SBj.out.base (Nat.zero_le _)) (by rw [HN3.out];omega) (t:Int)
             have CK:=rini_any wr (.slice aA 3 cA) kk (by rw [HK3.out];exact SAj.out.base (Nat.zero_le _)) (by rw [HK3.out];omega) (t:Int)
             have HPJ:=Lib.hid (HPS.out fr t)
             obtain ⟨bn,hbn⟩:∃ z,z=kn.contains (t:Int):=⟨_,rfl⟩
             obtain ⟨bk,hbk⟩:∃ z,z=kk.contains (t:Int):=⟨_,rfl⟩
             rw [← hbn] at CN HPJ
             rw [← hbk] at CK HPJ
             obtain ⟨MM,hMM⟩:∃ z,z=M ++ pt fr t:=⟨_,rfl⟩
             have HMM:=Lib.hid hMM
             rw [← hMM] at hOj hML hQ ⊢
             clear hbn hbk hMM
             have CN:=Lib.hid CN
             have CK:=Lib.hid CK
             cases bn with
             | false =>
               have HPJ2:Hid (pt fr (t+1)=pt fr t):=show _=_ by rw [HPJ.out];rfl
               go_wp2_with fail
               refine CN.out.mono ?_
               rintro e we ⟨rfl,hwe⟩
               replace hwe:=hwe.symm
               subst hwe
               clear CN CK
               go_wp2_with fail
               go_roundw
               case rel=>go_light;exact ⟨t+1,by omega,by go_num,fun h=>absurd h (by omega),(by show OwnR _ _ _ _;rw [HPJ2.out,← HMM.out];exact hOj.out),hBk.out,hQ.out⟩
               case measure=>go_light;simp [intOf];omega
             | true =>
               cases bk with
               | true =>
                 have HPJ2:Hid (pt fr (t+1)=pt fr t):=show _=_ by rw [HPJ.out];rfl
                 go_wp2_with fail
                 refine CN.out.mono ?_
                 rintro e we ⟨rfl,hwe⟩
                 replace hwe:=hwe.symm
                 subst hwe
                 clear CN
                 go_wp2_with fail
                 refine CK.out.mono ?_
                 rintro e we ⟨rfl,hwe⟩
                 replace hwe:=hwe.symm
                 subst hwe
                 clear CK
                 go_wp2_with fail
                 go_roundw
                 case rel=>go_light;exact ⟨t+1,by omega,by go_num,fun h=>absurd h (by omega),(by show OwnR _ _ _ _;rw [HPJ2.out,← HMM.out];exact hOj.out),hBk.out,hQ.out⟩
                 case measure=>go_light;simp [intOf];omega
               | false =>
                 have HPJ2:Hid (pt fr (t+1)=pt fr t ++ [⟨g,fr,(t:Int)⟩]):=show _=_ by rw [HPJ.out];rfl
                 have hwe:wc.heap.size<=wr.heap.size:=hBz.out.size
                 go_wp2_with fail
                 refine CN.out.mono ?_
                 rintro e we ⟨rfl,hwe⟩
                 replace hwe:=hwe.symm
                 subst hwe
                 clear CN
                 go_wp2_with fail
                 refine CK.out.mono ?_
                 rintro e we ⟨rfl,hwe⟩
                 replace hwe:=hwe.symm
                 subst hwe
                 clear CK
                 go_wp2_with (at_builtin;refine wpList_app_rmv rfl _ _ rfl wc.heap.size MM _ rfl (hOj.out.below (bel_alloc (Below.refl _ _) _)) wr.heap.size ⟨g,fr,(t:Int)⟩ rfl ⟨by simp [go_sem],by simp [go_sem],by simp [go_sem]⟩ (by omega) (by simp;omega) ?_)
                 intro va wz HOA HGA HVA
                 have BA:Hid (Kept T _ wz):=(hBk.out.below (bel_alloc (Below.refl _ _) _)).grow HGA.out fun q hq=>(hQ.out q hq).imp id fun h2=>by rw [← HD.out];exact h2
                 have hQ2:Hid (∀ q,va.ownBlock=some q->T q∨D<=q):=fun q hq=>by
                  rcases HVA.out with h1 | h1
                  · rw [h1] at hq;exact hQ.out q hq
                  · rw [h1] at hq
                    cases hq
                    right;first | omega | (simp;omega)
                 obtain ⟨va1,va2,rfl⟩:=HOA.out.slice
                 clear hQ HGA HVA hOj
                 go_wp2_with fail
                 go_roundw
                 case rel=>go_light;exact ⟨t+1,by omega,by go_num,fun h=>absurd h (by omega),(by show OwnR _ _ _ _;rw [HPJ2.out,← List.append_assoc,← HMM.out];exact HOA.out),BA.out,hQ2.out⟩
                 case measure=>go_light;simp [intOf];omega
           · obtain rfl:t=32:=by omega
             have HPE:Hid (ph=pt fr 32):=show _=_ by rw [HPG.out,if_pos hf0]
             have htI:¬ ((32:Nat):Int)<32:=by omega
             clear hf0
             go_wp2_with fail
             go_roundw
             case rel=>go_light;exact ⟨k+1,by omega,by go_num,(by show OwnR _ _ _ _;rw [HSN.out,HPE.out];exact hOj.out),hBz.out⟩
             case measure=>go_light;simp [intOf];omega
         · obtain rfl:t=0:=htf (by omega)
           have HPE:Hid (ph=[]):=show _=_ by rw [HPG.out,if_neg hf0]
           have HO2:Hid (OwnR wc.heap.size M wr (.slice pa (M ++ pt fr 0).length pc)):=show OwnR _ _ _ _ by
            have:=hOj.out
            rw [HPZ.out,List.append_nil] at this ⊢
            exact this
           clear hOj htf
           go_wp2_with fail
           go_roundw
           case rel=>go_light;exact ⟨k+1,by omega,by go_num,(by show OwnR _ _ _ _;rw [HSN.out,HPE.out,List.append_nil];exact HO2.out),hBz.out⟩
           case measure=>go_light;simp [intOf];omega
   · obtain rfl:k=L.length:=by omega
     rw [List.take_length] at hO hplen ⊢
     obtain ⟨M,hM⟩:∃ z,z=planV X f f' L:=⟨_,rfl⟩
     have HME:=Lib.hid hM
     rw [← hM] at hO HP hplen ⊢
     have BWW:=Lib.hid (bel_below B1.out BR.out)
     have HPP:=Lib.hid (HP.out _ _ _ HYW.out hO.out BWW.out)
     clear hO HP hM
     go_wp2_with fail
     go_ret
     obtain ⟨v'',B',h1,h2,h3,h4⟩:=HPP.out
     injection h1 with h1
     subst h1
     exact ⟨_,B',rfl,h2,(by rw [← HXE.out,← HME.out];exact h3),h4⟩
end
end Go.Proofs.YtahiahjhpakeiaaGreatDoor
