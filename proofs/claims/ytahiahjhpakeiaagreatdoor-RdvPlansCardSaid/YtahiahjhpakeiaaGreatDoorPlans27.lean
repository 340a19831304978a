/-
  The document's clean entry: filters rising, each once, by looking for the least again and again. The document's plan: texts rising.
-/
import Derived.Test.YtahiahjhpakeiaaGreatDoorPlans19
import Derived.Deep.DeepCutAuto
namespace Go.Proofs.YtahiahjhpakeiaaGreatDoor
open Go.RowKit Go.Maps Go.Sort Go.WideShapes Go.ChangeShapes Go.Deep
set_option linter.unusedVariables false
set_option linter.unusedSimpArgs false
section
attribute [local go_sem] later_cell later_frozen later_lt cell_set_off cell_set_block
def Cand (S:List Str) (i:Nat) (s:Str):Prop:=i=0∨nthT S (i - 1)<s
structure Sel (S fs:List Str) (i k:Nat) (fd:Bool) (lst:Str):Prop where
 yes:fd=true->(∃ j,j<k∧nthT fs j=lst)∧Cand S i lst
 low:∀ j,j<k->Cand S i (nthT fs j)->fd=true∧lst<=nthT fs j
theorem sel_start (S fs:List Str) (i:Nat):Sel S fs i 0 false []:=⟨(fun h=>by cases h),fun j hj=>absurd hj (by omega)⟩
section
variable {S fs:List Str} {i k:Nat} {fd:Bool} {lst:Str}
theorem Sel.take (h:Sel S fs i k fd lst) (hc:Cand S i (nthT fs k)) (hl:fd=false∨nthT fs k<lst):Sel S fs i (k+1) true (nthT fs k):=by
 refine ⟨fun _=>⟨⟨k,by omega,rfl⟩,hc⟩,fun j hj hcj=>⟨rfl,?_⟩⟩
 rcases Nat.lt_or_ge j k with h1 | h1
 · obtain ⟨h2,h3⟩:=h.low j h1 hcj
   rcases hl with hl | hl
   · rw [hl] at h2;cases h2
   · exact List.le_trans (str_le.2 (Or.inl hl)) h3
 · obtain rfl:j=k:=by omega
   exact List.le_refl _
theorem Sel.skip (h:Sel S fs i k fd lst) (hn:¬ Cand S i (nthT fs k)∨(fd=true ∧ ¬ nthT fs k<lst)):Sel S fs i (k+1) fd lst:=by
 refine ⟨fun hf=>?_,fun j hj hcj=>?_⟩
 · obtain ⟨⟨j,hj,e⟩,hc⟩:=h.yes hf
   exact ⟨⟨j,by omega,e⟩,hc⟩
 · rcases Nat.lt_or_ge j k with h1 | h1
   · exact h.low j h1 hcj
   · obtain rfl:j=k:=by omega
     rcases hn with hn | ⟨h2,h3⟩
     · exact absurd hcj hn
     · exact ⟨h2,List.not_lt.1 h3⟩
end
theorem upS_nth {S:List Str} (hS:UpS S) {a b:Nat} (hb:b<S.length) (hab:a<b):nthT S a<nthT S b:=by
 rw [nthT_eq hb,nthT_eq (by omega)]
 exact List.pairwise_iff_getElem.1 hS a b (by omega) hb hab
theorem Sel.next {fs:List Str} {i:Nat} {lst:Str} (hil:i<=(setS fs).length) (h:Sel (setS fs) fs i fs.length true lst):i<(setS fs).length∧lst=nthT (setS fs) i:=by
 have hS:=setS_up fs
 obtain ⟨⟨j,hj,e⟩,hc⟩:=h.yes rfl
 have hm:lst∈setS fs:=(mem_setS fs lst).2 (by rw [← e,nthT_eq hj];exact List.getElem_mem hj)
 obtain ⟨m,hm2,e2⟩:=List.getElem_of_mem hm
 rw [← nthT_eq hm2] at e2
 have him:i<=m:=by
  rcases hc with h0 | hc
  · omega
  · rcases Nat.lt_or_ge m i with h1 | h1
    · exfalso
      rw [← e2] at hc
      rcases Nat.lt_or_ge m (i - 1) with h2 | h2
      · exact str_asymm hc (upS_nth hS (by omega) h2)
      · obtain rfl:m=i - 1:=by omega
        exact str_irrefl _ hc
    · exact h1
 have hi:i<(setS fs).length:=by omega
 refine ⟨hi,?_⟩
 have hmi:nthT (setS fs) i∈fs:=(mem_setS fs _).1 (by rw [nthT_eq hi];exact List.getElem_mem hi)
 obtain ⟨q,hq,e3⟩:=List.getElem_of_mem hmi
 rw [← nthT_eq hq] at e3
 have hcq:Cand (setS fs) i (nthT fs q):=by
  rw [e3]
  rcases Nat.eq_zero_or_pos i with h0 | h0
  · exact Or.inl h0
  · exact Or.inr (upS_nth hS hi (by omega))
 have h5:=(h.low q hq hcq).2
 rw [e3,← e2] at h5
 rcases Nat.lt_or_ge i m with h6 | h6
 · exact absurd (upS_nth hS hm2 h6) (List.not_lt.2 h5)
 · obtain rfl:i=m:=by omega
   exact e2.symm
theorem Sel.none {fs:List Str} {i:Nat} {lst:Str} (h:Sel (setS fs) fs i fs.length false lst):(setS fs).length<=i:=by
 rcases Nat.lt_or_ge i (setS fs).length with hi | hi
 · exfalso
   have hmi:nthT (setS fs) i∈fs:=(mem_setS fs _).1 (by rw [nthT_eq hi];exact List.getElem_mem hi)
   obtain ⟨q,hq,e3⟩:=List.getElem_of_mem hmi
   rw [← nthT_eq hq] at e3
   have hcq:Cand (setS fs) i (nthT fs q):=by
    rw [e3]
    rcases Nat.eq_zero_or_pos i with h0 | h0
    · exact Or.inl h0
    · exact Or.inr (upS_nth (setS_up fs) hi (by omega))
   have:=(h.low q hq hcq).1
   cases this
 · exact hi
theorem own_shapeC {w:World} {base e n k:Nat} {v:Value} {xs:List Value} (h:w.ownsRow base e k v n xs):∃ a c,v = .slice a n c:=by
 rcases h.2 with ⟨rfl,rfl⟩ | ⟨g',cap',cur,rfl,_⟩
 · exact ⟨_,_,rfl⟩
 · exact ⟨_,_,rfl⟩
theorem slS_oneC (w:World) (s:Str) (t:TypeId) (g:Nat) (hg:g=w.heap.size):SlAt 0 (fun _=>sV s) 1 (w.alloc (.cells #[sV s] t)) (.slice (some ⟨g,0,none⟩) 1 1):=by
 subst hg
 refine ⟨_,1,rfl,Nat.le_refl _,by simp [maxLen],(fun h=>by cases h),Or.inr ⟨w.heap.size,0,rfl,Nat.zero_le _,by simp,fun i hi=>?_⟩⟩
 obtain rfl:i=0:=by omega
 simp [go_sem]
theorem ownsRow_sameC {w w':World} {n k base e:Nat} {v:Value} {xs:List Value} (h:w.ownsRow base e k v n xs) (hb:∀ q,v.ownBlock=some q->w'.heap[q]? = w.heap[q]?):w'.ownsRow base e k v n xs:=by
 refine ⟨h.1,?_⟩
 rcases h.2 with h0 | ⟨g,cap,cur,rfl,hB,hg,hn,hm,hs,ht⟩
 · exact Or.inl h0
 · exact Or.inr ⟨g,cap,cur,rfl,hB,(hb g rfl).trans hg,hn,hm,hs,ht⟩
theorem Box5.blk {w w':World} {b:Nat} {v0 v1 v2 v3 v4:Value} (h:Box5 w b v0 v1 v2 v3 v4) (hs:w.heap.size<=w'.heap.size) (hb:w'.heap[b]? = w.heap[b]?):Box5 w' b v0 v1 v2 v3 v4 :=
 ⟨(World.cell?_of_block hb).trans h.c0,(World.cell?_of_block hb).trans h.c1,(World.cell?_of_block hb).trans h.c2,(World.cell?_of_block hb).trans h.c3,(World.cell?_of_block hb).trans h.c4,
  (World.frozen?_of_block hb).trans h.f0,(World.frozen?_of_block hb).trans h.f1,(World.frozen?_of_block hb).trans h.f2,(World.frozen?_of_block hb).trans h.f3,(World.frozen?_of_block hb).trans h.f4,Nat.lt_of_lt_of_le h.z hs⟩
instance (S:List Str) (i:Nat) (s:Str):Decidable (Cand S i s):=inferInstanceAs (Decidable (_∨_))
set_option maxRecDepth 100000 in
set_option maxHeartbeats 8000000 in
theorem rclean_any (w:World) (x:Ent) (v:Value) (h:SlS 0 x.fs w v) (hl:x.fs.length<=1000000) :
 Calls Tryz.prog 63 #[EntV x v] w fun e w'=>∃ v',e = .returned (EntV (cleanE x) v')∧SlS w.heap.size (cleanE x).fs w' v'∧Below w.heap.size w w':=by
 obtain ⟨i0,hi0,hz0,hz1,hz2⟩:∃ i0,Tryz.prog.info? 9=some i0∧i0.zero=some (Value.string ByteArray.empty)∧i0.size=1∧i0.bytes=16:=⟨strI,strI_at,by kernel_rfl,by kernel_rfl,by kernel_rfl⟩
 obtain ⟨g,c,fs,any,t⟩:=x
 dsimp only at h hl
 have HCL:Hid (cleanE ⟨g,c,fs,any,t⟩=if any=true∨16<(setS fs).length then ⟨g,c,[],true,t⟩ else ⟨g,c,setS fs,false,t⟩):=rfl
 unfold EntV
 dsimp only
 obtain ⟨gb,hgb⟩:∃ z,z=bs g:=⟨_,rfl⟩
 have HG:Hid (sV g = .string gb):=show _=_ by rw [hgb];rfl
 rw [HG.out]
 clear hgb
 obtain ⟨a0,c0,rfl,_⟩:=h.slice
 have S0:=Lib.hid h
 have HSL:Hid ((setS fs).length<=fs.length):=setS_len fs
 have HNX:Hid (∀ i lst,i<=(setS fs).length->Sel (setS fs) fs i fs.length true lst->i<(setS fs).length∧lst=nthT (setS fs) i):=fun i lst h1 h2=>Sel.next h1 h2
 have HNO:Hid (∀ i lst,Sel (setS fs) fs i fs.length false lst->(setS fs).length<=i):=fun i lst h2=>Sel.none h2
 obtain ⟨S,hS⟩:∃ z,z=setS fs:=⟨_,rfl⟩
 rw [← hS] at HCL HSL HNX HNO
 clear h hS
 go_enter Tryz.func63,Tryz.ntmps63
 go_upto_region 2 with (fail)
 obtain ⟨w1,hw1⟩:∃ z,z=((w.alloc (.cells #[.string gb,.int .i64 c,.slice a0 fs.length c0,.bool any,.int .i64 t] 85)).alloc (.cells #[.string { data:=#[] },.int .i64 0,.slice none 0 0,.bool false,.int .i64 0] 85)).alloc (.cells #[] 9):=⟨_,rfl⟩
 obtain ⟨X,hX⟩:∃ z,z=w.heap.size:=⟨_,rfl⟩
 have b01:Below w.heap.size w w1:=by rw [hw1];exact bel_alloc (bel_alloc (bel_alloc (Below.refl _ _) _) _) _
 have hxs:Box5 w1 X (.string gb) (.int .i64 c) (.slice a0 fs.length c0) (.bool any) (.int .i64 t):=by
  rw [hw1,hX];exact ((box5_new w _ _ _ _ _ _).below (bel_alloc (Below.refl _ _) _)).below (bel_alloc (Below.refl _ _) _)
 have hys:Box5 w1 (X+1) (.string { data:=#[] }) (.int .i64 0) (.slice none 0 0) (.bool false) (.int .i64 0):=by
  rw [hw1,hX];exact (box5_at (box5_new (w.alloc _) _ _ _ _ _ _) (by simp)).below (bel_alloc (Below.refl _ _) _)
 have O1:Hid (w1.ownsRow (X+2) 9 1 (.slice (some ⟨X+2,0,none⟩) 0 0) 0 []):=by
  rw [hw1,hX]
  have:=World.ownsRow_made ((w.alloc (.cells #[.string gb,.int .i64 c,.slice a0 fs.length c0,.bool any,.int .i64 t] 85)).alloc (.cells #[.string { data:=#[] },.int .i64 0,.slice none 0 0,.bool false,.int .i64 0] 85)) (base:=w.heap.size+2) (e:=9) (size:=1) #[] 0 (by simp) (Nat.zero_le _) (by simp)
  exact (show World.ownsRow _ _ _ _ _ _ _ by simpa [Nat.add_assoc] using this)
 have hWX:Hid (w.heap.size<=X):=show _<=_ by omega
 have hwz:X+2<w1.heap.size:=by rw [hw1,hX];simp
 have es:(w.alloc (.cells #[.string gb,.int .i64 c,.slice a0 fs.length c0,.bool any,.int .i64 t] 85)).heap.size=w.heap.size+1:=by simp
 have es2:((w.alloc (.cells #[.string gb,.int .i64 c,.slice a0 fs.length c0,.bool any,.int .i64 t] 85)).alloc (.cells #[.string { data:=#[] },.int .i64 0,.slice none 0 0,.bool false,.int .i64 0] 85)).heap.size=w.heap.size+2:=by simp
 rw [← hw1]
 try rw [es2]
 try rw [es]
 try rw [← hX]
 clear hw1 hX es es2
 have XS:=Lib.hid hxs
 have YS:=Lib.hid hys
 have B01:=Lib.hid b01
 clear hxs hys b01
 obtain ⟨Z,hZ⟩:∃ z,z=X+1+1:=⟨_,rfl⟩
 have O1:Hid (w1.ownsRow Z 9 1 (.slice (some ⟨Z,0,none⟩) 0 0) 0 []):=show World.ownsRow _ _ _ _ _ _ _ by rw [hZ];exact O1.out
 have hXZ:X+1<Z:=by omega
 have hZw:Z<w1.heap.size:=by omega
 rw [← hZ]
 clear hZ hwz
 go_wp2_with fail
 go_loopw [3,4] (fun vo vi wr=>∃ i:Nat,i<=S.length∧vi = .int .i64 i∧Hid (wr.ownsRow Z 9 1 vo i ((S.take i).map sV))∧Hid (Below Z w1 wr)) (fun _ vi _=>S.length+1 - (intOf vi).toNat)
 case atStart=>exact ⟨0,Nat.zero_le _,rfl,O1.out,Below.refl _ _⟩
 case round =>
  obtain ⟨i,hi,rfl,hO,hB⟩:=hrel
  have hfl:=HSL.out
  have hiI:(i:Int)<=(fs.length:Int):=by omega
  have hBW:Below w.heap.size w wr:=B01.out.trans (hB.out.mono (by have:=hWX.out;omega))
  have XR:=Lib.hid (XS.out.blk hB.out.size (hB.out.block X (by omega)))
  have YR:=Lib.hid (YS.out.blk hB.out.size (hB.out.block (X+1) hXZ))
  have SR:=Lib.hid (SlAt.below S0.out hBW)
  obtain ⟨x0,x1,x2,x3,x4,-,-,-,-,-,xz⟩:=XR.out
  obtain ⟨ao,co,rfl⟩:=own_shapeC hO.out
  have OS:Hid (SlAt Z (fun j=>sV (nthT (S.take i) j)) i wr (.slice ao i co)):=show SlAt _ _ _ _ _ by
   have hli:(S.take i).length=i:=by rw [List.length_take,Nat.min_eq_left hi]
   have:=(OwnS.of_row (l:=S.take i) (v:=.slice ao i co) (w:=wr) (B:=Z) (by rw [hli];exact hO.out)).slAt
   unfold SlS at this
   rwa [hli] at this
  have hfl2:fs.length<=1000000:=hl
  go_wp2_with fail
  go_loopw [5,6,20] (fun vf vl vk wi=>∃ (k:Nat) (fd:Bool) (lst:Str),k<=fs.length∧vf = .bool fd∧vl = .string (bs lst)∧vk = .int .i64 k∧Hid (Sel S fs i k fd lst)∧Hid (wi=wr)) (fun _ _ vk _=>fs.length - (intOf vk).toNat)
  case atStart=>exact ⟨0,false,[],Nat.zero_le _,rfl,rfl,rfl,sel_start _ _ _,rfl⟩
  case round =>
   obtain ⟨k,fd,lst,hk,rfl,rfl,rfl,hSel,hwi⟩:=hrel
   have hw0:=hwi.out
   subst hw0
   clear hwi
   by_cases hlt:k<fs.length
   · have hkI:(k:Int)<(fs.length:Int):=by omega
     obtain ⟨sb,so,rfl,_,hsz,hsc⟩:=SlAt.at SR.out k hlt _ (Below.refl _ _)
     have HTK:=Lib.hid fun h1 h2=>hSel.out.take (k:=k) h1 h2
     have HSK:=Lib.hid fun h1=>hSel.out.skip (k:=k) h1
     obtain ⟨s,hs⟩:∃ z,z=nthT fs k:=⟨_,rfl⟩
     replace hsc:wr.cell? ⟨sb,so+k,none⟩=some (.string (bs s)):=by rw [hs];exact hsc
     rw [← hs] at HTK HSK
     clear hs
     obtain ⟨cb,hcb⟩:∃ z,z=(decide (Cand S i s) && (!fd || decide (s<lst))):=⟨_,rfl⟩
     have HCB:=Lib.hid hcb
     clear hcb
     go_upto_region 10 with (fail)
     go_cut [45] (fun s45 wx=>s45 = .bool cb∧wx=wr)
     case first =>
      rcases Nat.eq_zero_or_pos i with h0 | h0
      · have hc0:Hid (Cand S i s):=Or.inl h0
        have hib:((i:Int) == 0)=true:=by simp [h0]
        have HI0:=Lib.hid h0
        clear h0
        cases fd with
        | false =>
          go_wp2_with fail
          go_meet
          case rel=>exact ⟨by rw [HCB.out];simp [hc0.out],rfl⟩
        | true =>
          by_cases hsl:s<lst
          · have hslb:Op.bytesLess (bs s).toList (bs lst).toList=true:=by rw [bs_toList,bs_toList,bytesLess_iff];simpa using hsl
            have HSL2:=Lib.hid hsl
            clear hsl
            go_wp2_with fail
            go_meet
            case rel=>exact ⟨by rw [HCB.out];simp [hc0.out,HSL2.out],rfl⟩
          · have hslb:Op.bytesLess (bs s).toList (bs lst).toList=false:=by rw [bs_toList,bs_toList,bytesLess_iff];simpa using hsl
            have HSL2:=Lib.hid hsl
            clear hsl
            go_wp2_with fail
            go_meet
            case rel=>exact ⟨by rw [HCB.out];simp [hc0.out,HSL2.out],rfl⟩
      · have hib:((i:Int) == 0)=false:=beq_eq_false_iff_ne.2 (by omega)
        obtain ⟨im,him⟩:∃ z,i=z+1:=⟨i - 1,by omega⟩
        have himI:(i:Int) - 1=(im:Int):=by omega
        have himl:im<i:=by omega
        have himI2:(im:Int)<(i:Int):=by omega
        obtain ⟨ob,oo,hoe,_,hoz,hoc⟩:=SlAt.at OS.out im himl _ (Below.refl _ _)
        obtain ⟨la,hla⟩:∃ z,z=nthT S im:=⟨_,rfl⟩
        replace hoc:wr.cell? ⟨ob,oo+im,none⟩=some (.string (bs la)):=by
         rw [hoc,hla]
         have e:nthT (S.take i) im=nthT S im:=by
          unfold nthT
          simp [List.getD_eq_getElem?_getD,List.getElem?_take,himl]
         rw [e];rfl
        have HCE:Hid (Cand S i s↔la<s):=show _↔_ by
         unfold Cand
         rw [hla,show i - 1=im by omega]
         constructor
         · rintro (h | h)
           · omega
           · exact h
         · exact Or.inr
        subst hoe
        clear him hla h0
        rcases str_tri la s with hls | hls | hls
        · have hlsb:Op.bytesLess (bs s).toList (bs la).toList=false:=by rw [bs_toList,bs_toList,bytesLess_iff];simpa using str_asymm hls
          have hlse:((bs s).toList == (bs la).toList)=false:=by
           rw [bs_toList,bs_toList,beq_eq_false_iff_ne]
           rintro rfl
           exact str_irrefl _ hls
          have hc0:Hid (Cand S i s):=HCE.out.2 hls
          clear hls
          cases fd with
          | false =>
            go_wp2_with fail
            go_meet
            case rel=>exact ⟨by rw [HCB.out];simp [hc0.out],rfl⟩
          | true =>
            by_cases hsl:s<lst
            · have hslb:Op.bytesLess (bs s).toList (bs lst).toList=true:=by rw [bs_toList,bs_toList,bytesLess_iff];simpa using hsl
              have HSL2:=Lib.hid hsl
              clear hsl
              go_wp2_with fail
              go_meet
              case rel=>exact ⟨by rw [HCB.out];simp [hc0.out,HSL2.out],rfl⟩
            · have hslb:Op.bytesLess (bs s).toList (bs lst).toList=false:=by rw [bs_toList,bs_toList,bytesLess_iff];simpa using hsl
              have HSL2:=Lib.hid hsl
              clear hsl
              go_wp2_with fail
              go_meet
              case rel=>exact ⟨by rw [HCB.out];simp [hc0.out,HSL2.out],rfl⟩
        · have hlsb:Op.bytesLess (bs s).toList (bs la).toList=false:=by rw [bs_toList,bs_toList,bytesLess_iff,hls];exact decide_eq_false (str_irrefl s)
          have hlse:((bs s).toList == (bs la).toList)=true:=by rw [hls];simp
          have hc0:Hid (¬ Cand S i s):=fun h=>by
           have:=HCE.out.1 h
           rw [hls] at this
           exact str_irrefl _ this
          clear hls
          go_wp2_with fail
          go_meet
          case rel=>exact ⟨by rw [HCB.out];simp [hc0.out],rfl⟩
        · have hlsb:Op.bytesLess (bs s).toList (bs la).toList=true:=by rw [bs_toList,bs_toList,bytesLess_iff];simpa using hls
          have hc0:Hid (¬ Cand S i s):=fun h=>str_asymm hls (HCE.out.1 h)
          clear hls
          go_wp2_with fail
          go_meet
          case rel=>exact ⟨by rw [HCB.out];simp [hc0.out],rfl⟩
     case rest =>
      obtain ⟨rfl,hwc⟩:=hcut
      replace hwc:=hwc.symm
      subst hwc
      cases cb with
      | true =>
        have hS2:Hid (Sel S fs i (k+1) true s):=show Sel _ _ _ _ _ _ by
         have h1:=HCB.out
         simp only [Bool.true_eq,Bool.and_eq_true,decide_eq_true_eq,Bool.or_eq_true,Bool.not_eq_true'] at h1
         exact HTK.out h1.1 h1.2
        go_wp2_with fail
        go_roundw
        case rel=>go_light;exact ⟨k+1,true,s,by omega,rfl,rfl,by go_num,hS2.out,True.intro⟩
        case measure=>go_light;simp [intOf];omega
      | false =>
        have hS2:Hid (Sel S fs i (k+1) fd lst):=show Sel _ _ _ _ _ _ by
         have h1:=HCB.out
         simp only [Bool.false_eq,Bool.and_eq_false_imp,decide_eq_true_eq,Bool.or_eq_false_iff,Bool.not_eq_false',decide_eq_false_iff_not] at h1
         refine HSK.out ?_
         by_cases hcd:Cand S i s
         · exact Or.inr (h1 hcd)
         · exact Or.inl hcd
        go_wp2_with fail
        go_roundw
        case rel=>go_light;exact ⟨k+1,fd,lst,by omega,rfl,rfl,by go_num,hS2.out,True.intro⟩
        case measure=>go_light;simp [intOf];omega
   · obtain rfl:k=fs.length:=by omega
     cases fd with
     | true =>
       obtain ⟨hlt2,hlst⟩:=HNX.out i lst hi hSel.out
       have HSN:Hid ((S.take (i+1)).map sV=(S.take i).map sV ++ [sV lst]):=show _=_ by
        rw [List.take_succ_eq_append_getElem hlt2,List.map_append,hlst,nthT_eq hlt2];rfl
       obtain ⟨L,hL⟩:∃ z,z=(S.take i).map sV:=⟨_,rfl⟩
       rw [← hL] at HSN hO
       have hbz:=hB.out.size
       clear hL hlst OS hSel hk hlt
       go_wp2_with (at_builtin;go_loud (refine wpList_app rfl _ _ 24 rfl Z 9 i0 (.string ByteArray.empty) 16 Tryz.underlying24 hi0 hz0 hz1 hz2 rfl _ i L rfl ?c0 0 (fun _=>sV lst) 1 _ rfl (slS_oneC _ lst 9 _ ?c4) (fun _=>rfl) ?c1 ?c2 ?c3 ?_))
       case c0=>exact ownsRow_sameC hO.out fun q hq=>(bel_alloc (Below.refl _ wr) _).block q (hO.out.lt q hq).2
       case c1=>simp only [maxLen];omega
       case c2=>omega
       case c3=>simp;omega
       case c4=>simp
       intro va wa ho hg
       have HO:Hid (wa.ownsRow Z 9 1 va (i+1) ((S.take (i+1)).map sV)):=show World.ownsRow _ _ _ _ _ _ _ by rw [HSN.out];exact ho
       have BA:Hid (Below Z w1 wa):=(hB.out.alloc (by omega) _).grown hg (by simp;omega) (fun q hq=>(hO.out.lt q hq).1)
       clear ho hg hO hB
       go_wp2_with fail
       go_roundw
       case rel=>go_light;exact ⟨i+1,by omega,by go_num,HO.out,BA.out⟩
       case measure=>go_light;simp [intOf];omega
     | false =>
       have hil:i=S.length:=Nat.le_antisymm hi (HNO.out i lst hSel.out)
       have HIL:=Lib.hid hil
       have S9:Hid (SlS Z S wr (.slice ao i co)):=show SlAt _ _ _ _ _ by
        rw [← hil]
        have:=OS.out
        rwa [List.take_of_length_le (Nat.le_of_eq hil.symm)] at this
       have BW:=Lib.hid hBW
       obtain ⟨y0,y1,y2,y3,y4,g0,g1,g2,g3,g4,yz⟩:=YR.out
       obtain ⟨-,-,-,-,-,f0,f1,f2,f3,f4,-⟩:=XR.out
       have hwx:=hWX.out
       have hWX1:Hid (w.heap.size<=X+1):=show _<=_ by omega
       have hXZ1:Hid (X+1<Z):=hXZ
       have hWZ:Hid (w.heap.size<=Z):=show _<=_ by omega
       have HP:Hid (∀ (L':List Str) (any':Bool) (v':Value) (w':World),cleanE ⟨g,c,fs,any,t⟩=⟨g,c,L',any',t⟩->SlS w.heap.size L' w' v'->Below w.heap.size w w' ->
        ∃ v'',Ending.returned (.agg #[.string gb,.int .i64 c,v',.bool any',.int .i64 t]) = .returned (.agg #[sV (cleanE ⟨g,c,fs,any,t⟩).g,.int .i64 (cleanE ⟨g,c,fs,any,t⟩).c,v'',.bool (cleanE ⟨g,c,fs,any,t⟩).any,.int .i64 (cleanE ⟨g,c,fs,any,t⟩).t])∧SlS w.heap.size (cleanE ⟨g,c,fs,any,t⟩).fs w' v''∧Below w.heap.size w w'):=fun L' any' v' w' h1 h2 h3=>by
        rw [h1]
        exact ⟨v',by rw [← HG.out],h2,h3⟩
       have hnil:∀ w',SlS w.heap.size [] w' (.slice none 0 0):=fun w'=>⟨none,0,rfl,Nat.le_refl _,Nat.zero_le _,fun _=>rfl,Or.inl rfl⟩
       have HN:=Lib.hid hnil
       clear hnil hil hSel OS hO hB hBW XR YR hk hlt hwx hXZ hi
       by_cases hany:any=true
       · subst hany
         have hcl:Hid (cleanE ⟨g,c,fs,true,t⟩=⟨g,c,[],true,t⟩):=show _=_ by rw [HCL.out,if_pos (Or.inl rfl)]
         go_wp2_with fail
         refine bodyPost_ret (v:=.agg #[.string gb,.int .i64 c,.slice none 0 0,.bool true,.int .i64 t]) ?_ rfl (HP.out [] true _ _ hcl.out (HN.out _) ?_)
         · simp [results,Tryz.results63,go_sem,x0,x1,x2,x3,x4,y0,y1,y2,y3,y4]
         · exact bel_set (bel_set (bel_set (bel_set (bel_set BW.out hWX1.out _) hWX1.out _) hWX1.out _) hWX1.out _) hWX1.out _
       · obtain rfl:any=false:=by simpa using hany
         by_cases h16:16<i
         · have h16I:(16:Int)<(i:Int):=by omega
           have hcl:Hid (cleanE ⟨g,c,fs,false,t⟩=⟨g,c,[],true,t⟩):=show _=_ by rw [HCL.out,if_pos (Or.inr (by rw [← HIL.out];exact h16))]
           go_wp2_with fail
           refine bodyPost_ret (v:=.agg #[.string gb,.int .i64 c,.slice none 0 0,.bool true,.int .i64 t]) ?_ rfl (HP.out [] true _ _ hcl.out (HN.out _) ?_)
           · simp [results,Tryz.results63,go_sem,x0,x1,x2,x3,x4,y0,y1,y2,y3,y4]
           · exact bel_set (bel_set (bel_set (bel_set (bel_set BW.out hWX1.out _) hWX1.out _) hWX1.out _) hWX1.out _) hWX1.out _
         · have h16I:¬ (16:Int)<(i:Int):=by omega
           have hcl:Hid (cleanE ⟨g,c,fs,false,t⟩=⟨g,c,S,false,t⟩):=show _=_ by
            rw [HCL.out,if_neg]
            rintro (k | k)
            · cases k
            · exact h16 (by rw [HIL.out];exact k)
           go_wp2_with fail
           refine bodyPost_ret (v:=.agg #[.string gb,.int .i64 c,.slice ao i co,.bool false,.int .i64 t]) ?_ rfl (HP.out S false _ _ hcl.out ?_ ?_)
           · simp [results,Tryz.results63,go_sem,x0,x1,x2,x3,x4,y0,y1,y2,y3,y4]
           · exact (((((SlAt.set S9.out (p:=⟨X+1,0,none⟩) hXZ1.out _).set (p:=⟨X+1,1,none⟩) hXZ1.out _).set (p:=⟨X+1,2,none⟩) hXZ1.out _).set (p:=⟨X+1,3,none⟩) hXZ1.out _).set (p:=⟨X+1,4,none⟩) hXZ1.out _).base hWZ.out
           · exact bel_set (bel_set (bel_set (bel_set (bel_set BW.out hWX1.out _) hWX1.out _) hWX1.out _) hWX1.out _) hWX1.out _
end
section
attribute [local go_sem] later_cell later_frozen later_lt cell_set_off cell_set_block
set_option maxRecDepth 100000 in
set_option maxHeartbeats 8000000 in
theorem rsort_texts (w:World) (fs:List Str) (v:Value) (h:SlS 0 fs w v) (hl:fs.length<=1000000) :
 Calls Tryz.prog 64 #[v] w fun e w'=>∃ v',e = .returned v'∧SlS w.heap.size (setS fs) w' v'∧Below w.heap.size w w':=by
 obtain ⟨i0,hi0,hz0,hz1,hz2⟩:∃ i0,Tryz.prog.info? 9=some i0∧i0.zero=some (Value.string ByteArray.empty)∧i0.size=1∧i0.bytes=16:=⟨strI,strI_at,by kernel_rfl,by kernel_rfl,by kernel_rfl⟩
 obtain ⟨a0,c0,rfl,_⟩:=h.slice
 have S0:=Lib.hid h
 have HSL:Hid ((setS fs).length<=fs.length):=setS_len fs
 have HNX:Hid (∀ i lst,i<=(setS fs).length->Sel (setS fs) fs i fs.length true lst->i<(setS fs).length∧lst=nthT (setS fs) i):=fun i lst h1 h2=>Sel.next h1 h2
 have HNO:Hid (∀ i lst,Sel (setS fs) fs i fs.length false lst->(setS fs).length<=i):=fun i lst h2=>Sel.none h2
 have HP:Hid (∀ v' w',SlS w.heap.size (setS fs) w' v'->Below w.heap.size w w' -> ∃ v'',Ending.returned v' = .returned v''∧SlS w.heap.size (setS fs) w' v''∧Below w.heap.size w w'):=fun v' w' h1 h2=>⟨v',rfl,h1,h2⟩
 obtain ⟨S,hS⟩:∃ z,z=setS fs:=⟨_,rfl⟩
 rw [← hS] at HSL HNX HNO
 have HSE:=Lib.hid hS
 clear h hS
 go_enter Tryz.func64,Tryz.ntmps64
 go_upto_region 2 with (fail)
 obtain ⟨w1,hw1⟩:∃ z,z=w.alloc (.cells #[] 9):=⟨_,rfl⟩
 obtain ⟨Z,hZ⟩:∃ z,z=w.heap.size:=⟨_,rfl⟩
 have b01:Below Z w w1:=by rw [hw1,hZ];exact bel_alloc (Below.refl _ _) _
 have O1:Hid (w1.ownsRow Z 9 1 (.slice (some ⟨Z,0,none⟩) 0 0) 0 []):=by rw [hw1,hZ];exact World.ownsRow_made w #[] 0 (Nat.le_refl _) (Nat.zero_le _) (by simp)
 have hZw:Z<w1.heap.size:=by rw [hw1,hZ];simp
 have HZE:Hid (Z=w.heap.size):=hZ
 have B01:=Lib.hid b01
 rw [← hw1]
 try rw [← hZ]
 clear hw1 hZ b01
 go_wp2_with fail
 go_loopw [3,4] (fun vo vi wr=>∃ i:Nat,i<=S.length∧vi = .int .i64 i∧Hid (wr.ownsRow Z 9 1 vo i ((S.take i).map sV))∧Hid (Below Z w1 wr)) (fun _ vi _=>S.length+1 - (intOf vi).toNat)
 case atStart=>exact ⟨0,Nat.zero_le _,rfl,O1.out,Below.refl _ _⟩
 case round =>
  obtain ⟨i,hi,rfl,hO,hB⟩:=hrel
  have hfl:=HSL.out
  have hiI:(i:Int)<=(fs.length:Int):=by omega
  have hBW:Below w.heap.size w wr:=by rw [← HZE.out];exact B01.out.trans hB.out
  have SR:=Lib.hid (SlAt.below S0.out hBW)
  obtain ⟨ao,co,rfl⟩:=own_shapeC hO.out
  have OS:Hid (SlAt Z (fun j=>sV (nthT (S.take i) j)) i wr (.slice ao i co)):=show SlAt _ _ _ _ _ by
   have hli:(S.take i).length=i:=by rw [List.length_take,Nat.min_eq_left hi]
   have:=(OwnS.of_row (l:=S.take i) (v:=.slice ao i co) (w:=wr) (B:=Z) (by rw [hli];exact hO.out)).slAt
   unfold SlS at this
   rwa [hli] at this
  have hfl2:fs.length<=1000000:=hl
  go_wp2_with fail
  go_loopw [5,6,18] (fun vf vl vk wi=>∃ (k:Nat) (fd:Bool) (lst:Str),k<=fs.length∧vf = .bool fd∧vl = .string (bs lst)∧vk = .int .i64 k∧Hid (Sel S fs i k fd lst)∧Hid (wi=wr)) (fun _ _ vk _=>fs.length - (intOf vk).toNat)
  case atStart=>exact ⟨0,false,[],Nat.zero_le _,rfl,rfl,rfl,sel_start _ _ _,rfl⟩
  case round =>
   obtain ⟨k,fd,lst,hk,rfl,rfl,rfl,hSel,hwi⟩:=hrel
   have hw0:=hwi.out
   subst hw0
   clear hwi
   by_cases hlt:k<fs.length
   · have hkI:(k:Int)<(fs.length:Int):=by omega
     obtain ⟨sb,so,rfl,_,hsz,hsc⟩:=SlAt.at SR.out k hlt _ (Below.refl _ _)
     have HTK:=Lib.hid fun h1 h2=>hSel.out.take (k:=k) h1 h2
     have HSK:=Lib.hid fun h1=>hSel.out.skip (k:=k) h1
     obtain ⟨s,hs⟩:∃ z,z=nthT fs k:=⟨_,rfl⟩
     replace hsc:wr.cell? ⟨sb,so+k,none⟩=some (.string (bs s)):=by rw [hs];exact hsc
     rw [← hs] at HTK HSK
     clear hs
     obtain ⟨cb,hcb⟩:∃ z,z=(decide (Cand S i s) && (!fd || decide (s<lst))):=⟨_,rfl⟩
     have HCB:=Lib.hid hcb
     clear hcb
     go_upto_region 10 with (fail)
     go_cut [43] (fun s45 wx=>s45 = .bool cb∧wx=wr)
     case first =>
      rcases Nat.eq_zero_or_pos i with h0 | h0
      · have hc0:Hid (Cand S i s):=Or.inl h0
        have hib:((i:Int) == 0)=true:=by simp [h0]
        have HI0:=Lib.hid h0
        clear h0
        cases fd with
        | false =>
          go_wp2_with fail
          go_meet
          case rel=>exact ⟨by rw [HCB.out];simp [hc0.out],rfl⟩
        | true =>
          by_cases hsl:s<lst
          · have hslb:Op.bytesLess (bs s).toList (bs lst).toList=true:=by rw [bs_toList,bs_toList,bytesLess_iff];simpa using hsl
            have HSL2:=Lib.hid hsl
            clear hsl
            go_wp2_with fail
            go_meet
            case rel=>exact ⟨by rw [HCB.out];simp [hc0.out,HSL2.out],rfl⟩
          · have hslb:Op.bytesLess (bs s).toList (bs lst).toList=false:=by rw [bs_toList,bs_toList,bytesLess_iff];simpa using hsl
            have HSL2:=Lib.hid hsl
            clear hsl
            go_wp2_with fail
            go_meet
            case rel=>exact ⟨by rw [HCB.out];simp [hc0.out,HSL2.out],rfl⟩
      · have hib:((i:Int) == 0)=false:=beq_eq_false_iff_ne.2 (by omega)
        obtain ⟨im,him⟩:∃ z,i=z+1:=⟨i - 1,by omega⟩
        have himI:(i:Int) - 1=(im:Int):=by omega
        have himl:im<i:=by omega
        have himI2:(im:Int)<(i:Int):=by omega
        obtain ⟨ob,oo,hoe,_,hoz,hoc⟩:=SlAt.at OS.out im himl _ (Below.refl _ _)
        obtain ⟨la,hla⟩:∃ z,z=nthT S im:=⟨_,rfl⟩
        replace hoc:wr.cell? ⟨ob,oo+im,none⟩=some (.string (bs la)):=by
         rw [hoc,hla]
         have e:nthT (S.take i) im=nthT S im:=by
          unfold nthT
          simp [List.getD_eq_getElem?_getD,List.getElem?_take,himl]
         rw [e];rfl
        have HCE:Hid (Cand S i s↔la<s):=show _↔_ by
         unfold Cand
         rw [hla,show i - 1=im by omega]
         constructor
         · rintro (h | h)
           · omega
           · exact h
         · exact Or.inr
        subst hoe
        clear him hla h0
        rcases str_tri la s with hls | hls | hls
        · have hlsb:Op.bytesLess (bs s).toList (bs la).toList=false:=by rw [bs_toList,bs_toList,bytesLess_iff];simpa using str_asymm hls
          have hlse:((bs s).toList == (bs la).toList)=false:=by
           rw [bs_toList,bs_toList,beq_eq_false_iff_ne]
           rintro rfl
           exact str_irrefl _ hls
          have hc0:Hid (Cand S i s):=HCE.out.2 hls
          clear hls
          cases fd with
          | false =>
            go_wp2_with fail
            go_meet
            case rel=>exact ⟨by rw [HCB.out];simp [hc0.out],rfl⟩
          | true =>
            by_cases hsl:s<lst
            · have hslb:Op.bytesLess (bs s).toList (bs lst).toList=true:=by rw [bs_toList,bs_toList,bytesLess_iff];simpa using hsl
              have HSL2:=Lib.hid hsl
              clear hsl
              go_wp2_with fail
              go_meet
              case rel=>exact ⟨by rw [HCB.out];simp [hc0.out,HSL2.out],rfl⟩
            · have hslb:Op.bytesLess (bs s).toList (bs lst).toList=false:=by rw [bs_toList,bs_toList,bytesLess_iff];simpa using hsl
              have HSL2:=Lib.hid hsl
              clear hsl
              go_wp2_with fail
              go_meet
              case rel=>exact ⟨by rw [HCB.out];simp [hc0.out,HSL2.out],rfl⟩
        · have hlsb:Op.bytesLess (bs s).toList (bs la).toList=false:=by rw [bs_toList,bs_toList,bytesLess_iff,hls];exact decide_eq_false (str_irrefl s)
          have hlse:((bs s).toList == (bs la).toList)=true:=by rw [hls];simp
          have hc0:Hid (¬ Cand S i s):=fun h=>by
           have:=HCE.out.1 h
           rw [hls] at this
           exact str_irrefl _ this
          clear hls
          go_wp2_with fail
          go_meet
          case rel=>exact ⟨by rw [HCB.out];simp [hc0.out],rfl⟩
        · have hlsb:Op.bytesLess (bs s).toList (bs la).toList=true:=by rw [bs_toList,bs_toList,bytesLess_iff];simpa using hls
          have hc0:Hid (¬ Cand S i s):=fun h=>str_asymm hls (HCE.out.1 h)
          clear hls
          go_wp2_with fail
          go_meet
          case rel=>exact ⟨by rw [HCB.out];simp [hc0.out],rfl⟩
     case rest =>
      obtain ⟨rfl,hwc⟩:=hcut
      replace hwc:=hwc.symm
      subst hwc
      cases cb with
      | true =>
        have hS2:Hid (Sel S fs i (k+1) true s):=show Sel _ _ _ _ _ _ by
         have h1:=HCB.out
         simp only [Bool.true_eq,Bool.and_eq_true,decide_eq_true_eq,Bool.or_eq_true,Bool.not_eq_true'] at h1
         exact HTK.out h1.1 h1.2
        go_wp2_with fail
        go_roundw
        case rel=>go_light;exact ⟨k+1,true,s,by omega,rfl,rfl,by go_num,hS2.out,True.intro⟩
        case measure=>go_light;simp [intOf];omega
      | false =>
        have hS2:Hid (Sel S fs i (k+1) fd lst):=show Sel _ _ _ _ _ _ by
         have h1:=HCB.out
         simp only [Bool.false_eq,Bool.and_eq_false_imp,decide_eq_true_eq,Bool.or_eq_false_iff,Bool.not_eq_false',decide_eq_false_iff_not] at h1
         refine HSK.out ?_
         by_cases hcd:Cand S i s
         · exact Or.inr (h1 hcd)
         · exact Or.inl hcd
        go_wp2_with fail
        go_roundw
        case rel=>go_light;exact ⟨k+1,fd,lst,by omega,rfl,rfl,by go_num,hS2.out,True.intro⟩
        case measure=>go_light;simp [intOf];omega
   · obtain rfl:k=fs.length:=by omega
     cases fd with
     | true =>
       obtain ⟨hlt2,hlst⟩:=HNX.out i lst hi hSel.out
       have HSN:Hid ((S.take (i+1)).map sV=(S.take i).map sV ++ [sV lst]):=show _=_ by
        rw [List.take_succ_eq_append_getElem hlt2,List.map_append,hlst,nthT_eq hlt2];rfl
       obtain ⟨L,hL⟩:∃ z,z=(S.take i).map sV:=⟨_,rfl⟩
       rw [← hL] at HSN hO
       have hbz:=hB.out.size
       clear hL hlst OS hSel hk hlt
       go_wp2_with (at_builtin;go_loud (refine wpList_app rfl _ _ 24 rfl Z 9 i0 (.string ByteArray.empty) 16 Tryz.underlying24 hi0 hz0 hz1 hz2 rfl _ i L rfl ?c0 0 (fun _=>sV lst) 1 _ rfl (slS_oneC _ lst 9 _ ?c4) (fun _=>rfl) ?c1 ?c2 ?c3 ?_))
       case c0=>exact ownsRow_sameC hO.out fun q hq=>(bel_alloc (Below.refl _ wr) _).block q (hO.out.lt q hq).2
       case c1=>simp only [maxLen];omega
       case c2=>omega
       case c3=>simp;omega
       case c4=>simp
       intro va wa ho hg
       have HO:Hid (wa.ownsRow Z 9 1 va (i+1) ((S.take (i+1)).map sV)):=show World.ownsRow _ _ _ _ _ _ _ by rw [HSN.out];exact ho
       have BA:Hid (Below Z w1 wa):=(hB.out.alloc (by omega) _).grown hg (by simp;omega) (fun q hq=>(hO.out.lt q hq).1)
       clear ho hg hO hB
       go_wp2_with fail
       go_roundw
       case rel=>go_light;exact ⟨i+1,by omega,by go_num,HO.out,BA.out⟩
       case measure=>go_light;simp [intOf];omega
     | false =>
       have hil:i=S.length:=Nat.le_antisymm hi (HNO.out i lst hSel.out)
       have HIL:=Lib.hid hil
       have S9:Hid (SlS w.heap.size S wr (.slice ao i co)):=show SlAt _ _ _ _ _ by
        rw [← HZE.out,← hil]
        have:=OS.out
        rwa [List.take_of_length_le (Nat.le_of_eq hil.symm)] at this
       have BW:=Lib.hid hBW
       clear hil hSel OS hO hB hBW hk hlt hi HIL
       go_wp2_with fail
       go_ret
       exact HP.out _ _ (by rw [← HSE.out];exact S9.out) BW.out
end
end Go.Proofs.YtahiahjhpakeiaaGreatDoor
