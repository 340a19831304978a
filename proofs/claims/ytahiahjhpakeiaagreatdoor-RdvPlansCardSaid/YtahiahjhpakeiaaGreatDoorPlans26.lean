/-
  RdvFew walked. RdvPlans: what both plans say.
-/
import Derived.Test.YtahiahjhpakeiaaGreatDoorPlans1
import Derived.Test.YtahiahjhpakeiaaGreatDoorPlans24
import Derived.Test.YtahiahjhpakeiaaGreatDoorPlans25
import Derived.Deep.DeepCutAuto
import Derived.Deep.Cut
namespace Go.Proofs.YtahiahjhpakeiaaGreatDoor
open Go.RowKit Go.Maps Go.Sort Go.WideShapes Go.ChangeShapes Go.Deep
set_option linter.unusedVariables false
set_option linter.unusedSimpArgs false
section
attribute [local go_sem] later_cell later_frozen later_lt cell_set_off cell_set_block keptT_cell keptT_lt
def nameT (s:Str):Str:=s.take 30
theorem nameT_len (s:Str):(nameT s).length<=30:=by unfold nameT;rw [List.length_take];omega
theorem bs_extractN (s:Str):(bs s).extract 0 30=bs (nameT s):=by
 apply ByteArray.ext
 rw [ByteArray.data_extract]
 apply Array.toList_inj.1
 simp [bs,nameT]
def namesK (l:List Str) (k:Nat):List Str:=(l.take k).map nameT
theorem namesK_succ {l:List Str} {k:Nat} (hk:k<l.length):(namesK l (k+1)).map sV=(namesK l k).map sV ++ [sV (nameT (nthT l k))]:=by
 unfold namesK
 rw [List.take_succ_eq_append_getElem hk,List.map_append,List.map_append,nthT_eq hk];rfl
def namesL (l:List Str):List Str:=namesK l 30
theorem namesL_len (l:List Str):(namesL l).length<=30:=by unfold namesL namesK;rw [List.length_map,List.length_take];omega
theorem namesL_size (l:List Str):∀ s∈namesL l,(bs s).size<=30:=fun s hs=>by
 unfold namesL namesK at hs
 obtain ⟨x,_,rfl⟩:=List.mem_map.1 hs
 exact nameT_len x
theorem namesK_all {l:List Str} {k:Nat} (hk:k<=l.length) (h:k=l.length∨k=30) (h30:k<=30):namesK l k=namesL l:=by
 unfold namesL namesK
 rcases h with h | h
 · rw [h,List.take_length,List.take_of_length_le (by omega)]
 · rw [h]
set_option maxRecDepth 100000 in
set_option maxHeartbeats 4000000 in
theorem names_any (w:World) (v:Value) (l:List Str) (h:SlS 0 l w v):Calls Tryz.prog 12 #[v] w fun e w'=>∃ v',e = .returned v'∧SlS w.heap.size (namesL l) w' v'∧Below w.heap.size w w':=by
 obtain ⟨i0,hi,hz0,hz1,hz2⟩:∃ i0,Tryz.prog.info? 9=some i0∧i0.zero=some (Value.string ByteArray.empty)∧i0.size=1∧i0.bytes=16:=⟨strI,strI_at,by kernel_rfl,by kernel_rfl,by kernel_rfl⟩
 obtain ⟨a,c,rfl,_,hcm⟩:=h.slice
 have hll:l.length<=9223372036854775807:=by obtain ⟨_,_,e,h1,h2,_⟩:=h;unfold maxLen at h2;omega
 have HS:=Lib.hid h
 have HP:Hid (∀ v' w',SlS w.heap.size (namesL l) w' v'->Below w.heap.size w w' -> ∃ v'',Ending.returned v' = .returned v''∧SlS w.heap.size (namesL l) w' v''∧Below w.heap.size w w'):=fun v' w' h1 h2=>⟨v',rfl,h1,h2⟩
 clear h hcm
 go_enter Tryz.func12,Tryz.ntmps12
 go_upto_region 2 with (fail)
 obtain ⟨w1,hw1⟩:∃ z,z=w.alloc (.cells #[] 9):=⟨_,rfl⟩
 have B1:Hid (Below w.heap.size w w1):=by rw [hw1];exact bel_alloc (Below.refl _ _) _
 have O1:Hid (w1.ownsRow w.heap.size 9 1 (.slice (some ⟨w.heap.size,0,none⟩) 0 0) 0 []):=by rw [hw1];exact World.ownsRow_made w #[] 0 (Nat.le_refl _) (Nat.zero_le _) (by simp)
 rw [← hw1]
 clear hw1
 go_wp2_with fail
 go_loopw [3,4] (fun vo i wr=>∃ k:Nat,k<=l.length∧k<=30∧i = .int .i64 k∧Hid (wr.ownsRow w.heap.size 9 1 vo k ((namesK l k).map sV))∧Hid (Below w.heap.size w wr)) (fun _ i _=>30 - (intOf i).toNat)
 case atStart=>exact ⟨0,Nat.zero_le _,Nat.zero_le _,rfl,O1.out,B1.out⟩
 case round =>
  obtain ⟨k,hk,hk30,rfl,hO,hB⟩:=hrel
  by_cases hc:k<l.length∧k<30
  · obtain ⟨hlt,hlt2⟩:=hc
    have hltI:(k:Int)<(l.length:Int):=by omega
    have hltI2:(k:Int)<30:=by omega
    obtain ⟨b,off,rfl,_,hbz,hcell⟩:=SlAt.at HS.out k hlt wr hB.out
    obtain ⟨s,hs⟩:∃ z,z=nthT l k:=⟨_,rfl⟩
    replace hcell:wr.cell? ⟨b,off+k,none⟩=some (.string (bs s)):=by rw [hs];exact hcell
    have hsz:=bs_size s
    have hbz2:=hB.out.size
    have HSN:=Lib.hid (namesK_succ hlt)
    rw [← hs] at HSN
    obtain ⟨L,hL⟩:∃ z,z=(namesK l k).map sV:=⟨_,rfl⟩
    rw [← hL] at HSN hO
    clear hs hL
    obtain ⟨ao,co,rfl⟩:=own_shape hO.out
    by_cases h30:30<s.length
    · have hI:(30:Int)<(((bs s).size:Nat):Int):=by omega
      have hx:=bs_extractN s
      obtain ⟨eg,heg⟩:∃ z,z=nameT s:=⟨_,rfl⟩
      rw [← heg] at HSN hx
      clear heg
      go_wp2_with (at_builtin;go_loud (refine wpList_app rfl _ _ 24 rfl w.heap.size 9 i0 (.string ByteArray.empty) 16 Tryz.underlying24 hi hz0 hz1 hz2 rfl _ k L rfl ?c0 0 (fun _=>sV eg) 1 _ rfl (slS_one _ eg 9 _ ?c4) (fun _=>rfl) ?c1 ?c2 ?c3 ?_))
      case c0=>exact ownsRow_same hO.out fun q hq=>(bel_alloc (Below.refl _ wr) _).block q (hO.out.lt q hq).2
      case c1=>simp only [maxLen];omega
      case c2=>omega
      case c3=>first | omega | (simp;omega)
      case c4=>simp
      intro va wa ho hg
      have HO:Hid (wa.ownsRow w.heap.size 9 1 va (k+1) ((namesK l (k+1)).map sV)):=show World.ownsRow _ _ _ _ _ _ _ by rw [HSN.out];exact ho
      have BA:Hid (Below w.heap.size w wa):=(bel_alloc hB.out _).grown hg (by first | omega | (simp;omega)) (fun q hq=>(hO.out.lt q hq).1)
      clear ho hg
      go_wp2_with fail
      go_roundw
      case rel=>go_light;exact ⟨k+1,by omega,by omega,by go_num,HO.out,BA.out⟩
      case measure=>go_light;simp [intOf];omega
    · have hI:¬ (30:Int)<(((bs s).size:Nat):Int):=by omega
      have hx:nameT s=s:=by unfold nameT;exact List.take_of_length_le (by omega)
      rw [hx] at HSN
      clear hx
      go_wp2_with (at_builtin;go_loud (refine wpList_app rfl _ _ 24 rfl w.heap.size 9 i0 (.string ByteArray.empty) 16 Tryz.underlying24 hi hz0 hz1 hz2 rfl _ k L rfl ?c0 0 (fun _=>sV s) 1 _ rfl (slS_one _ s 9 _ ?c4) (fun _=>rfl) ?c1 ?c2 ?c3 ?_))
      case c0=>exact ownsRow_same hO.out fun q hq=>(bel_alloc (Below.refl _ wr) _).block q (hO.out.lt q hq).2
      case c1=>simp only [maxLen];omega
      case c2=>omega
      case c3=>first | omega | (simp;omega)
      case c4=>simp
      intro va wa ho hg
      have HO:Hid (wa.ownsRow w.heap.size 9 1 va (k+1) ((namesK l (k+1)).map sV)):=show World.ownsRow _ _ _ _ _ _ _ by rw [HSN.out];exact ho
      have BA:Hid (Below w.heap.size w wa):=(bel_alloc hB.out _).grown hg (by first | omega | (simp;omega)) (fun q hq=>(hO.out.lt q hq).1)
      clear ho hg
      go_wp2_with fail
      go_roundw
      case rel=>go_light;exact ⟨k+1,by omega,by omega,by go_num,HO.out,BA.out⟩
      case measure=>go_light;simp [intOf];omega
  · have hend:k=l.length∨k=30:=by omega
    have hall:=namesK_all hk hend hk30
    have hrow:=hO.out
    rw [hall] at hrow
    have hkl:k=(namesL l).length:=by rw [← hall];unfold namesK;rw [List.length_map,List.length_take];omega
    have hsl:=(OwnS.of_row (l:=namesL l) (by rw [← hkl];exact hrow)).slAt
    obtain ⟨a9,c9,rfl⟩:=own_shape hO.out
    have HSL:=Lib.hid hsl
    clear hrow hsl hall hkl hO
    rcases hend with h1 | h1
    · have hltI:¬ (k:Int)<(l.length:Int):=by omega
      clear h1 hc hk
      go_wp2_with fail
      go_ret
      exact HP.out _ _ HSL.out hB.out
    · have hltI2:¬ (k:Int)<30:=by omega
      clear h1 hc hk30
      go_wp2_with fail
      all_goals
       go_ret
       exact HP.out _ _ HSL.out hB.out
theorem cellsStr1:Tryz.prog.cellsOf 9=1:=by kernel_rfl
set_option maxRecDepth 100000 in
theorem strs_open {H:Type} {enc:TypeId × Value->H} {W:World} {v0:Value} {d0:DataW H} {p0:List MemPlace} {r0:Reach} {b0:Nat} (ok0:Value.okWide Tryz.prog W r0 b0 24 v0) (h0:DataW.Trod enc Tryz.prog W 0 (fun _=>true) true 24 v0 d0 p0) :
 ∃ l:List Str,SlS 0 l W v0:=by
 obtain ⟨a,n,c,rfl⟩:=okWide_slice Tryz.underlying24 ok0
 obtain ⟨fuel,hf⟩:=h0
 obtain ⟨n',m,V,hs,hV⟩:=slAt_of_trod Tryz.underlying24 cellsStr1 hf
 have hV':∀ i,i<n' -> ∃ s:Str,V i = .string (bs s):=fun i hi=>by
  obtain ⟨y,hy⟩:=hV i hi
  obtain ⟨s,hs,_⟩:=DataW.trod_string Tryz.underlying9 hy
  simp at hs
  exact ⟨s.data.toList,by rw [hs];cases s;simp [bs]⟩
 obtain ⟨g,hg⟩:=choose_lt hV'
 refine ⟨(List.range n').map g,?_⟩
 show SlAt _ _ _ _ _
 rw [List.length_map,List.length_range]
 refine hs.congr fun i hi=>?_
 rw [hg i hi]
 unfold nthT
 rw [List.getD_eq_getElem?_getD,List.getElem?_map,List.getElem?_range hi];rfl
end
section
attribute [local go_sem] later_cell later_frozen later_lt cell_set_off cell_set_block keptW_cell keptW_lt
theorem plans_same {f f':RS} (I:Inv f) (I':Inv f') (X:Str->Int) {gs:List Str} (hu:UpS gs) {L:List Mv} (h1:OrdM L) (h2:L.Perm (planU X f f' gs)):L=planV X f f' gs :=
 ordM_uniq h1 (planV_ord X f f' hu) fun m=>h2.mem_iff.trans (planV_mem X I I' gs m).symm
def OffB (n:Nat) (v:Value) (X:Nat):Prop:=n=0 ∨ ∀ b o l n c,v = .slice (some ⟨b,o,l⟩) n c->b≠X
theorem offB_lt {B:Nat} {G:Nat->Value} {n:Nat} {w:World} {v:Value} {X:Nat} (h:SlAt B G n w v) (hX:X<B∨w.heap.size<=X):OffB n v X:=by
 obtain ⟨a,cap,rfl,c1,c2,c3,c4⟩:=h
 rcases c4 with h0 | ⟨b',off,h1,h2,h3,_⟩
 · exact Or.inl h0
 · right
   intro b o l n' c' e
   injection e with e1 e2 e3
   rw [h1] at e1
   injection e1 with e1
   injection e1 with e1
   omega
theorem slAt_off {B X:Nat} {G:Nat->Value} {n:Nat} {w w':World} {v:Value} (h:SlAt B G n w v) (hX:OffB n v X) (hs:w'.heap.size=w.heap.size) (hk:∀ b,b≠X->w'.heap[b]? = w.heap[b]?):SlAt B G n w' v:=by
 obtain ⟨a,cap,rfl,c1,c2,c3,c4⟩:=h
 refine ⟨a,cap,rfl,c1,c2,c3,?_⟩
 rcases c4 with c4 | ⟨b,off,rfl,h7,h5,h6⟩
 · exact Or.inl c4
 rcases hX with hX | hX
 · exact Or.inl hX
 exact Or.inr ⟨b,off,rfl,h7,by omega,fun i hi=>(World.cell?_of_block (hk b (hX b off none n cap rfl))).trans (h6 i hi)⟩
structure CBox (w:World) (X:Nat) (u v:Value):Prop where
 c0:w.cell? ⟨X,0,none⟩=some u
 c1:w.cell? ⟨X,1,none⟩=some v
 f0:w.frozen? ⟨X,0,none⟩=false
 f1:w.frozen? ⟨X,1,none⟩=false
 z:X<w.heap.size
theorem CBox.below {w w':World} {X:Nat} {u v:Value} (h:CBox w X u v) (hb:Below w.heap.size w w'):CBox w' X u v :=
 ⟨(hb.cell (p:=⟨X,0,none⟩) h.z).trans h.c0,(hb.cell (p:=⟨X,1,none⟩) h.z).trans h.c1,(hb.frozen (p:=⟨X,0,none⟩) h.z).trans h.f0,(hb.frozen (p:=⟨X,1,none⟩) h.z).trans h.f1,Nat.lt_of_lt_of_le h.z hb.size⟩
structure RegJ (w2:World) (rb:Nat) (p:Where) (cl:Nat) (Gc Gi:Nat->Value) (b:Nat->Bool) (w:World) (u34 u35 u36 u12 u13:Value) (X Y:Nat) (av iv:Value):Prop where
 below:Below w2.heap.size w2 w
 r0:b 0=true->u34 = .pointer (some ⟨rb,0,none⟩)
 r1:b 1=true->u35 = .agg #[av,iv]∧SlAt w2.heap.size Gc cl w av∧SlAt w2.heap.size Gi cl w iv
 r2:b 2=true->u36=(.agg #[.slice (some ⟨(p).b1,(p).o1,none⟩) 32 (p).k1,.slice (some ⟨(p).b2,(p).o2,none⟩) 32 (p).k2,.slice (some ⟨(p).b3,(p).o3,none⟩) 32 (p).k3,.slice (some ⟨(p).b4,(p).o4,none⟩) 32 (p).k4])
 r3:b 3=true->u12 = .pointer (some ⟨X,0,none⟩)∧w2.heap.size<=X∧CBox w X (if b 5 then av else .slice none 0 0) (if b 5 then iv else .slice none 0 0)
 r4:b 4=true->u13 = .pointer (some ⟨Y,0,none⟩)∧w2.heap.size<=Y∧(b 6=false->BoxNil w Y)∧(b 6=true->BoxOf w Y p)
 o13:b 1=true->b 3=true->OffB cl av X∧OffB cl iv X
 o14:b 1=true->b 4=true->OffB cl av Y∧OffB cl iv Y
 o34:b 3=true->b 4=true->X≠Y
 l5:b 5=true->b 3=true∧b 1=true∧b 4=true
 l6:b 6=true->b 4=true∧b 5=true
variable {w2 w w':World} {rb:Nat} {p:Where} {cl:Nat} {Gc Gi:Nat->Value} {b:Nat->Bool} {u34 u35 u36 u12 u13:Value} {X Y:Nat} {av iv:Value}
def dn (b:Nat->Bool) (i j:Nat):Bool:=if i=j then true else b j
theorem RegJ.s0 (h:RegJ w2 rb p cl Gc Gi b w u34 u35 u36 u12 u13 X Y av iv):RegJ w2 rb p cl Gc Gi (dn b 0) w (.pointer (some ⟨rb,0,none⟩)) u35 u36 u12 u13 X Y av iv :=
 ⟨h.below,fun _=>rfl,h.r1,h.r2,h.r3,h.r4,h.o13,h.o14,h.o34,h.l5,h.l6⟩
theorem RegJ.s2 (h:RegJ w2 rb p cl Gc Gi b w u34 u35 u36 u12 u13 X Y av iv):RegJ w2 rb p cl Gc Gi (dn b 2) w u34 u35 (.agg #[.slice (some ⟨(p).b1,(p).o1,none⟩) 32 (p).k1,.slice (some ⟨(p).b2,(p).o2,none⟩) 32 (p).k2,.slice (some ⟨(p).b3,(p).o3,none⟩) 32 (p).k3,.slice (some ⟨(p).b4,(p).o4,none⟩) 32 (p).k4]) u12 u13 X Y av iv :=
 ⟨h.below,h.r0,h.r1,fun _=>rfl,h.r3,h.r4,h.o13,h.o14,h.o34,h.l5,h.l6⟩
theorem RegJ.s1 (h:RegJ w2 rb p cl Gc Gi b w u34 u35 u36 u12 u13 X Y av iv) (h5:b 5=false) {av' iv':Value} (ha:SlAt w.heap.size Gc cl w' av') (hi:SlAt w.heap.size Gi cl w' iv') (hb:Below w.heap.size w w') :
 RegJ w2 rb p cl Gc Gi (dn b 1) w' u34 (.agg #[av',iv']) u36 u12 u13 X Y av' iv':=by
 refine ⟨bel_below h.below hb,h.r0,fun _=>⟨rfl,ha.base h.below.size,hi.base h.below.size⟩,h.r2,fun h3=>?_,fun h4=>?_,fun _ h3=>?_,fun _ h4=>?_,h.o34,fun h'=>?_,h.l6⟩
 · obtain ⟨e,h1,h2⟩:=h.r3 h3
   have h5':dn b 1 5=false:=h5
   rw [h5] at h2
   rw [h5']
   exact ⟨e,h1,h2.below hb⟩
 · obtain ⟨e,h1,h2,h3⟩:=h.r4 h4
   exact ⟨e,h1,fun x=>(h2 x).later hb,fun x=>(h3 x).later hb⟩
 · have:=(h.r3 h3).2.2.z
   exact ⟨offB_lt ha (Or.inl this),offB_lt hi (Or.inl this)⟩
 · have:Y<w.heap.size:=by
    obtain ⟨_,_,h2,h3⟩:=h.r4 h4
    cases h6:b 6 with
    | false=>exact (h2 h6).z
    | true=>exact (h3 h6).z
   exact ⟨offB_lt ha (Or.inl this),offB_lt hi (Or.inl this)⟩
 · have:b 5=true:=h'
   rw [h5] at this;cases this
theorem RegJ.s3 (h:RegJ w2 rb p cl Gc Gi b w u34 u35 u36 u12 u13 X Y av iv) (h5:b 5=false) (hn:CBox w' w.heap.size (.slice none 0 0) (.slice none 0 0)) (hb:Below w.heap.size w w') :
 RegJ w2 rb p cl Gc Gi (dn b 3) w' u34 u35 u36 (.pointer (some ⟨w.heap.size,0,none⟩)) u13 w.heap.size Y av iv:=by
 have h5':dn b 3 5=false:=h5
 refine ⟨bel_below h.below hb,h.r0,fun h1=>?_,h.r2,fun h3=>?_,fun h4=>?_,fun h1 _=>?_,fun h1 h4=>h.o14 h1 h4,fun _ h4=>?_,fun h'=>?_,h.l6⟩
 · obtain ⟨e,h2,h3⟩:=h.r1 h1
   exact ⟨e,h2.below hb,h3.below hb⟩
 · rw [h5'];exact ⟨rfl,h.below.size,hn⟩
 · obtain ⟨e,h1,h2,h3⟩:=h.r4 h4
   exact ⟨e,h1,fun x=>(h2 x).later hb,fun x=>(h3 x).later hb⟩
 · obtain ⟨e,h2,h3⟩:=h.r1 h1
   exact ⟨offB_lt h2 (Or.inr (Nat.le_refl _)),offB_lt h3 (Or.inr (Nat.le_refl _))⟩
 · have:Y<w.heap.size:=by
    obtain ⟨_,_,h2,h3⟩:=h.r4 h4
    cases h6:b 6 with
    | false=>exact (h2 h6).z
    | true=>exact (h3 h6).z
   omega
 · rw [h5'] at h';cases h'
theorem RegJ.s4 (h:RegJ w2 rb p cl Gc Gi b w u34 u35 u36 u12 u13 X Y av iv) (h5:b 5=false) (h6:b 6=false) (hn:BoxNil w' w.heap.size) (hb:Below w.heap.size w w') :
 RegJ w2 rb p cl Gc Gi (dn b 4) w' u34 u35 u36 u12 (.pointer (some ⟨w.heap.size,0,none⟩)) X w.heap.size av iv:=by
 have h5':dn b 4 5=false:=h5
 have h6':dn b 4 6=false:=h6
 refine ⟨bel_below h.below hb,h.r0,fun h1=>?_,h.r2,fun h3=>?_,fun h4=>?_,fun h1 h3=>h.o13 h1 h3,fun h1 _=>?_,fun h3 _=>?_,fun h'=>?_,fun h'=>?_⟩
 · obtain ⟨e,h2,h3⟩:=h.r1 h1
   exact ⟨e,h2.below hb,h3.below hb⟩
 · obtain ⟨e,h1,h2⟩:=h.r3 h3
   rw [h5] at h2
   rw [h5']
   exact ⟨e,h1,h2.below hb⟩
 · exact ⟨rfl,h.below.size,fun _=>hn,fun x=>by rw [h6'] at x;cases x⟩
 · obtain ⟨e,h2,h3⟩:=h.r1 h1
   exact ⟨offB_lt h2 (Or.inr (Nat.le_refl _)),offB_lt h3 (Or.inr (Nat.le_refl _))⟩
 · have:=(h.r3 h3).2.2.z;omega
 · rw [h5'] at h';cases h'
 · rw [h6'] at h';cases h'
theorem RegJ.s5 (h:RegJ w2 rb p cl Gc Gi b w u34 u35 u36 u12 u13 X Y av iv) (h1:b 1=true) (h3:b 3=true) (h4:b 4=true) (h6:b 6=false) (hw:w'=(w.setCell ⟨X,0,none⟩ av).setCell ⟨X,1,none⟩ iv) :
 RegJ w2 rb p cl Gc Gi (dn b 5) w' u34 u35 u36 u12 u13 X Y av iv:=by
 have hs:w'.heap.size=w.heap.size:=by rw [hw,size_set,size_set]
 have hk:∀ q,q≠X->w'.heap[q]? = w.heap[q]?:=fun q hq=>by
  rw [hw,Below.heap_setCell _ _ _ _ (fun e=>hq e),Below.heap_setCell _ _ _ _ (fun e=>hq e)]
 obtain ⟨e3,hX,hc⟩:=h.r3 h3
 obtain ⟨e1,ha,hi⟩:=h.r1 h1
 obtain ⟨e4,hY,hy,_⟩:=h.r4 h4
 obtain ⟨o1,o2⟩:=h.o13 h1 h3
 have hb:Below w2.heap.size w2 w':=h.below.trans ⟨by rw [hw];rfl,by rw [hw];rfl,by rw [hw];rfl,by omega,fun q hq=>hk q (by omega)⟩
 have hXY:=h.o34 h3 h4
 have h6':dn b 5 6=false:=h6
 have hcx:∃ u v,CBox w X u v:=⟨_,_,hc⟩
 obtain ⟨u,v,hcx⟩:=hcx
 refine ⟨hb,h.r0,fun _=>⟨e1,slAt_off ha o1 hs hk,slAt_off hi o2 hs hk⟩,h.r2,fun _=>⟨e3,hX,?_⟩,fun _=>⟨e4,hY,fun _=>(hy h6).block (by omega) (hk _ (Ne.symm hXY)),fun x=>by rw [h6'] at x;cases x⟩,h.o13,h.o14,h.o34,fun _=>⟨h3,h1,h4⟩,fun x=>by rw [h6'] at x;cases x⟩
 have z:=hcx.z
 have c0:=hcx.c0
 have c1:=hcx.c1
 have f0:=hcx.f0
 have f1:=hcx.f1
 show CBox w' X av iv
 rw [hw]
 exact ⟨by simp [go_sem,c0,c1,z],by simp [go_sem,c0,c1,z],by simp [go_sem,f0,f1],by simp [go_sem,f0,f1],by simp [go_sem,z]⟩
theorem RegJ.s6 (h:RegJ w2 rb p cl Gc Gi b w u34 u35 u36 u12 u13 X Y av iv) (h1:b 1=true) (h3:b 3=true) (h4:b 4=true) (h5:b 5=true) (h6:b 6=false)
 (hw:w'=(((w.setCell ⟨Y,0,none⟩ (.slice (some ⟨p.b1,p.o1,none⟩) 32 p.k1)).setCell ⟨Y,1,none⟩ (.slice (some ⟨p.b2,p.o2,none⟩) 32 p.k2)).setCell ⟨Y,2,none⟩ (.slice (some ⟨p.b3,p.o3,none⟩) 32 p.k3)).setCell ⟨Y,3,none⟩ (.slice (some ⟨p.b4,p.o4,none⟩) 32 p.k4)) :
 RegJ w2 rb p cl Gc Gi (dn b 6) w' u34 u35 u36 u12 u13 X Y av iv:=by
 obtain ⟨hs,hk⟩:=block_set4 hw
 obtain ⟨e3,hX,hc⟩:=h.r3 h3
 obtain ⟨e1,ha,hi⟩:=h.r1 h1
 obtain ⟨e4,hY,hy,_⟩:=h.r4 h4
 obtain ⟨o1,o2⟩:=h.o14 h1 h4
 have hb:Below w2.heap.size w2 w':=h.below.trans ⟨by rw [hw];rfl,by rw [hw];rfl,by rw [hw];rfl,by omega,fun q hq=>hk q (by omega)⟩
 have hXY:=h.o34 h3 h4
 have h6':dn b 6 6=true:=rfl
 refine ⟨hb,h.r0,fun _=>⟨e1,slAt_off ha o1 hs hk,slAt_off hi o2 hs hk⟩,h.r2,fun _=>⟨e3,hX,?_⟩,fun _=>⟨e4,hY,(fun x=>by rw [h6'] at x;cases x),fun _=>(hy h6).store _ _ _ _ hw⟩,h.o13,h.o14,h.o34,h.l5,fun _=>⟨h4,h5⟩⟩
 have e:w'.heap[X]? = w.heap[X]?:=hk X hXY
 exact ⟨(World.cell?_of_block e).trans hc.c0,(World.cell?_of_block e).trans hc.c1,(World.frozen?_of_block e).trans hc.f0,(World.frozen?_of_block e).trans hc.f1,by have:=hc.z;omega⟩
set_option maxRecDepth 100000 in
set_option maxHeartbeats 8000000 in
theorem rdvPlans_main (W:World) (hH:HandleAt W) (v0 v1 v2 v3:Value) (ids:List Int) (acts acts2:List ActD) (gl:List Str) (hi:SlAt 0 (fun i=>.int .u64 (nth ids i)) ids.length W v0) (hp:∀ x∈ids,isPlace x)
 (ha:ActsAt acts W v1) (hao:∀ k,k<acts.length->(actAt acts k).ok) (ha2:ActsAt acts2 W v2) (hao2:∀ k,k<acts2.length->(actAt acts2 k).ok) (hg:SlS 0 gl W v3) :
 Calls Tryz.prog 3 #[v0,v1,v2,v3] W fun e w'=>e = .returned (.bool true)∧Below W.heap.size W w':=by
 have CM:=Lib.hid (show Calls Tryz.prog 8 #[v0,v1,.int .i64 15] W (MadePost W ids) from made_any W hH v0 v1 ids acts 15 hi hp ha hao (by omega))
 have HA:=Lib.hid ha2
 have HAO:=Lib.hid hao2
 have HGL:=Lib.hid hg
 obtain ⟨a2,q2,rfl,_,hm1⟩:=ha2.slice
 obtain ⟨a3,q3,rfl,_⟩:=hg.slice
 have ham:acts2.length<=9223372036854775807:=by unfold maxLen at hm1;omega
 clear hi hp ha hao hH ha2 hao2 hg hm1
 unfold MadePost at CM
 go_enter Tryz.func3,Tryz.ntmps3
 go_wp2_with fail
 refine CM.out.mono ?_
 intro e w1 hm
 split at hm
 · obtain ⟨rb,mb,f,p,S,Q,rfl,hB⟩:=hm
   clear CM
   go_upto_region 2 with (fail)
   obtain ⟨w2,hw2⟩:∃ z,z=w1.alloc (.cells #[.slice (some ⟨p.b1,p.o1,none⟩) 32 p.k1,.slice (some ⟨p.b2,p.o2,none⟩) 32 p.k2,.slice (some ⟨p.b3,p.o3,none⟩) 32 p.k3,.slice (some ⟨p.b4,p.o4,none⟩) 32 p.k4] 32):=⟨_,rfl⟩
   obtain ⟨T,hT⟩:∃ z,z=w1.heap.size:=⟨_,rfl⟩
   have b12:Below w1.heap.size w1 w2:=by rw [hw2];exact bel_alloc (Below.refl _ _) _
   have T2:Hid (BoxOf w2 T p):=by rw [hw2,hT];exact ⟨by simp [go_sem],by simp [go_sem],by simp [go_sem],by simp [go_sem],by simp [go_sem],by simp [go_sem],by simp [go_sem],by simp [go_sem],by simp⟩
   have B2:=Lib.hid (hB.now b12)
   have hWT:W.heap.size<=T:=by rw [hT];exact hB.below.size
   have nT:Hid (¬ Now S w1 w2 T ∧ ¬ (Q T∧T<w1.heap.size)):=by
    have:=T2.out.z
    exact ⟨fun h=>by rcases h with ⟨_,h⟩ | h <;> omega,fun h=>by omega⟩
   rw [← hw2]
   try rw [← hT]
   clear hw2 hT hB b12
   obtain ⟨S2,hS2⟩:∃ z,z=Now S w1 w2:=⟨_,rfl⟩
   obtain ⟨Q2,hQ2⟩:∃ z:Nat->Prop,z=fun b=>Q b∧b<w1.heap.size:=⟨_,rfl⟩
   rw [← hS2,← hQ2] at B2
   have nT2:Hid (¬ S2 T ∧ ¬ Q2 T):=by rw [hS2,hQ2];exact nT.out
   clear hS2 hQ2 nT
   go_upto_region 4 with (fail)
   obtain ⟨g2,G2⟩:=B2.out.ring
   have OF:=Lib.hid fun (w':World) (hb:Below w2.heap.size w2 w')=>of_at (G2.below hb) B2.out.inv
   unfold CircPost at OF
   clear G2
   refine wp_region_inv (by kernel_rfl) (fun a0 L a w=>∃ u34 u35 u36 u12 u13 X Y av iv,a=((((a0.put (some 34) u34).put (some 35) u35).put (some 36) u36).put (some 12) u12).put (some 13) u13∧Hid (RegJ w2 rb p (circ f).length (fun i=>.int .i64 (nth (circ f) i)) (fun i=>.int .u64 (nth ((circ f).map (idR f)) i)) (fun j=>L.getD j false) w u34 u35 u36 u12 u13 X Y av iv)) ?_ (fun L a' w' i hLs hJ hri=>?_) (fun L a' w3 hLs hJ hr=>?_)
   · refine ⟨undef,undef,undef,undef,undef,0,0,undef,undef,rfl,?_⟩
     have e:∀ j,(Array.replicate 7 false).getD j false=false:=fun j=>by
      rw [Array.getD_eq_getD_getElem?]
      by_cases h:j<7 <;> simp [h]
     constructor <;> first | exact (RowKit.Below.refl _ _).drew | (intro h;rw [show (Array.replicate 7 false).getD _ false=false from e _] at h;cases h) | (intro h;exact absurd ((e _).symm.trans h) (by decide))
   · obtain ⟨hi1,hi2⟩:=ready_lt hri
     have hi7:i<7:=hi1
     have hset:∀ j,(L.setIfInBounds i true).getD j false=dn (fun j=>L.getD j false) i j:=fun j=>getD_set (by rw [hLs];exact hi1)
     rw [show (fun j=>(L.setIfInBounds i true).getD j false)=dn (fun j=>L.getD j false) i from funext hset]
     obtain ⟨u34,u35,u36,u12,u13,X,Y,av,iv,rfl,HJ⟩:=hJ
     have:i=0∨i=1∨i=2∨i=3∨i=4∨i=5∨i=6:=by omega
     rcases this with rfl | rfl | rfl | rfl | rfl | rfl | rfl
     · refine ⟨_,rfl,fun R hR=>?_⟩
       clear hri hi1 hi2 hi7 hset
       go_wp2_with fail
       exact ⟨_,_,_,_,_,_,_,_,_,rfl,HJ.out.s0⟩
     · have hd:=ready_dep hri rfl
       simp [Region.binds,getD_opt] at hd
       have e:=HJ.out.r0 hd
       subst e
       have hno:=getD_no hi2
       have h5:L.getD 5 false=false:=by
        cases h:L.getD 5 false with
        | false=>rfl
        | true=>exact absurd (hno.symm.trans (HJ.out.l5 h).2.1) (by decide)
       have CF:=OF.out w' HJ.out.below
       refine ⟨_,rfl,fun R hR=>?_⟩
       clear hri hi1 hi2 hi7 hset hd hno
       go_wp2_with fail
       refine CF.mono ?_
       rintro e wn ⟨av',iv',rfl,ha',hi',hb'⟩
       have HN:=Lib.hid (HJ.out.s1 h5 ha' hi' hb')
       clear HJ ha' hi' hb' CF
       go_wp2_with fail
       exact ⟨_,_,_,_,_,_,_,_,_,rfl,HN.out⟩
     · have T3:=T2.out.later HJ.out.below
       have t0:=T3.c0
       have t1:=T3.c1
       have t2:=T3.c2
       have t3:=T3.c3
       have tz:=T3.z
       refine ⟨_,rfl,fun R hR=>?_⟩
       clear hri hi1 hi2 hi7 hset T3
       go_wp2_with fail
       exact ⟨_,_,_,_,_,_,_,_,_,rfl,HJ.out.s2⟩
     · have hno:=getD_no hi2
       have h5:L.getD 5 false=false:=by
        cases h:L.getD 5 false with
        | false=>rfl
        | true=>exact absurd (hno.symm.trans (HJ.out.l5 h).1) (by decide)
       refine ⟨_,rfl,fun R hR=>?_⟩
       clear hri hi1 hi2 hi7 hset hno
       go_wp2_with fail
       exact ⟨_,_,_,_,_,_,_,_,_,rfl,HJ.out.s3 h5 ⟨by simp [go_sem],by simp [go_sem],by simp [go_sem],by simp [go_sem],by simp [go_sem]⟩ (bel_alloc (Below.refl _ _) _)⟩
     · have hno:=getD_no hi2
       have h5:L.getD 5 false=false:=by
        cases h:L.getD 5 false with
        | false=>rfl
        | true=>exact absurd (hno.symm.trans (HJ.out.l5 h).2.2) (by decide)
       have h6:L.getD 6 false=false:=by
        cases h:L.getD 6 false with
        | false=>rfl
        | true=>exact absurd (hno.symm.trans (HJ.out.l6 h).1) (by decide)
       refine ⟨_,rfl,fun R hR=>?_⟩
       clear hri hi1 hi2 hi7 hset hno
       go_wp2_with fail
       exact ⟨_,_,_,_,_,_,_,_,_,rfl,HJ.out.s4 h5 h6 ⟨by simp [go_sem],by simp [go_sem],by simp [go_sem],by simp [go_sem],by simp [go_sem],by simp [go_sem],by simp [go_sem],by simp [go_sem],by simp [go_sem]⟩ (bel_alloc (Below.refl _ _) _)⟩
     · have hd:=ready_dep hri rfl
       simp [Region.binds,getD_opt] at hd
       have h1:=Lib.hid hd.2.1
       have h3:=Lib.hid hd.1
       have h4:=Lib.hid hd.2.2.2.2.2
       have hno:=getD_no hi2
       have h6:Hid (L.getD 6 false=false):=by
        cases h:L.getD 6 false with
        | false=>rfl
        | true=>exact absurd (hno.symm.trans (HJ.out.l6 h).2) (by decide)
       obtain ⟨e3,hX,hc⟩:=HJ.out.r3 h3.out
       obtain ⟨e1,ha,hi⟩:=HJ.out.r1 h1.out
       obtain ⟨uc,vc,hcx⟩:∃ u v,CBox w' X u v:=⟨_,_,hc⟩
       have c0:=hcx.c0
       have c1:=hcx.c1
       have f0:=hcx.f0
       have f1:=hcx.f1
       have cz:=hcx.z
       subst e3
       subst e1
       obtain ⟨aa,ac,rfl,_⟩:=ha.slice
       obtain ⟨ia,ic,rfl,_⟩:=hi.slice
       refine ⟨_,rfl,fun R hR=>?_⟩
       clear hri hi1 hi2 hi7 hset hno hd hX hc ha hi hcx
       go_wp2_with fail
       exact ⟨_,_,_,_,_,_,_,_,_,rfl,HJ.out.s5 h1.out h3.out h4.out h6.out rfl⟩
     · have hd:=ready_dep hri rfl
       simp [Region.binds,getD_opt] at hd
       have h4:=Lib.hid hd.1
       have h2:=Lib.hid hd.2.1
       have h5:=Lib.hid hd.2.2.1
       have h3:=Lib.hid (HJ.out.l5 h5.out).1
       have h1:=Lib.hid (HJ.out.l5 h5.out).2.1
       have h6:=Lib.hid (getD_no hi2)
       obtain ⟨e4,hY,hn,_⟩:=HJ.out.r4 h4.out
       have e2:=HJ.out.r2 h2.out
       have hcx:=hn h6.out
       have c0:=hcx.c0
       have c1:=hcx.c1
       have c2:=hcx.c2
       have c3:=hcx.c3
       have f0:=hcx.f0
       have f1:=hcx.f1
       have f2:=hcx.f2
       have f3:=hcx.f3
       have cz:=hcx.z
       subst e4
       subst e2
       refine ⟨_,rfl,fun R hR=>?_⟩
       clear hri hi1 hi2 hi7 hset hd hY hn hcx
       go_wp2_with fail
       exact ⟨_,_,_,_,_,_,_,_,_,rfl,HJ.out.s6 h1.out h3.out h4.out h5.out h6.out rfl⟩
   · have hL7:L.size=7:=hLs
     have k0:=getD_yes (by omega) (ready_nil hr (i:=0) rfl (by simp [Region.binds]))
     have k2:=getD_yes (by omega) (ready_nil hr (i:=2) rfl (by simp [Region.binds]))
     have k3:=getD_yes (by omega) (ready_nil hr (i:=3) rfl (by simp [Region.binds]))
     have k4:=getD_yes (by omega) (ready_nil hr (i:=4) rfl (by simp [Region.binds]))
     have k1:=getD_yes (by omega) (ready_nil hr (i:=1) rfl (by simp [Region.binds,getD_opt,k0]))
     have k5:=getD_yes (by omega) (ready_nil hr (i:=5) rfl (by simp [Region.binds,getD_opt,k0,k1,k3,k4]))
     have k6:=getD_yes (by omega) (ready_nil hr (i:=6) rfl (by simp [Region.binds,getD_opt,k0,k1,k2,k3,k4,k5]))
     obtain ⟨u34,u35,u36,u12,u13,X,Y,av,iv,rfl,HJ⟩:=hJ
     obtain ⟨e3,hX,hc⟩:=HJ.out.r3 k3
     obtain ⟨e1,ha,hi⟩:=HJ.out.r1 k1
     obtain ⟨e4,hY,_,hy⟩:=HJ.out.r4 k4
     have hy:=hy k6
     simp only [show (L.getD 5 false)=true from k5,if_true] at hc
     have hbj:=HJ.out.below
     have e0:=HJ.out.r0 k0
     have e2:=HJ.out.r2 k2
     subst e0
     subst e1
     subst e2
     subst e3
     subst e4
     obtain ⟨aa,ac,rfl,_⟩:=ha.slice
     obtain ⟨ia,ic,rfl,_⟩:=hi.slice
     have HX:=Lib.hid hc
     have HY:=Lib.hid hy
     have AV:=Lib.hid ha
     have IV:=Lib.hid hi
     have B3:=Lib.hid hbj
     have HXY:=Lib.hid (HJ.out.o34 k3 k4)
     clear hc hy ha hi hbj k0 k1 k2 k3 k4 k5 k6 hr hLs hL7 HJ OF
     have BO3:=Lib.hid (B2.out.now B3.out)
     have T3:=Lib.hid (T2.out.later B3.out)
     have nT3:Hid (¬ Now S2 w2 w3 T ∧ ¬ (Q2 T∧T<w2.heap.size)):=by
      have h1:=T2.out.z
      have h2:=B3.out.size
      exact ⟨fun h=>h.elim (fun h=>nT2.out.1 h.1) fun h=>by omega,fun h=>nT2.out.2 h.1⟩
     have nX3:Hid (∀ q,w2.heap.size<=q->q<w3.heap.size -> ¬ (Now S2 w2 w3 q∨q=T)):=fun q h1 h2 h=>by
      have:=T2.out.z
      rcases h with (⟨_,h⟩ | h) | h <;> omega
     have HWT:Hid (W.heap.size<=T):=hWT
     obtain ⟨S3,hS3⟩:∃ z,z=Now S2 w2 w3:=⟨_,rfl⟩
     obtain ⟨Q3,hQ3⟩:∃ z:Nat->Prop,z=fun b=>Q2 b∧b<w2.heap.size:=⟨_,rfl⟩
     rw [← hS3,← hQ3] at BO3
     rw [← hS3] at nX3
     have nT4:Hid (¬ S3 T ∧ ¬ Q3 T):=by rw [hS3,hQ3];exact nT3.out
     have HR0:Hid (∃ V,RefRows Q3 w3 p f V):=by obtain ⟨V,hV⟩:=BO3.out.ref;exact ⟨V,hV.rows⟩
     have HDS:Hid (∀ b,Q3 b -> ¬ (S3 b∨b=T)):=fun b h1 h2=>by
      rcases h2 with h2 | h2
      · exact BO3.out.dis b h1 h2
      · subst h2;exact nT4.out.2 h1
     clear hS3 hQ3 nT3 hWT
     go_wp2_with fail
     go_loopw [14,15,16] (fun i _ _ wr=>∃ (k:Nat) (f':RS) (p':Where) (S' Q':Nat->Prop),k<=acts2.length∧k<=15∧i = .int .i64 k∧Hid (Both S' Q' W wr rb mb f' p')∧Hid (BoxOf wr T p')∧Hid (¬ S' T ∧ ¬ Q' T)∧Hid (∀ b,S' b->S3 b)∧Hid (Kept (fun b=>S3 b∨b=T) w3 wr)) (fun i _ _ _=>15 - (intOf i).toNat)
     case atStart=>exact ⟨0,f,p,_,_,Nat.zero_le _,by omega,rfl,BO3.out,T3.out,nT4.out,fun _ h=>h,Kept.refl _ _⟩
     case round =>
      obtain ⟨k,f',p',S',Q',hk,hk15,rfl,hO,hT,hN,hSS,hK⟩:=hrel
      by_cases hltb:k<acts2.length∧k<15
      · obtain ⟨hlt,hlt15⟩:=hltb
        · have hkI:(k:Int)<15:=by omega
          obtain ⟨b,off,rfl,hbW,d0,d1,d2,d3⟩:=HA.out.at k hlt W (Below.refl _ _)
          have hok:=HAO.out k hlt
          generalize hAk:actAt acts2 k=A at d0 d1 d2 d3 hok
          obtain ⟨kd,an,av,ai⟩:=A
          dsimp only at d0 d1 d2 d3
          have HOK:=Lib.hid hok
          have d0:=(hO.out.below.cell (p:=⟨b,off+k * 4,none⟩) hbW).trans d0
          have d1:=(hO.out.below.cell (p:=⟨b,off+k * 4+1,none⟩) hbW).trans d1
          have d2:=(hO.out.below.cell (p:=⟨b,off+k * 4+2,none⟩) hbW).trans d2
          have d3:=(hO.out.below.cell (p:=⟨b,off+k * 4+3,none⟩) hbW).trans d3
          have hbw:b<wr.heap.size:=Nat.lt_of_lt_of_le hbW hO.out.below.size
          have hSb:¬ S' b:=fun h=>by have:=hO.out.low b h;omega
          have hST:¬ S' T:=hN.out.1
          have hup:=Lib.hid hO.out.up
          have t0:=hT.out.c0
          have t1:=hT.out.c1
          have t2:=hT.out.c2
          have t3:=hT.out.c3
          have tz:=hT.out.z
          have HQT:Hid (∀ Q2:Nat->Prop,(∀ b,Q2 b->Q' b∨wr.heap.size<=b) -> ¬ Q2 T):=fun Q2 h1 h2=>by
           have:=hT.out.z
           rcases h1 T h2 with h3 | h3
           · exact hN.out.2 h3
           · omega
          clear hok hAk
          go_upto_region 8 with (fail)
          go_cut [15,16] (fun s15 s16 wx=>∃ (X':Nat) (p2:Where) (S4 Q4:Nat->Prop),s15 = .pointer (some ⟨X',0,none⟩)∧s16 = .bool true∧Hid (BoxOf wx X' p2)∧Hid (Both S4 Q4 W wx rb mb (actR [1,2,3,4] f' ⟨kd,an,av,ai⟩) p2)∧Hid (¬ S4 T ∧ ¬ Q4 T)∧Hid (∀ b,S4 b->S' b)∧Hid (Kept S' wr wx)∧Hid (BoxOf wx T p'))
          case first =>
           as_aux_lemma =>
            refine wp_region_heads [0,1,2,3,4,5] 12 (fun w'=>∃ x:KeptW S' wr,w'=x.world) (by kernel_rfl) (by kernel_rfl) ⟨⟨{ wr with drawn:=wr.drawn+1 },(Kept.refl S' wr).drew⟩,rfl⟩ (fun d v c a w h=>by cases d <;> exact h) ?_
            simp only [headOps]
            repeat (refine wpTame_step (fun K hK=>?_);go_simp;refine hK _ ?_;clear hK K)
            refine wpTame_nil ?_
            clear d0 d1 d2 d3 t0 t1 t2 t3
            refine wpAnyC_step (f:=6) [6,10] (by kernel_rfl) rfl rfl (fun i hi=>?_)
            simp only [List.mem_cons,List.not_mem_nil,or_false] at hi
            rcases hi with rfl | rfl
            · refine ⟨_,rfl,fun R hR=>?_⟩
              go_wp2_with fail
              refine (does_any (hO.out.later (bel_drew (RowKit.Below.refl _ _))) kd an av ai HOK.out.n HOK.out.via HOK.out.id).mono ?_
              rintro e w5 ⟨p2,S4,Q4,rfl,hs1,hs0,hBo,hk5⟩
              have K5:Hid (Kept S' wr w5):=((Kept.refl S' wr).drew).trans hk5
              have O5:=Lib.hid hBo
              clear hBo hk5
              go_wp2_with fail
              refine hR _ _ ⟨⟨w5,K5.out⟩,rfl⟩ ?_
              clear hR R
              refine wpAnyC_mid (f:=3) [7,8,9] ⟨⟨w5,K5.out⟩,rfl⟩ (by kernel_rfl) (fun d v c a w h=>by cases d <;> exact h) ?_
              simp only [headOps]
              repeat (refine wpTame_step (fun K hK=>?_);go_simp;refine hK _ ?_;clear hK K)
              refine wpTame_nil ?_
              refine wpAnyC_step (f:=2) [10] (by kernel_rfl) rfl rfl (fun i hi=>?_)
              simp only [List.mem_cons,List.not_mem_nil,or_false] at hi
              subst hi
              refine ⟨_,rfl,fun R hR=>?_⟩
              go_wp2_with fail
              refine hR _ _ ⟨⟨_,K5.out.alloc _⟩,rfl⟩ ?_
              clear hR R
              refine wpAnyC_step (f:=1) [11] (by kernel_rfl) rfl rfl (fun i hi=>?_)
              simp only [List.mem_cons,List.not_mem_nil,or_false] at hi
              subst hi
              refine ⟨_,rfl,fun R hR=>?_⟩
              go_wp2_with fail
              obtain ⟨w6,hw6⟩:∃ z,z=w5.alloc (.cells #[.slice (some ⟨p2.b1,p2.o1,none⟩) 32 p2.k1,.slice (some ⟨p2.b2,p2.o2,none⟩) 32 p2.k2,.slice (some ⟨p2.b3,p2.o3,none⟩) 32 p2.k3,.slice (some ⟨p2.b4,p2.o4,none⟩) 32 p2.k4] 32):=⟨_,rfl⟩
              obtain ⟨X',hXX⟩:∃ X,X=w5.heap.size:=⟨_,rfl⟩
              have b56:RowKit.Below w5.heap.size w5 w6:=by rw [hw6];exact bel_alloc (RowKit.Below.refl _ _) _
              have X6:Hid (BoxOf w6 X' p2):=by rw [hw6,hXX];exact ⟨by simp [go_sem],by simp [go_sem],by simp [go_sem],by simp [go_sem],by simp [go_sem],by simp [go_sem],by simp [go_sem],by simp [go_sem],by simp⟩
              have K6:=Lib.hid (K5.out.below b56)
              have O6:=Lib.hid (O5.out.later b56)
              have N6:Hid (¬ S4 T ∧ ¬ Q4 T):=⟨fun h=>hST (hs1 _ h),HQT.out _ hs0⟩
              have HS4:Hid (∀ b,S4 b->S' b):=hs1
              have T6:Hid (BoxOf w6 T p'):=hT.out.block K6.out.size (K6.out.block T tz hST)
              rw [← hw6,← hXX]
              refine hR _ _ ⟨⟨w6,K6.out⟩,rfl⟩ ?_
              clear hR R hw6 hXX b56 O5 K5 hs1 hs0
              refine wpAnyC_end (k:=12) (by decide) rfl rfl (by kernel_rfl) ?_
              go_wp2_with fail
              go_meet
              case rel=>exact ⟨X',p2,S4,Q4,rfl,rfl,X6,O6,N6,HS4,K6,T6⟩
            · refine ⟨_,rfl,fun R hR=>?_⟩
              go_wp2_with fail
              obtain ⟨wa,hwa⟩:∃ z,z=(wr.alloc (.cells #[.slice none 0 0,.slice none 0 0,.slice none 0 0,.slice none 0 0] 32)).drew:=⟨_,rfl⟩
              obtain ⟨X',hXX⟩:∃ X,X=wr.heap.size:=⟨_,rfl⟩
              have bra:RowKit.Below wr.heap.size wr wa:=by rw [hwa];exact bel_drew (bel_alloc (RowKit.Below.refl _ _) _)
              have Xa:Hid (BoxNil wa X'):=by rw [hwa,hXX];exact ⟨by simp [go_sem],by simp [go_sem],by simp [go_sem],by simp [go_sem],by simp [go_sem],by simp [go_sem],by simp [go_sem],by simp [go_sem],by simp⟩
              have Oa:=Lib.hid (hO.out.now bra)
              have Ka:Hid (Kept S' wr wa):=(Kept.refl S' wr).below bra
              have hza:=bra.size
              have hXa:X'<wa.heap.size:=Xa.out.z
              have HXX:=Lib.hid hXX
              rw [← hwa,← hXX]
              refine hR _ _ ⟨⟨wa,Ka.out⟩,rfl⟩ ?_
              clear hR R hwa hXX bra
              refine wpAnyC_step (f:=5) [6] (by kernel_rfl) rfl rfl (fun i hi=>?_)
              simp only [List.mem_cons,List.not_mem_nil,or_false] at hi
              subst hi
              refine ⟨_,rfl,fun R hR=>?_⟩
              go_wp2_with fail
              refine (does_any Oa.out kd an av ai HOK.out.n HOK.out.via HOK.out.id).mono ?_
              rintro e w5 ⟨p2,S4,Q4,rfl,hs1,hs0,hBo,hk5⟩
              have hz5:=hk5.size
              have K5:Hid (Kept S' wr w5):=Ka.out.trans ⟨hk5.os,hk5.tape,hk5.output,hk5.size,fun b hb hS=>hk5.block b hb fun hN=>by
               rcases hN with h | h
               · exact hS h.1
               · omega⟩
              have O5:=Lib.hid hBo
              have nX:¬ Now S' wr wa X':=fun h=>by
               have:=HXX.out
               rcases h with ⟨_,h⟩ | h <;> omega
              have qX:Hid (¬ S4 X' ∧ ¬ Q4 X'):=⟨fun h=>nX (hs1 _ h),fun h=>by
               have:=HXX.out
               rcases hs0 _ h with h | h
               · have:=h.2;omega
               · omega⟩
              have X5:Hid (BoxNil w5 X'):=Xa.out.block hz5 (hk5.block _ Xa.out.z nX)
              have HS1:Hid (∀ b,S4 b->S' b):=fun b h=>by
               rcases hs1 b h with h | h
               · exact h.1
               · exact hup.out b (by omega)
              have HS0:Hid (∀ b,Q4 b->Q' b∨wr.heap.size<=b):=fun b h=>by
               rcases hs0 b h with h | h
               · exact Or.inl h.1
               · exact Or.inr (by omega)
              clear hs1 hs0 hBo hk5 nX Oa Ka Xa
              go_wp2_with fail
              refine hR _ _ ⟨⟨w5,K5.out⟩,rfl⟩ ?_
              clear hR R
              refine wpAnyC_mid (f:=2) [7,8,9] ⟨⟨w5,K5.out⟩,rfl⟩ (by kernel_rfl) (fun d v c a w h=>by cases d <;> exact h) ?_
              simp only [headOps]
              repeat (refine wpTame_step (fun K hK=>?_);go_simp;refine hK _ ?_;clear hK K)
              refine wpTame_nil ?_
              refine wpAnyC_step (f:=1) [11] (by kernel_rfl) rfl rfl (fun i hi=>?_)
              simp only [List.mem_cons,List.not_mem_nil,or_false] at hi
              subst hi
              refine ⟨_,rfl,fun R hR=>?_⟩
              have r0:=X5.out.c0
              have r1:=X5.out.c1
              have r2:=X5.out.c2
              have r3:=X5.out.c3
              have rf0:=X5.out.f0
              have rf1:=X5.out.f1
              have rf2:=X5.out.f2
              have rf3:=X5.out.f3
              have zr:=X5.out.z
              go_wp2_with fail
              clear r0 r1 r2 r3 rf0 rf1 rf2 rf3 zr
              obtain ⟨w6,hw6⟩:∃ z,z=(((w5.setCell ⟨X',0,none⟩ (.slice (some ⟨p2.b1,p2.o1,none⟩) 32 p2.k1)).setCell ⟨X',1,none⟩ (.slice (some ⟨p2.b2,p2.o2,none⟩) 32 p2.k2)).setCell ⟨X',2,none⟩ (.slice (some ⟨p2.b3,p2.o3,none⟩) 32 p2.k3)).setCell ⟨X',3,none⟩ (.slice (some ⟨p2.b4,p2.o4,none⟩) 32 p2.k4):=⟨_,rfl⟩
              obtain ⟨hz6,hk6⟩:=block_set4 hw6
              have X6:Hid (BoxOf w6 X' p2):=X5.out.store _ _ _ _ hw6
              have O6:Hid (Both S4 Q4 W w6 rb mb (actR [1,2,3,4] f' ⟨kd,an,av,ai⟩) p2):=O5.out.aside qX.out.1 qX.out.2 (by have:=HXX.out;have:=hO.out.below.size;omega) (by rw [hw6];rfl) (by rw [hw6];rfl) (by rw [hw6];rfl) hz6 hk6
              have K6:Hid (Kept S' wr w6):=⟨by rw [hw6];exact K5.out.os,by rw [hw6];exact K5.out.tape,by rw [hw6];exact K5.out.output,by rw [hz6];exact K5.out.size,fun b hb hS=>(hk6 b (by have:=HXX.out;omega)).trans (K5.out.block b hb hS)⟩
              have N6:Hid (¬ S4 T ∧ ¬ Q4 T):=⟨fun h=>hST (HS1.out _ h),HQT.out _ HS0.out⟩
              have T6:Hid (BoxOf w6 T p'):=hT.out.block K6.out.size (K6.out.block T tz hST)
              rw [← hw6]
              refine hR _ _ ⟨⟨w6,K6.out⟩,rfl⟩ ?_
              clear hR R hw6 hz6 hk6 O5 K5 X5 HS0
              refine wpAnyC_end (k:=12) (by decide) rfl rfl (by kernel_rfl) ?_
              go_wp2_with fail
              go_meet
              case rel=>exact ⟨X',p2,S4,Q4,rfl,rfl,X6,O6,N6,HS1,K6,T6⟩
          case rest =>
           as_aux_lemma =>
            clear d0 d1 d2 d3 t0 t1 t2 t3 tz hbw hSb hup HOK HQT hT
            obtain ⟨X',p2,S4,Q4,rfl,rfl,hX4,hO4,hN4,hS4,hK4,hT4⟩:=hcut
            have x0:=hX4.out.c0
            have x1:=hX4.out.c1
            have x2:=hX4.out.c2
            have x3:=hX4.out.c3
            have xz:=hX4.out.z
            have r0:=hT4.out.c0
            have r1:=hT4.out.c1
            have r2:=hT4.out.c2
            have r3:=hT4.out.c3
            have rf0:=hT4.out.f0
            have rf1:=hT4.out.f1
            have rf2:=hT4.out.f2
            have rf3:=hT4.out.f3
            have zr:=hT4.out.z
            go_upto_region 7 with (fail)
            obtain ⟨w7,hw7⟩:∃ z,z=(((wc.setCell ⟨T,0,none⟩ (.slice (some ⟨p2.b1,p2.o1,none⟩) 32 p2.k1)).setCell ⟨T,1,none⟩ (.slice (some ⟨p2.b2,p2.o2,none⟩) 32 p2.k2)).setCell ⟨T,2,none⟩ (.slice (some ⟨p2.b3,p2.o3,none⟩) 32 p2.k3)).setCell ⟨T,3,none⟩ (.slice (some ⟨p2.b4,p2.o4,none⟩) 32 p2.k4):=⟨_,rfl⟩
            obtain ⟨hz7,hk7⟩:=block_set4 hw7
            have T7:Hid (BoxOf w7 T p2):=hT4.out.store _ _ _ _ hw7
            have O7:=Lib.hid (hO4.out.aside hN4.out.1 hN4.out.2 HWT.out (by rw [hw7];rfl) (by rw [hw7];rfl) (by rw [hw7];rfl) hz7 hk7)
            have K7:Hid (Kept (fun b=>S3 b∨b=T) w3 w7):=hK.out.trans ((hK4.out.more fun b hb=>Or.inl (hSS.out b hb)).trans ⟨by rw [hw7];rfl,by rw [hw7];rfl,by rw [hw7];rfl,by omega,fun b hb hn=>hk7 b fun e=>hn (Or.inr e)⟩)
            have HS7:Hid (∀ b,S4 b->S3 b):=fun b h=>hSS.out b (hS4.out b h)
            rw [← hw7]
            clear hw7 hz7 hk7 hO4 hX4 hT4 hK4 x0 x1 x2 x3 xz r0 r1 r2 r3 rf0 rf1 rf2 rf3 zr hK hSS hS4
            go_wp2_with fail
            go_roundw
            case rel=>first | (go_light;exact ⟨k+1,_,p2,S4,Q4,by omega,by omega,by go_num,O7,T7,hN4,HS7,K7⟩) | ((repeat apply Exists.intro);exact ⟨⟨k+1,_,p2,S4,Q4,by omega,by omega,by go_num,O7,T7,hN4,HS7,K7⟩,rfl⟩)
            case measure=>go_light;simp [intOf];omega
      · have hcase:acts2.length<=k∨k<acts2.length∧k=15:=by omega
        clear hltb
        go_upto_region 6 with (fail)
        go_cut [44] (fun s44 wx=>s44 = .bool false∧Hid (wx=wr))
        case first =>
         rcases hcase with hcase | ⟨hcase,rfl⟩
         · have hnI:¬ (k:Int)<(acts2.length:Int):=by omega
           go_wp2_with fail
           go_meet
           case rel=>exact ⟨rfl,rfl⟩
         · go_wp2_with fail
           go_meet
           case rel=>exact ⟨rfl,rfl⟩
        case rest =>
         obtain ⟨rfl,hwc⟩:=hcut
         have hwc:=hwc.out.symm
         subst hwc
         clear hcase
         have HX4:Hid (CBox wr X (.slice aa (circ f).length ac) (.slice ia (circ f).length ic)):=by
          have h:=HX.out
          have e:=hK.out.block X h.z (nX3.out X hX h.z)
          exact ⟨(World.cell?_of_block e).trans h.c0,(World.cell?_of_block e).trans h.c1,(World.frozen?_of_block e).trans h.f0,(World.frozen?_of_block e).trans h.f1,Nat.lt_of_lt_of_le h.z hK.out.size⟩
         have HY4:Hid (BoxOf wr Y p):=HY.out.block hK.out.size (hK.out.block Y HY.out.z (nX3.out Y hY HY.out.z))
         have AV4:=Lib.hid (slAt_kept2 AV.out hK.out fun b h1 h2=>nX3.out b h1 h2)
         have IV4:=Lib.hid (slAt_kept2 IV.out hK.out fun b h1 h2=>nX3.out b h1 h2)
         have HR4:Hid (∃ V,RefRows Q3 wr p f V):=by
          obtain ⟨V,hV⟩:=HR0.out
          exact ⟨V,hV.same (fun _ _ h=>h) hK.out.size fun b hb hq=>hK.out.block b hb (HDS.out b hq)⟩
         have HR5:Hid (∃ V,RefRows Q' wr p' f' V):=by obtain ⟨V,hV⟩:=hO.out.ref;exact ⟨V,hV.rows⟩
         have HI:=Lib.hid BO3.out.inv
         have HI':=Lib.hid hO.out.inv
         have BW4:=Lib.hid hO.out.below
         obtain ⟨g4,G4⟩:=hO.out.ring
         have OF2:=Lib.hid (of_at G4 hO.out.inv)
         unfold CircPost at OF2
         clear G4 HX HY AV IV HR0 HDS hK hSS hN nX3 nT4 nT2 BO3 B2 T2 T3 HWT hO hX hY
         go_wp2_with fail
         refine OF2.out.mono ?_
         rintro e w8 ⟨bv,jv,rfl,hbv,hjv,hb8⟩
         obtain ⟨ba,bc,rfl,_⟩:=hbv.slice
         obtain ⟨ja,jc,rfl,_⟩:=hjv.slice
         have BV8:=Lib.hid (hbv.base (B':=0) (Nat.zero_le _))
         have JV8:=Lib.hid (hjv.base (B':=0) (Nat.zero_le _))
         have B48:=Lib.hid hb8
         clear hbv hjv hb8 OF2
         go_upto_region 11 with (fail)
         obtain ⟨w9,hw9⟩:∃ z,z=w8.alloc (.cells #[.slice ba (circ f').length bc,.slice ja (circ f').length jc] 38):=⟨_,rfl⟩
         obtain ⟨Z,hZ⟩:∃ z,z=w8.heap.size:=⟨_,rfl⟩
         have b89:Below w8.heap.size w8 w9:=by rw [hw9];exact bel_alloc (Below.refl _ _) _
         have HZ9:Hid (CBox w9 Z (.slice ba (circ f').length bc) (.slice ja (circ f').length jc)):=by rw [hw9,hZ];exact ⟨by simp [go_sem],by simp [go_sem],by simp [go_sem],by simp [go_sem],by simp [go_sem]⟩
         have B49:=Lib.hid (bel_below B48.out b89)
         have BV9:=Lib.hid (BV8.out.below b89)
         have JV9:=Lib.hid (JV8.out.below b89)
         have CN:=Lib.hid (names_any w9 _ gl (SlAt.below HGL.out (bel_below BW4.out B49.out)))
         rw [← hw9]
         try rw [← hZ]
         clear hw9 hZ b89 BV8 JV8 B48
         go_wp2_with fail
         refine CN.out.mono ?_
         rintro e wn ⟨vn,rfl,hsn,hbn⟩
         obtain ⟨an,cn,rfl,_⟩:=SlAt.slice hsn
         have SN:=Lib.hid (hsn.base (B':=0) (Nat.zero_le _))
         have B4n:=Lib.hid (bel_below B49.out hbn)
         have HZn:=Lib.hid (HZ9.out.below hbn)
         have HXn:=Lib.hid (HX4.out.below B4n.out)
         have HYn:=Lib.hid (HY4.out.later B4n.out)
         have HTn:=Lib.hid (hT.out.later B4n.out)
         have BVn:=Lib.hid (BV9.out.below hbn)
         have JVn:=Lib.hid (JV9.out.below hbn)
         have AVn:=Lib.hid ((AV4.out.base (Nat.zero_le _)).below B4n.out)
         have IVn:=Lib.hid ((IV4.out.base (Nat.zero_le _)).below B4n.out)
         clear hsn hbn CN HZ9 HX4 HY4 hT BV9 JV9 AV4 IV4 B49
         go_upto_region 12 with (fail)
         have xc0:=HXn.out.c0
         have xc1:=HXn.out.c1
         have xcz:=HXn.out.z
         have zc0:=HZn.out.c0
         have zc1:=HZn.out.c1
         have zcz:=HZn.out.z
         have yc0:=HYn.out.c0
         have yc1:=HYn.out.c1
         have yc2:=HYn.out.c2
         have yc3:=HYn.out.c3
         have ycz:=HYn.out.z
         have tc0:=HTn.out.c0
         have tc1:=HTn.out.c1
         have tc2:=HTn.out.c2
         have tc3:=HTn.out.c3
         have tcz:=HTn.out.z
         refine wp_region_heads [0,1,3,6,7,8] 11 (fun w'=>∃ x:Later wn,w'=x.world) (by kernel_rfl) (by kernel_rfl) ⟨⟨{ wn with drawn:=wn.drawn+1 },(RowKit.Below.refl _ _).drew⟩,rfl⟩ (fun d v c a w h=>by cases d <;> exact h) ?_
         simp only [headOps]
         repeat (refine wpTame_step (fun K hK=>?_);go_simp;refine hK _ ?_;clear hK K)
         refine wpTame_nil ?_
         clear xc0 xc1 xcz zc0 zc1 zcz yc0 yc1 yc2 yc3 ycz tc0 tc1 tc2 tc3 tcz
         refine wpAnyC_step (f:=5) [2] (by kernel_rfl) rfl rfl (fun i hi=>?_)
         simp only [List.mem_cons,List.not_mem_nil,or_false] at hi
         subst hi
         refine ⟨_,rfl,fun R hR=>?_⟩
         go_wp2_with fail
         obtain ⟨wb,hwb⟩:∃ z,z=(wn.alloc (.cells #[] 9)).drew:=⟨_,rfl⟩
         obtain ⟨V,hV⟩:∃ z,z=wn.heap.size:=⟨_,rfl⟩
         have bnb:Below wn.heap.size wn wb:=by rw [hwb];exact bel_drew (bel_alloc (RowKit.Below.refl _ _) _)
         have OV:Hid (wb.ownsRow V 9 1 (.slice (some ⟨V,0,none⟩) 0 0) 0 []):=by rw [hwb,hV];exact ownsRow_same (World.ownsRow_made wn #[] 0 (Nat.le_refl _) (Nat.zero_le _) (by simp)) fun q hq=>rfl
         have BNB:=Lib.hid bnb
         have HVE:Hid (wn.heap.size<=V∧V<=wb.heap.size):=⟨by omega,by rw [hV];exact bnb.size⟩
         try rw [← hwb]
         try rw [← hV]
         refine hR _ _ ⟨⟨wb,BNB.out⟩,rfl⟩ ?_
         clear hR R hwb hV bnb
         refine wpAnyC_step (f:=4) [4] (by kernel_rfl) rfl rfl (fun i hi=>?_)
         simp only [List.mem_cons,List.not_mem_nil,or_false] at hi
         subst hi
         refine ⟨_,rfl,fun R hR=>?_⟩
         have SNb:=Lib.hid (SlAt.below SN.out BNB.out)
         obtain ⟨i0,hi0,hz0,hz1,hz2⟩:∃ i0,Tryz.prog.info? 9=some i0∧i0.zero=some (Value.string ByteArray.empty)∧i0.size=1∧i0.bytes=16:=⟨strI,strI_at,by kernel_rfl,by kernel_rfl,by kernel_rfl⟩
         have hnl:=namesL_len gl
         refine wpList_app rfl _ _ 24 rfl V 9 i0 (.string ByteArray.empty) 16 Tryz.underlying24 hi0 hz0 hz1 hz2 rfl _ 0 [] rfl OV.out 0 (fun i=>sV (nthT (namesL gl) i)) (namesL gl).length _ rfl SNb.out (fun _=>rfl) (by simp only [maxLen];omega) (by omega) HVE.out.2 ?_
         intro va wx hoa hga
         have BX:Hid (Below wn.heap.size wn wx):=BNB.out.grown hga BNB.out.size (fun j hj=>by cases hj;exact HVE.out.1)
         have ee:(namesL gl).map sV=[] ++ (List.range (namesL gl).length).map fun i=>sV (nthT (namesL gl) i):=by
          rw [List.nil_append]
          refine List.ext_getElem (by simp) fun j h1 h2=>?_
          have:j<(namesL gl).length:=by simpa using h1
          simp [nthT_eq this]
         have SX:Hid (SlS V (namesL gl) wx va):=(OwnS.of_row (l:=namesL gl) (by rw [ee];rw [Nat.zero_add] at hoa;exact hoa)).slAt
         clear hoa hga ee
         obtain ⟨xa,xc,rfl,_⟩:=SlAt.slice SX.out
         go_wp2_with fail
         refine hR _ _ ⟨⟨wx,BX.out⟩,rfl⟩ ?_
         clear hR R
         have BXW:=Lib.hid (bel_below (bel_below BW4.out B4n.out) BX.out)
         refine wpAnyC_step (f:=3) [5] (by kernel_rfl) rfl rfl (fun i hi=>?_)
         simp only [List.mem_cons,List.not_mem_nil,or_false] at hi
         subst hi
         refine ⟨_,rfl,fun R hR=>?_⟩
         have CP:=Lib.hid (plan_any wx f f' HI.out HI'.out _ _ _ _ (AVn.out.below BX.out) (IVn.out.below BX.out) (BVn.out.below BX.out) (JVn.out.below BX.out) _ (namesL gl) (show SlAt _ _ _ _ _ from SX.out.base (Nat.zero_le _)) (by omega) (fun s hs=>Nat.le_trans (namesL_size gl s hs) (by omega)))
         go_wp2_with fail
         refine CP.out.mono ?_
         unfold PlanPost
         rintro e wy ⟨vy,LP,rfl,hm1,hm2,hm3,hb⟩
         have BY:=Lib.hid (bel_below BX.out hb)
         have HM:=Lib.hid hm1
         have HLP:Hid (LP=planV (fun g=>keyH (bs g)) f f' (setS (namesL gl))):=plans_same HI.out HI'.out _ (setS_up _) hm2 hm3
         clear hm1 hm2 hm3 hb CP
         go_wp2_with fail
         refine hR _ _ ⟨⟨wy,BY.out⟩,rfl⟩ ?_
         clear hR R
         refine wpAnyC_step (f:=2) [9] (by kernel_rfl) rfl rfl (fun i hi=>?_)
         simp only [List.mem_cons,List.not_mem_nil,or_false] at hi
         subst hi
         refine ⟨_,rfl,fun R hR=>?_⟩
         obtain ⟨V0,hV0⟩:=HR4.out
         obtain ⟨V1,hV1⟩:=HR5.out
         have BRY:=Lib.hid (bel_below B4n.out BY.out)
         have CR:=Lib.hid (rplan_any wy p p' f f' V0 V1 (hV0.below BRY.out) (hV1.below BRY.out) HI.out HI'.out _ (namesL gl) (show SlS 0 (namesL gl) wy (.slice an (namesL gl).length cn) from SlAt.below SN.out BY.out) (by omega) (fun s hs=>Nat.le_trans (namesL_size gl s hs) (by omega)))
         clear hV0 hV1
         go_wp2_with fail
         refine CR.out.mono ?_
         rintro e wz ⟨vz,BB,rfl,hBB,hor,hb⟩
         have BZ:=Lib.hid (bel_below BY.out hb)
         have HMZ:=Lib.hid hor.mv
         have HMY:Hid (Below wy.heap.size wy wz):=hb
         clear hor hb CR
         go_wp2_with fail
         refine hR _ _ ⟨⟨wz,BZ.out⟩,rfl⟩ ?_
         clear hR R
         refine wpAnyC_mid (f:=1) [10] ⟨⟨wz,BZ.out⟩,rfl⟩ (by kernel_rfl) (fun d v c a w h=>by cases d <;> exact h) ?_
         simp only [headOps]
         repeat (refine wpTame_step (fun K hK=>?_);go_simp;refine hK _ ?_;clear hK K)
         refine wpTame_nil ?_
         refine wpAnyC_end (k:=11) (by decide) rfl rfl (by kernel_rfl) ?_
         have BZW:Hid (Below W.heap.size W wz):=bel_below (bel_below BW4.out B4n.out) BZ.out
         have HMW:=Lib.hid (HM.out.below HMY.out)
         have SNz:=Lib.hid (SlAt.below SN.out BZ.out)
         have HXz:=Lib.hid (HXn.out.below BZ.out)
         have HZz:=Lib.hid (HZn.out.below BZ.out)
         have HYz:=Lib.hid (HYn.out.later BZ.out)
         have HTz:=Lib.hid (HTn.out.later BZ.out)
         have AVz:=Lib.hid (AVn.out.below BZ.out)
         have IVz:=Lib.hid (IVn.out.below BZ.out)
         have BVz:=Lib.hid (BVn.out.below BZ.out)
         have JVz:=Lib.hid (JVn.out.below BZ.out)
         have BRZ:=Lib.hid (bel_below B4n.out BZ.out)
         have HR6:Hid (∃ V,RefRows Q3 wz p f V):=by obtain ⟨V,hV⟩:=HR4.out;exact ⟨V,hV.below BRZ.out⟩
         have HR7:Hid (∃ V,RefRows Q' wz p' f' V):=by obtain ⟨V,hV⟩:=HR5.out;exact ⟨V,hV.below BRZ.out⟩
         obtain ⟨PL,hPL⟩:∃ z,z=planV (fun g=>keyH (bs g)) f f' (setS (namesL gl)):=⟨_,rfl⟩
         rw [← hPL] at HLP HMZ
         obtain rfl:LP=PL:=HLP.out
         clear HLP hPL HM HMY SNb SX HR4 HR5 HXn HZn HYn HTn AVn IVn BVn JVn BRZ BZ BY BX BXW B4n BRY BNB OV HVE SN BW4 hnl
         have hlm:LP.length<=9223372036854775807:=by
          rcases HMW.out with ⟨h,_⟩ | ⟨q,cap,e,_,h1,h2,_⟩
          · rw [h];simp
          · unfold maxLen at h2;omega
         obtain ⟨ya,yc,rfl⟩:=HMW.out.slice
         obtain ⟨za,zc,rfl⟩:=HMZ.out.slice
         go_wp2_with fail
         refine (awake21_any _).mono ?_
         rintro e wq ⟨rfl,hbq⟩
         have BQ:=Lib.hid (bel_below BZW.out hbq)
         have BZQ:Hid (Below wz.heap.size wz wq):=hbq
         clear hbq
         go_wp2_with fail
         go_loopw [21,83] (fun _ i wr=>∃ k:Nat,k<=LP.length∧i = .int .i64 k∧Hid (Below wz.heap.size wz wr)) (fun _ i _=>LP.length - (intOf i).toNat)
         case atStart=>exact ⟨0,Nat.zero_le _,rfl,BZQ.out⟩
         case round =>
          obtain ⟨k,hk,rfl,hB⟩:=hrel
          by_cases hlt:k<LP.length
          · have hkI:(k:Int)<(LP.length:Int):=by omega
            have HA1:=HMW.out.below hB.out
            have HA2:=HMZ.out.below hB.out
            have hMI:∃ q:Nat,ya=some ⟨q,0,none⟩∧MvIn wr q LP:=by
             rcases HA1 with ⟨h,_⟩ | ⟨q,cap,e,_,_,_,h⟩
             · rw [h] at hlt;simp at hlt
             · injection e with e1 e2 e3;exact ⟨q,e1,h⟩
            have hMI2:∃ q:Nat,za=some ⟨q,0,none⟩∧MvIn wr q LP:=by
             rcases HA2 with ⟨h,_⟩ | ⟨q,cap,e,_,_,_,h⟩
             · rw [h] at hlt;simp at hlt
             · injection e with e1 e2 e3;exact ⟨q,e1,h⟩
            obtain ⟨qy,rfl,hMy⟩:=hMI
            obtain ⟨qz,rfl,hMz⟩:=hMI2
            obtain ⟨m0,m1,m2⟩:=hMy.all k hlt
            obtain ⟨n0,n1,n2⟩:=hMz.all k hlt
            have hqy:=hMy.lt
            have hqz:=hMz.lt
            obtain ⟨E,hE⟩:∃ z,z=elt LP k:=⟨_,rfl⟩
            rw [← hE] at m0 m1 m2 n0 n1 n2
            clear hE HA1 HA2 hMy hMz
            obtain ⟨eg,efr,eto⟩:=E
            dsimp only at m0 m1 m2 n0 n1 n2
            go_upto_region 18 with (fail)
            refine wp_region_calm (by kernel_rfl) (by kernel_rfl) ?_
            repeat (first | (go_big_quiet_step ((fail))) | (refine wpQuiet_step (fun K hK=>?_);go_simp;first | (refine hK _ ?_;clear hK K) | (apply Exists.intro;refine ⟨fun _=>?_,hK _ ?_⟩;(fail);clear hK K)))
            refine wpQuiet_nil ?_
            intro _ hw'
            obtain ⟨xq,hw''⟩:=hw'
            subst hw''
            have BX:=Lib.hid (bel_below hB.out xq.below)
            go_wp2_with fail
            go_roundw
            case rel=>go_light;exact ⟨k+1,by omega,by go_num,BX.out⟩
            case measure=>go_light;simp [intOf];omega
          · obtain rfl:k=LP.length:=by omega
            have hkI:¬ (LP.length:Int)<(LP.length:Int):=by omega
            obtain ⟨wr0,hwr0⟩:∃ z,z=wr:=⟨_,rfl⟩
            rw [← hwr0] at hB
            rw [← hwr0]
            clear hwr0
            go_wp2_with fail
            obtain ⟨nl,hnl⟩:∃ z,z=(namesL gl).length:=⟨_,rfl⟩
            have HNL:=Lib.hid hnl
            have hnl30:nl<=30:=by rw [hnl];exact namesL_len gl
            rw [← hnl]
            clear hnl hk
            go_loopw [23,98] (fun _ i wr=>∃ k:Nat,k<=nl∧i = .int .i64 k∧Hid (Below wz.heap.size wz wr)) (fun _ i _=>nl - (intOf i).toNat)
            case atStart=>exact ⟨0,Nat.zero_le _,rfl,hB.out⟩
            case round =>
             clear hB
             obtain ⟨k,hk,rfl,hB⟩:=hrel
             by_cases hlt2:k<nl
             · have hkI2:(k:Int)<(nl:Int):=by omega
               have hS11:=SNz.out.below hB.out
               rw [← HNL.out] at hS11
               obtain ⟨sb,so,rfl,_,hsz,hsc⟩:=SlAt.at hS11 k hlt2 _ (Below.refl _ _)
               obtain ⟨s,hs⟩:∃ z,z=nthT (namesL gl) k:=⟨_,rfl⟩
               replace hsc:wr.cell? ⟨sb,so+k,none⟩=some (.string (bs s)):=by rw [hs];exact hsc
               have hss:(bs s).size<=1000000:=by
                rw [hs]
                exact Nat.le_trans (namesL_size gl _ (by rw [nthT_eq (by rw [← HNL.out];exact hlt2)];exact List.getElem_mem _)) (by omega)
               have HSS:=Lib.hid hss
               clear hs hS11 hss
               obtain ⟨V0,hV0⟩:=HR6.out
               obtain ⟨V1,hV1⟩:=HR7.out
               have CK1:=Lib.hid fun wx (hb:Below wz.heap.size wz wx)=>keep_any wx f HI.out _ _ (AVz.out.below hb) (IVz.out.below hb) (bs s) HSS.out
               have CK2:=Lib.hid fun wx (hb:Below wz.heap.size wz wx)=>keep_any wx f' HI'.out _ _ (BVz.out.below hb) (JVz.out.below hb) (bs s) HSS.out
               have CR1:=Lib.hid fun wx (hb:Below wz.heap.size wz wx)=>rkeep_any wx p f V0 (hV0.below hb) HI.out (bs s) HSS.out
               have CR2:=Lib.hid fun wx (hb:Below wz.heap.size wz wx)=>rkeep_any wx p' f' V1 (hV1.below hb) HI'.out (bs s) HSS.out
               clear hV0 hV1
               obtain ⟨K1,hK1⟩:∃ z,z=keepK f (keyH (bs s)):=⟨_,rfl⟩
               obtain ⟨K2,hK2⟩:∃ z,z=keepK f' (keyH (bs s)):=⟨_,rfl⟩
               have HK1:Hid (K1.length=3):=show _=_ by rw [hK1];rfl
               have HK2:Hid (K2.length=3):=show _=_ by rw [hK2];rfl
               have HSA:Hid (sameI K1 K1=true∧sameI K2 K2=true):=⟨by unfold sameI;simp,by unfold sameI;simp⟩
               unfold KeepPost at CK1 CK2 CR1 CR2
               rw [← hK1] at CK1 CR1
               rw [← hK2] at CK2 CR2
               clear hK1 hK2
               go_upto_region 24 with (fail)
               have HXr:=HXz.out.below hB.out
               have HYr:=HYz.out.later hB.out
               have xc0:=HXr.c0
               have xc1:=HXr.c1
               have xcz:=HXr.z
               have yc0:=HYr.c0
               have yc1:=HYr.c1
               have yc2:=HYr.c2
               have yc3:=HYr.c3
               have ycz:=HYr.z
               clear HXr HYr
               refine wp_region_heads [0,1,3,4] 17 (fun w'=>∃ x:Later wr,w'=x.world) (by kernel_rfl) (by kernel_rfl) ⟨⟨{ wr with drawn:=wr.drawn+1 },(RowKit.Below.refl _ _).drew⟩,rfl⟩ (fun d v c a w h=>by cases d <;> exact h) ?_
               simp only [headOps]
               repeat (refine wpTame_step (fun K hK=>?_);go_simp;refine hK _ ?_;clear hK K)
               refine wpTame_nil ?_
               clear xc0 xc1 xcz yc0 yc1 yc2 yc3 ycz hsc hsz
               refine wpAnyC_step (f:=13) [2] (by kernel_rfl) rfl rfl (fun i hi=>?_)
               simp only [List.mem_cons,List.not_mem_nil,or_false] at hi
               subst hi
               refine ⟨_,rfl,fun R hR=>?_⟩
               go_wp2_with fail
               refine (CK1.out _ (bel_drew hB.out)).mono ?_
               rintro e wa ⟨va,rfl,hsa,hba⟩
               obtain ⟨a1,c1,rfl,_⟩:=hsa.slice
               have SA:=Lib.hid (hsa.base (B':=0) (Nat.zero_le _))
               have BA:=Lib.hid (bel_below (bel_drew (Below.refl wr.heap.size wr)) hba)
               clear hsa hba
               go_wp2_with fail
               refine hR _ _ ⟨⟨wa,BA.out⟩,rfl⟩ ?_
               clear hR R
               refine wpAnyC_step (f:=12) [5] (by kernel_rfl) rfl rfl (fun i hi=>?_)
               simp only [List.mem_cons,List.not_mem_nil,or_false] at hi
               subst hi
               refine ⟨_,rfl,fun R hR=>?_⟩
               go_wp2_with fail
               refine (CR1.out wa (bel_below hB.out BA.out)).mono ?_
               rintro e wb ⟨vb,rfl,hsb,hbb⟩
               obtain ⟨a2,c2,rfl,_⟩:=hsb.slice
               have SB:=Lib.hid (hsb.base (B':=0) (Nat.zero_le _))
               have SA2:=Lib.hid (SA.out.below hbb)
               have BB:=Lib.hid (bel_below BA.out hbb)
               clear hsb hbb SA BA
               go_wp2_with fail
               refine hR _ _ ⟨⟨wb,BB.out⟩,rfl⟩ ?_
               clear hR R
               have CI1:=Lib.hid (rints_any wb _ _ K1 K1 (show SlAt 0 (fun i=>.int .i64 (nth K1 i)) K1.length wb _ by rw [HK1.out];exact SA2.out) (show SlAt 0 (fun i=>.int .i64 (nth K1 i)) K1.length wb _ by rw [HK1.out];exact SB.out) (by rw [HK1.out];omega))
               refine wpAnyC_step (f:=11) [6] (by kernel_rfl) rfl rfl (fun i hi=>?_)
               simp only [List.mem_cons,List.not_mem_nil,or_false] at hi
               subst hi
               refine ⟨_,rfl,fun R hR=>?_⟩
               go_wp2_with fail
               refine CI1.out.mono ?_
               rintro e wd ⟨rfl,hbd⟩
               rw [HSA.out.1]
               have BD:=Lib.hid (bel_below BB.out hbd)
               clear hbd SA2 SB BB CI1
               go_wp2_with fail
               refine hR _ _ ⟨⟨wd,BD.out⟩,rfl⟩ ?_
               clear hR R
               have HZr:=HZz.out.below hB.out
               have HTr:=HTz.out.later hB.out
               have zc0:=HZr.c0
               have zc1:=HZr.c1
               have zcz:=HZr.z
               have tc0:=HTr.c0
               have tc1:=HTr.c1
               have tc2:=HTr.c2
               have tc3:=HTr.c3
               have tcz:=HTr.z
               clear HZr HTr
               refine wpAnyC_mid (f:=5) [7,8,9,10,12,13] ⟨⟨wd,BD.out⟩,rfl⟩ (by kernel_rfl) (fun d v c a w h=>by cases d <;> exact h) ?_
               simp only [headOps]
               repeat (refine wpTame_step (fun K hK=>?_);go_simp;refine hK _ ?_;clear hK K)
               refine wpTame_nil ?_
               clear zc0 zc1 zcz tc0 tc1 tc2 tc3 tcz
               refine wpAnyC_step (f:=4) [11] (by kernel_rfl) rfl rfl (fun i hi=>?_)
               simp only [List.mem_cons,List.not_mem_nil,or_false] at hi
               subst hi
               refine ⟨_,rfl,fun R hR=>?_⟩
               go_wp2_with fail
               refine (CK2.out _ (bel_below hB.out BD.out)).mono ?_
               rintro e wa ⟨va,rfl,hsa,hba⟩
               obtain ⟨a3,c3,rfl,_⟩:=hsa.slice
               have SA:=Lib.hid (hsa.base (B':=0) (Nat.zero_le _))
               have BA:=Lib.hid (bel_below BD.out hba)
               clear hsa hba
               go_wp2_with fail
               refine hR _ _ ⟨⟨wa,BA.out⟩,rfl⟩ ?_
               clear hR R
               refine wpAnyC_step (f:=3) [14] (by kernel_rfl) rfl rfl (fun i hi=>?_)
               simp only [List.mem_cons,List.not_mem_nil,or_false] at hi
               subst hi
               refine ⟨_,rfl,fun R hR=>?_⟩
               go_wp2_with fail
               refine (CR2.out wa (bel_below hB.out BA.out)).mono ?_
               rintro e wb ⟨vb,rfl,hsb,hbb⟩
               obtain ⟨a4,c4,rfl,_⟩:=hsb.slice
               have SB:=Lib.hid (hsb.base (B':=0) (Nat.zero_le _))
               have SA2:=Lib.hid (SA.out.below hbb)
               have BB:=Lib.hid (bel_below BA.out hbb)
               clear hsb hbb SA BA
               go_wp2_with fail
               refine hR _ _ ⟨⟨wb,BB.out⟩,rfl⟩ ?_
               clear hR R
               have CI1:=Lib.hid (rints_any wb _ _ K2 K2 (show SlAt 0 (fun i=>.int .i64 (nth K2 i)) K2.length wb _ by rw [HK2.out];exact SA2.out) (show SlAt 0 (fun i=>.int .i64 (nth K2 i)) K2.length wb _ by rw [HK2.out];exact SB.out) (by rw [HK2.out];omega))
               refine wpAnyC_step (f:=2) [15] (by kernel_rfl) rfl rfl (fun i hi=>?_)
               simp only [List.mem_cons,List.not_mem_nil,or_false] at hi
               subst hi
               refine ⟨_,rfl,fun R hR=>?_⟩
               go_wp2_with fail
               refine CI1.out.mono ?_
               rintro e we ⟨rfl,hbe⟩
               rw [HSA.out.2]
               have BE:=Lib.hid (bel_below BB.out hbe)
               clear hbe SA2 SB BB CI1 BD
               go_wp2_with fail
               refine hR _ _ ⟨⟨we,BE.out⟩,rfl⟩ ?_
               clear hR R
               refine wpAnyC_mid (f:=1) [16] ⟨⟨we,BE.out⟩,rfl⟩ (by kernel_rfl) (fun d v c a w h=>by cases d <;> exact h) ?_
               simp only [headOps]
               repeat (refine wpTame_step (fun K hK=>?_);go_simp;refine hK _ ?_;clear hK K)
               refine wpTame_nil ?_
               refine wpAnyC_end (k:=17) (by decide) rfl rfl (by kernel_rfl) ?_
               have BX:=Lib.hid (bel_below hB.out BE.out)
               go_wp2_with fail
               go_roundw
               case rel=>go_light;exact ⟨k+1,by omega,by go_num,BX.out⟩
               case measure=>go_light;simp [intOf];omega
             · obtain rfl:k=nl:=by omega
               have hkI2:¬ (k:Int)<(k:Int):=by omega
               go_wp2_with fail
               go_ret
               exact ⟨rfl,bel_below BZW.out hB.out⟩
 · obtain ⟨rfl,hB1⟩:=hm
   go_wp2_with fail
   refine (awake21_any _).mono ?_
   rintro e w2 ⟨rfl,hB2⟩
   go_wp2_with fail
   go_ret
   exact ⟨rfl,bel_below (bel_below hB1 (bel_alloc (RowKit.Below.refl _ _) _)) hB2⟩
set_option maxRecDepth 100000 in
theorem rdvPlans_walk {H:Type} (enc:TypeId × Value->H) (W:World) (v0:Value) (d0:DataW H) (p0:List MemPlace) {r0:Reach} {b0:Nat} (ok0:Value.okWide Tryz.prog W r0 b0 22 v0) (h0:DataW.Trod enc Tryz.prog W 0 (fun _=>true) true 22 v0 d0 p0)
 (hlt0:∀ x∈p0,x.block<W.heap.size) (sz0:∀ n∈d0.weights Tryz.prog 22,n<=reachBytes) (v1:Value) (d1:DataW H) (p1:List MemPlace) {r1:Reach} {b1:Nat} (ok1:Value.okWide Tryz.prog W r1 b1 23 v1) (h1:DataW.Trod enc Tryz.prog W 0 (fun _=>true) true 23 v1 d1 p1)
 (hlt1:∀ x∈p1,x.block<W.heap.size) (sz1:∀ n∈d1.weights Tryz.prog 23,n<=reachBytes) (v2:Value) (d2:DataW H) (p2:List MemPlace) {r2:Reach} {b2:Nat} (ok2:Value.okWide Tryz.prog W r2 b2 23 v2) (h2:DataW.Trod enc Tryz.prog W 0 (fun _=>true) true 23 v2 d2 p2)
 (hlt2:∀ x∈p2,x.block<W.heap.size) (sz2:∀ n∈d2.weights Tryz.prog 23,n<=reachBytes) (v3:Value) (d3:DataW H) (p3:List MemPlace) {r3:Reach} {b3:Nat} (ok3:Value.okWide Tryz.prog W r3 b3 24 v3) (h3:DataW.Trod enc Tryz.prog W 0 (fun _=>true) true 24 v3 d3 p3)
 (hlt3:∀ x∈p3,x.block<W.heap.size) (sz3:∀ n∈d3.weights Tryz.prog 24,n<=reachBytes) (hg:HandleAt W) :
 Calls Tryz.prog 3 #[v0,v1,v2,v3] W fun e W'=>e = .returned (.bool true)∧RowKit.Below W.heap.size W W':=by
 obtain ⟨ids,hi,hp⟩:=ids_open ok0 h0
 obtain ⟨acts,ha,hao⟩:=acts_open ok1 h1
 obtain ⟨acts2,ha2,hao2⟩:=acts_open ok2 h2
 obtain ⟨l,hl⟩:=strs_open ok3 h3
 exact rdvPlans_main W hg v0 v1 v2 v3 ids acts acts2 l hi hp ha hao ha2 hao2 hl
end
end Go.Proofs.YtahiahjhpakeiaaGreatDoor
