

/-
  WigwagHanded walked.
-/
import Derived.Test.YtacdgfkahppmdaaTabS
import Derived.Test.YtacdgfkahppmdaaTabN
namespace Go.Proofs.Ytacdgfkahppmdaa
open Go.RowKit Go.Maps Go.Sort Go.WideShapes Go.ChangeShapes Go.Deep
set_option linter.unusedVariables false
set_option linter.unusedSimpArgs false
attribute [local go_sem] later_cell later_frozen later_lt cell_set_off cell_set_block keptT_cell keptT_lt

theorem cellsId1 : Try.prog.cellsOf 38 = 1 := by kernel_rfl
set_option maxRecDepth 100000 in
theorem ids_open {H : Type} {enc : TypeId × Value → H} {W : World} {v0 : Value} {d0 : DataW H} {p0 : List MemPlace} {r0 : Reach} {b0 : Nat} (ok0 : Value.okWide Try.prog W r0 b0 47 v0) (h0 : DataW.Trod enc Try.prog W 0 (fun _ => true) true 47 v0 d0 p0) :
    ∃ l : List Int, SlAt 0 (fun i => .int .u64 (nth l i)) l.length W v0 := by
  obtain ⟨a, n, c, rfl⟩ := okWide_slice Try.underlying47 ok0
  obtain ⟨fuel, hf⟩ := h0
  obtain ⟨l, hl, hw⟩ := ints_of_trod Try.underlying47 cellsId1 Try.underlying38 hf
  exact ⟨l, hl⟩
/-! ### What has been handed on -/
def aL (L : List Ent) (q : Ent → Bool) : List Ent := L.filter fun e => !q e
def bL (L : List Ent) (q : Ent → Bool) : List Ent := L.filter q
theorem aL_step (L : List Ent) (q p : Ent → Bool) : stayE p (aL L q) = aL L fun e => q e || p e := by
  unfold stayE aL
  rw [List.filter_filter]
  congr 1
  funext e
  dsimp only
  cases p e <;> cases q e <;> rfl
theorem bL_step {L : List Ent} (hL : OrdE L) (hc : ∀ e ∈ L, cleanE e = e) (q p : Ent → Bool) : putsE (bL L q) ((aL L q).filter p) = bL L fun e => q e || p e := by
  unfold bL aL
  rw [List.filter_filter, put_back hL hc]
  congr 1
  funext e
  cases p e <;> cases q e <;> rfl
theorem aL_sub {L : List Ent} {q : Ent → Bool} {e : Ent} (h : e ∈ aL L q) : e ∈ L := (List.mem_filter.1 h).1
theorem aL_clean {L : List Ent} (hc : ∀ e ∈ L, cleanE e = e) (q p : Ent → Bool) : ((aL L q).filter p).map cleanE = (aL L q).filter p := map_clean (fun e he => hc e (aL_sub he)) p
theorem aL_start (L : List Ent) : aL L (fun _ => false) = L := filter_all fun _ _ => rfl
theorem bL_start (L : List Ent) : bL L (fun _ => false) = [] := by unfold bL; simp
theorem aL_end (L : List Ent) {q : Ent → Bool} (h : ∀ e, q e = true) : aL L q = [] := by
  unfold aL
  rw [List.filter_eq_nil_iff]
  intro e _
  rw [h e]; simp
theorem bL_end (L : List Ent) {q : Ent → Bool} (h : ∀ e, q e = true) : bL L q = L := filter_all fun e _ => h e
theorem bL_len (L : List Ent) (q : Ent → Bool) : (bL L q).length ≤ L.length := List.length_filter_le _ _
theorem aL_len (L : List Ent) (q p : Ent → Bool) : ((aL L q).filter p).length ≤ L.length := Nat.le_trans (List.length_filter_le _ _) (List.length_filter_le _ _)
theorem hand_two {D : Nat → Prop} {W w : World} {X xb N k : Nat} {l L : List Ent} {f : Int → Option Value} {C : List Int} {cv : Value} (h : Hand D W w X [PK l k, [], PK l k] xb N f C cv) (e : PK l k = putsE [] (cutL l)) (hL : L = putsE [] (cutL l)) : Hand D W w X [aL L (fun _ => false), bL L (fun _ => false), L] xb N f C cv := by
  rw [aL_start, bL_start, hL, ← e]; exact h
theorem hand_back {D : Nat → Prop} {W w : World} {X xb N : Nat} {L M : List Ent} {q p : Ent → Bool} {f : Int → Option Value} {C : List Int} {cv : Value} (hL : OrdE L) (hc : ∀ e ∈ L, cleanE e = e) (hM : M = (aL L q).filter p) (h : Hand D W w X [stayE p (aL L q), putsE (bL L q) (M.take M.length), L] xb N f C cv) :
    Hand D W w X [aL L (fun e => q e || p e), bL L (fun e => q e || p e), L] xb N f C cv := by
  rw [List.take_length, hM, bL_step hL hc, aL_step] at h; exact h
theorem hand_end {D : Nat → Prop} {W w : World} {X xb N : Nat} {L : List Ent} {q p : Ent → Bool} {f : Int → Option Value} {C : List Int} {cv : Value} (hp : p = inE 0 0) (h : Hand D W w X [aL L (fun e => q e || p e), bL L (fun e => q e || p e), L] xb N f C cv) : Fam D W w X [[], L, L] := by
  have hq : ∀ e, (fun e => q e || p e) e = true := fun e => by
    have : p e = true := by rw [hp]; exact inB_same _ _
    simp [this]
  have := h.fam
  rw [aL_end L hq, bL_end L hq] at this
  exact this
/-- The places that are gone round: the first of them, and 0 at last. -/
def cutsC (ids : List Int) (m : Nat) : List Int := ids.take m ++ [0]
theorem cutsC_len {ids : List Int} {m : Nat} (hm : m ≤ ids.length) : (cutsC ids m).length = m + 1 := by unfold cutsC; simp; omega
theorem hand_cells {D : Nat → Prop} {W w w' : World} {X xb N : Nat} {ls : List (List Ent)} {f : Int → Option Value} {vb : Value} {ids : List Int} {m : Nat} (h : Hand D W w X ls xb N f [] (.slice none 0 0)) (hb : Below w.heap.size w w')
    (ho : w'.ownsRow w.heap.size 38 1 vb (m + 1) (((List.range m).map fun i => Value.int .u64 (nth ids i)) ++ (List.range 1).map fun _ => Value.int .u64 0)) (hm : m ≤ ids.length) :
    ∃ (D' : Nat → Prop) (g cap : Nat), vb = .slice (some ⟨g, 0, none⟩) (m + 1) cap ∧ Hand D' W w' X ls xb N f (cutsC ids m) (.slice (some ⟨g, 0, none⟩) (m + 1) cap) := by
  have hs := own_slAt ho
  rcases ho.2 with ⟨_, h0⟩ | ⟨g, cap, cur, rfl, hg, hgg, _⟩
  · omega
  · obtain ⟨a', cap', e, _, _, _, h3⟩ := hs
    cases e
    obtain ⟨b, off, e, h4, h5, h6⟩ := h3.resolve_left (by omega)
    cases e
    have hl := cutsC_len hm
    obtain ⟨D', hD⟩ := h.cells hb (C := cutsC ids m) (cap := cap) hg h5 (fun i hi => by
      rw [hl] at hi
      rw [h6 i (by omega)]
      congr 1
      have e : (((List.range m).map fun i => Value.int .u64 (nth ids i)) ++ (List.range 1).map fun _ => Value.int .u64 0) = (cutsC ids m).map (Value.int .u64) := by
        unfold cutsC
        rw [List.map_append]
        congr 1
        apply List.ext_getElem (by simp; omega)
        intro j h1 h2
        simp at h1
        simp [nth_eq (show j < ids.length by omega)]
      rw [e]
      have hi' : i < (cutsC ids m).length := by omega
      show (List.map (Value.int IntKind.u64) (cutsC ids m)).getD i undef = _
      rw [nth_eq hi', List.getD_eq_getElem?_getD, List.getElem?_map, List.getElem?_eq_getElem hi']
      rfl)
    rw [hl] at hD
    exact ⟨D', g, cap, rfl, hD⟩
/-- Three tables, the window among them: as they begin. -/
theorem hand_start (W : World) : ∃ D, Hand D W ((((W.alloc (.cells #[.slice none 0 0] 24)).alloc (.cells #[.slice none 0 0] 24)).alloc (.cells #[.slice none 0 0] 24)).alloc (.cells #[.map none] 50)) W.heap.size [[], [], []] (W.heap.size + 3) 0 (fun _ => none) [] (.slice none 0 0) := by
  have hF := (((Fam.nil W W.heap.size).snoc (by simp)).snoc (by simp)).snoc (by simp)
  obtain ⟨w3, hw3⟩ : ∃ z, z = (((W.alloc (.cells #[.slice none 0 0] 24)).alloc (.cells #[.slice none 0 0] 24)).alloc (.cells #[.slice none 0 0] 24)) := ⟨_, rfl⟩
  have hs : w3.heap.size = W.heap.size + 3 := by rw [hw3]; simp
  rw [← hw3] at hF ⊢
  clear hw3
  have hb : Below w3.heap.size w3 (w3.alloc (.cells #[.map none] 50)) := bel_alloc (Below.refl _ _) _
  refine ⟨_, fun b => b = w3.heap.size, hF.later hb, ⟨none, 0, ?_, ?_, by simp; omega, hs.symm, Nat.le_refl _, fun _ => rfl, fun mb h => by cases h⟩, ?_, ?_, Or.inl rfl⟩
  · rw [← hs]; simp [go_sem]
  · rw [← hs]; simp [go_sem]
  · rintro b rfl; exact Or.inr ⟨Nat.le_refl _, by simp⟩
  · rintro b (hb | hb)
    · exact hb.elim
    · omega
theorem slI_one (w : World) (v : Value) (t : TypeId) (g : Nat) (hg : g = w.heap.size) : SlAt 0 (fun _ => v) 1 (w.alloc (.cells #[v] t)) (.slice (some ⟨g, 0, none⟩) 1 1) := by
  subst hg
  refine ⟨_, 1, rfl, Nat.le_refl _, by simp [maxLen], (fun h => by cases h), Or.inr ⟨w.heap.size, 0, rfl, Nat.zero_le _, by simp, fun i hi => ?_⟩⟩
  obtain rfl : i = 0 := by omega
  simp [go_sem]
noncomputable def idI : TypeInfo := (Try.prog.info? 38).get (by kernel_rfl)
theorem idI_at : Try.prog.info? 38 = some idI := by kernel_rfl
set_option maxRecDepth 100000 in
set_option maxHeartbeats 16000000 in
theorem handed_main (W : World) (v u : Value) (l : List Ent) (ids : List Int) (hE : EntsIn (fun _ => True) l W v) (hu : SlAt 0 (fun i => .int .u64 (nth ids i)) ids.length W u) :
    Calls Try.prog 8 #[v, u] W fun e W' => e = .returned (.bool true) ∧ Below W.heap.size W W' := by
  obtain ⟨a0, c0, rfl, _⟩ := hE.slice
  obtain ⟨a1, c1, rfl, _⟩ := hu.slice
  have HE := Lib.hid hE
  have HI := Lib.hid hu
  obtain ⟨i0, hi, hz0, hz1, hz2⟩ : ∃ i0, Try.prog.info? 38 = some i0 ∧ i0.zero = some (Value.int .u64 0) ∧ i0.size = 1 ∧ i0.bytes = 8 := ⟨idI, idI_at, by kernel_rfl, by kernel_rfl, by kernel_rfl⟩
  obtain ⟨D0, hD0⟩ := hand_start W
  have H0 := Lib.hid hD0
  clear hE hu hD0
  go_enter Try.func8, Try.ntmps8
  go_wp2_with fail
  obtain ⟨w4, hw4⟩ : ∃ z, z = ((((W.alloc (.cells #[.slice none 0 0] 24)).alloc (.cells #[.slice none 0 0] 24)).alloc (.cells #[.slice none 0 0] 24)).alloc (.cells #[.map none] 50)) := ⟨_, rfl⟩
  obtain ⟨X, hX⟩ : ∃ z, z = W.heap.size := ⟨_, rfl⟩
  obtain ⟨xb, hxb⟩ : ∃ z, z = X + 3 := ⟨_, rfl⟩
  have es1 : (W.alloc (.cells #[.slice none 0 0] 24)).heap.size = W.heap.size + 1 := by simp
  have CC := H0.out.come 1 5 0 0 (by omega) (by omega) (by omega) (by omega) rfl (by omega) (by omega) (by omega)
  rw [← hw4] at CC ⊢
  try simp only [← hX] at CC ⊢
  try rw [← hxb] at CC ⊢
  clear hw4 hX hxb H0 es1
  refine CC.mono ?_
  rintro e w5 ⟨rfl, D, cm, hF5⟩
  obtain ⟨f1, hf1⟩ : ∃ z, z = setX (fun _ => none) 1 (.agg #[.int .i64 5, .int .u64 cm]) := ⟨_, rfl⟩
  have F0 : Hid (Hand D W w5 X [PK l 0, [], PK l 0] xb 1 f1 [] (.slice none 0 0)) := by rw [hf1]; exact hF5
  have HF1 : Hid (f1 2 = none) := show _ = _ by rw [hf1]; rfl
  clear CC hF5 hf1
  go_wp2_with fail
  go_loopw [11] (fun i wr => ∃ k : Nat, k ≤ l.length ∧ k ≤ 30 ∧ i = .int .i64 k ∧ Hid (Hand D W wr X [PK l k, [], PK l k] xb 1 f1 [] (.slice none 0 0))) (fun i _ => l.length - (intOf i).toNat)
  case atStart => exact ⟨0, Nat.zero_le _, Nat.zero_le _, rfl, F0.out⟩
  case round =>
    obtain ⟨k, hk, hk30, rfl, hF⟩ := hrel
    by_cases hlt : k < l.length
    · by_cases hl30 : k < 30
      · obtain ⟨b, off, fa1, fc1, rfl, _, hbz, d0, d1, d2, d3, d4, dS⟩ := (HE.out.below hF.out.bel).at k hlt
        have hsu := puts_step l hlt
        have hroom := puts_room l (k := k) (by omega) (entAt l k)
        obtain ⟨E, hEe⟩ : ∃ z, z = entAt l k := ⟨_, rfl⟩
        have HEe := Lib.hid hEe
        rw [← hEe] at d0 d1 d2 d3 d4 dS hsu hroom
        obtain ⟨eg', ec, efs, ea, et⟩ := E
        dsimp only at d0 d1 d2 d3 d4 dS
        have DS1 := Lib.hid dS.slAt
        have HSU : Hid (PK l (k + 1) = putE (PK l k) (cleanE (cutE ⟨eg', ec, efs, ea, et⟩))) := hsu
        have HRM : Hid (fullB (PK l k) (cutE ⟨eg', ec, efs, ea, et⟩) = false) := hroom
        clear hEe dS hsu hroom
        have F1 := hF
        go_wp2_with fail
        refine (cut_any _ ⟨eg', ec, efs, ea, et⟩ (.slice fa1 efs.length fc1) DS1.out).mono ?_
        rintro e wc1 ⟨vc1, rfl, hsc1, hbc1⟩
        have FC1 := Lib.hid (F1.out.later hbc1)
        have SC1 := Lib.hid hsc1
        obtain ⟨fx1, qx1, rfl, _⟩ := hsc1.slice
        have CP1 := Lib.hid (FC1.out.put (i := 0) rfl (cutE ⟨eg', ec, efs, ea, et⟩) _ (SC1.out.base (Nat.zero_le _)) (Nat.le_trans (cutE_len _) (by omega)) HRM.out)
        obtain ⟨x5, hx5⟩ : ∃ z, z = cutE ⟨eg', ec, efs, ea, et⟩ := ⟨_, rfl⟩
        rw [← hx5] at CP1 HSU HRM ⊢
        have HX5 := Lib.hid hx5
        obtain ⟨g5, c5, fs5, any5, t5⟩ := x5
        rw [← HSU.out] at CP1
        unfold EntV at CP1 ⊢
        dsimp only at CP1 ⊢
        rw [show sV g5 = .string (bs g5) from rfl] at CP1 ⊢
        rw [HX5.out] at HSU HRM
        clear hsc1 hbc1 hx5 F1
        clear d0 d1 d2 d3 d4
        go_wp2_with fail
        refine CP1.out.mono ?_
        rintro e w6 ⟨rfl, hF6, _⟩
        have F2 := Lib.hid hF6
        obtain ⟨b', off', fa2, fc2, e2, _, hbz2, d0, d1, d2, d3, d4, dS⟩ := (HE.out.below hF6.bel).at k hlt
        cases e2
        rw [← HEe.out] at d0 d1 d2 d3 d4 dS
        dsimp only at d0 d1 d2 d3 d4 dS
        have DS2 := Lib.hid dS.slAt
        clear hF6 CP1 FC1 SC1 dS HX5
        go_wp2_with fail
        refine (cut_any _ ⟨eg', ec, efs, ea, et⟩ (.slice fa2 efs.length fc2) DS2.out).mono ?_
        rintro e wc2 ⟨vc2, rfl, hsc2, hbc2⟩
        have FC2 := Lib.hid (F2.out.later hbc2)
        have SC2 := Lib.hid hsc2
        obtain ⟨fx2, qx2, rfl, _⟩ := hsc2.slice
        have CP2 := Lib.hid (FC2.out.put (i := 2) rfl (cutE ⟨eg', ec, efs, ea, et⟩) _ (SC2.out.base (Nat.zero_le _)) (Nat.le_trans (cutE_len _) (by omega)) HRM.out)
        obtain ⟨x5, hx5⟩ : ∃ z, z = cutE ⟨eg', ec, efs, ea, et⟩ := ⟨_, rfl⟩
        rw [← hx5] at CP2 HSU HRM ⊢
        have HX5 := Lib.hid hx5
        obtain ⟨g5, c5, fs5, any5, t5⟩ := x5
        rw [← HSU.out] at CP2
        unfold EntV at CP2 ⊢
        dsimp only at CP2 ⊢
        rw [show sV g5 = .string (bs g5) from rfl] at CP2 ⊢
        rw [HX5.out] at HSU HRM
        clear hsc2 hbc2 hx5 F2
        clear d0 d1 d2 d3 d4
        go_wp2_with fail
        refine CP2.out.mono ?_
        rintro e w8 ⟨rfl, hF8, _⟩
        have F8 : Hid (Hand D W w8 X [PK l (k + 1), [], PK l (k + 1)] xb 1 f1 [] (.slice none 0 0)) := hF8
        clear hF8 CP2 FC2 SC2
        go_wp2_with fail
        go_roundw
        case rel => go_light; exact ⟨k + 1, by omega, by omega, by go_num, F8.out⟩
        case measure => go_light; simp [intOf]; omega
      · have hend : Hid (PK l k = putsE [] (cutL l)) := show _ = _ by unfold PK cutL; rw [show k = 30 by omega]
        by_cases h20 : 20 < ids.length
        · obtain ⟨b1, o1, ea1, _, hbz1, _⟩ := SlAt.at HI.out 0 (by omega) _ (Below.refl _ _)
          subst ea1
          have hi1 : SlAt 0 (fun i => .int .u64 (nth ids i)) 20 W (.slice (some ⟨b1, o1, none⟩) 20 c1) := SlAt.take HI.out (by omega)
          have hm20 : 20 ≤ ids.length := by omega
          have hi2 : ∃ sl : Value, sl = Value.slice (some ⟨b1, o1, none⟩) 20 c1 := ⟨_, rfl⟩
          have HI2 := Lib.hid hi1
          clear hi1
          go_upto_region 14 with (fail)
          obtain ⟨sl, hsl⟩ := hi2
          rw [← hsl]
          have hi3 := HI2.out
          rw [← hsl] at hi3
          obtain ⟨m, hm⟩ : ∃ z : Nat, z = 20 := ⟨_, rfl⟩
          rw [← hm] at hi3 hm20
          have hmm : m ≤ 20 := by omega
          have HI1 := Lib.hid hi3
          clear hi3 HI2 hsl hm
          go_wp2_with (at_builtin; go_loud (refine wpList_app rfl _ _ 47 rfl wr.heap.size 38 i0 (.int .u64 0) 8 Try.underlying47 hi hz0 hz1 hz2 rfl _ 0 [] rfl (World.ownsRow_made wr #[] 0 (Nat.le_refl _) (by simp [maxLen]) rfl) 0 (fun i => .int .u64 (nth ids i)) m _ rfl (HI1.out.below (bel_alloc hF.out.bel _)) (fun _ => rfl) ?a1x11 ?a2x11 ?a3x11 ?_))
          case a1x11 => simp only [maxLen]; omega
          case a2x11 => omega
          case a3x11 => simp
          intro va wa ho hg
          have BA : Hid (Below wr.heap.size wr wa) := (bel_alloc (Below.refl _ wr) _).grown hg (by simp) (fun q hq => by
            have h := World.ownsRow_made wr (e := 38) (size := 1) (base := wr.heap.size) #[] 0 (Nat.le_refl _) (by simp [maxLen]) rfl
            exact (h.lt q hq).1)
          obtain ⟨aa, ca, rfl⟩ := own_shape ho
          have HO : Hid (wa.ownsRow wr.heap.size 38 1 (.slice aa m ca) m ((List.range m).map fun i => Value.int .u64 (nth ids i))) := show World.ownsRow _ _ _ _ _ _ _ by simpa using ho
          clear ho hg
          go_wp2_with (at_builtin; go_loud (refine wpList_app rfl _ _ 47 rfl wr.heap.size 38 i0 (.int .u64 0) 8 Try.underlying47 hi hz0 hz1 hz2 rfl (.slice aa m ca) m ((List.range m).map fun i => Value.int .u64 (nth ids i)) rfl (ownsRow_same HO.out fun q hq => (bel_alloc (Below.refl _ wa) (.cells #[.int .u64 0] 38)).block q (HO.out.lt q hq).2) 0 (fun _ => .int .u64 0) 1 _ rfl (slI_one _ _ 38 _ rfl) (fun _ => rfl) ?b1x11 ?b2x11 ?b3x11 ?_))
          case b1x11 => simp only [maxLen]; omega
          case b2x11 => omega
          case b3x11 => have := BA.out.size; simp; omega
          intro vb wb ho hg
          have BB : Hid (Below wr.heap.size wr wb) := (bel_alloc BA.out _).grown hg (by have := BA.out.size; simp; omega) (fun q hq => (HO.out.lt q hq).1)
          obtain ⟨D2, gc, qc, rfl, HC⟩ := hand_cells hF.out BB.out ho (by omega)
          obtain ⟨L, hL⟩ : ∃ z, z = putsE [] (cutL l) := ⟨_, rfl⟩
          have H1 := Lib.hid (hand_two HC hend.out hL)
          have HSM : Hid (∀ e ∈ L, e.g.length ≤ 1000000) := fun e he => by rw [hL] at he; have := cut_mem he; omega
          have HCL : Hid (∀ e ∈ L, cleanE e = e) := fun e he => by rw [hL] at he; exact cut_clean he
          have HOR : Hid (OrdE L) := by rw [hL]; exact cut_ord l
          have hfew : L.length ≤ 30 := by rw [hL]; exact cut_few l
          have HLN := Lib.hid (cutsC_len hm20)
          clear hL hend HC ho hg HO BA BB hF
          go_wp2_with fail
          go_loopw [12, 74] (fun la ii wr => ∃ (i : Nat) (a : Int) (q : Ent → Bool) (D : Nat → Prop) (f : Int → Option Value) (Lc cm : Int) (N : Nat), i ≤ m + 1 ∧ ii = .int .i64 i ∧ la = .int .u64 a ∧ 0 ≤ Lc ∧ Lc ≤ i ∧ N ≤ i + 1 ∧ Hid ((f 2).getD zOne = .agg #[.int .i64 Lc, .int .u64 cm]) ∧ Hid (Hand D W wr X [aL L q, bL L q, L] xb N f (cutsC ids m) (.slice (some ⟨gc, 0, none⟩) (m + 1) qc))) (fun _ ii _ => m + 1 - (intOf ii).toNat)
          case atStart => exact ⟨0, 0, _, _, _, 0, 0, 1, Nat.zero_le _, rfl, rfl, Int.le_refl _, Int.le_refl _, Nat.le_refl _, (show (f1 2).getD zOne = _ by rw [HF1.out]; rfl), H1.out⟩
          case round =>
            obtain ⟨i, a, q, D, f, Lc, cm, N, hi, rfl, rfl, hLc0, hLc, hNi, hfc, hH⟩ := hrel
            by_cases hlti : i < m + 1
            · obtain ⟨g', cap', e9, hgz, hcell⟩ := Hand.at hH.out (i := i) (by rw [HLN.out]; omega)
              rw [HLN.out] at e9
              cases e9
              rw [Nat.zero_add] at hcell
              obtain ⟨c, hc⟩ : ∃ z, z = nth (cutsC ids m) i := ⟨_, rfl⟩
              rw [← hc] at hcell
              clear hc
              by_cases hca : c = a
              · have hcb : (c == a) = true := by simpa using hca
                subst hca
                go_wp2_with fail
                go_roundw
                case rel => go_light; exact ⟨i + 1, _, q, D, f, Lc, cm, N, by omega, by go_num, rfl, hLc0, by omega, by omega, hfc.out, hH.out⟩
                case measure => go_light; simp [intOf]; omega
              · have hcb : (c == a) = false := by simpa using hca
                have CC := Lib.hid (hH.out.come 2 ((i : Int) + 1) Lc cm (by omega) (by omega) (by omega) (by omega) hfc.out hLc0 (by omega) (by omega))
                clear hca hfc
                go_wp2_with fail
                refine CC.out.mono ?_
                rintro e w6 ⟨rfl, D6, cm6, hF6⟩
                obtain ⟨f6, hf6⟩ : ∃ z, z = setX f 2 (.agg #[.int .i64 ((i : Int) + 1), .int .u64 cm6]) := ⟨_, rfl⟩
                have HF6 : Hid ((f6 2).getD zOne = .agg #[.int .i64 ((i : Int) + 1), .int .u64 cm6]) := show _ = _ by rw [hf6, setX_same]; rfl
                have H6 : Hid (Hand D6 W w6 X [aL L q, bL L q, L] xb (N + 1) f6 (cutsC ids m) (.slice (some ⟨gc, 0, none⟩) (m + 1) qc)) := by rw [hf6]; exact hF6
                clear hF6 hf6 CC hH hcell hgz
                have CM := H6.out.move (i := 0) rfl (fun e he => HSM.out e (aL_sub he)) a c
                obtain ⟨p1, hp1⟩ : ∃ z, z = inE a c := ⟨_, rfl⟩
                rw [← hp1, aL_clean HCL.out q p1] at CM
                have HMC : Hid (∀ e ∈ (aL L q).filter p1, e.fs.length ≤ 16) := fun e he => few_fs (HCL.out e (aL_sub (List.mem_filter.1 he).1))
                have hMl := aL_len L q p1
                have hbl := bL_len L q
                obtain ⟨M, hM⟩ : ∃ z, z = (aL L q).filter p1 := ⟨_, rfl⟩
                rw [← hM] at CM HMC hMl
                have HM := Lib.hid hM
                clear hM
                have CM := Lib.hid CM
                go_wp2_with fail
                refine CM.out.mono ?_
                rintro e w7 ⟨v7, rfl, D7, hF7, hE7⟩
                obtain ⟨a7, c7, rfl, _⟩ := hE7.slice
                have H7 : Hid (Hand D7 W w7 X [stayE p1 (aL L q), bL L q, L] xb ((N + 1)) f6 (cutsC ids m) (.slice (some ⟨gc, 0, none⟩) (m + 1) qc)) := hF7
                have E7 := Lib.hid hE7
                clear CM hF7 hE7 H6
                go_wp2_with fail
                go_loopw [98] (fun jj wj => ∃ j : Nat, j ≤ M.length ∧ jj = .int .i64 j ∧ Hid (Hand D7 W wj X [stayE p1 (aL L q), putsE (bL L q) (M.take j), L] xb ((N + 1)) f6 (cutsC ids m) (.slice (some ⟨gc, 0, none⟩) (m + 1) qc)) ∧ Hid (EntsIn D7 M wj (.slice a7 M.length c7))) (fun jj _ => M.length - (intOf jj).toNat)
                case atStart => exact ⟨0, Nat.zero_le _, rfl, H7.out, E7.out⟩
                case round =>
                  obtain ⟨j, hj, rfl, hHj, hEj⟩ := hrel
                  by_cases hltj : j < M.length
                  · obtain ⟨b3, off3, fa3, fc3, e3, hD3, hbz3, d0, d1, d2, d3, d4, dS⟩ := EntsIn.at hEj.out j hltj
                    subst e3
                    have hsu : putsE (bL L q) (M.take (j + 1)) = putE (putsE (bL L q) (M.take j)) (cleanE (entAt M j)) := by
                      rw [List.take_succ_eq_append_getElem hltj, entAt_eq hltj]; exact putsE_snoc _ _ _
                    have hfs := HMC.out (entAt M j) (by rw [entAt_eq hltj]; exact List.getElem_mem hltj)
                    have hroom : fullB (putsE (bL L q) (M.take j)) (entAt M j) = false := by
                      have h1 := len_putsE (bL L q) (M.take j)
                      have h2 : (M.take j).length ≤ j := by simp; omega
                      unfold fullB
                      rw [show decide (400 ≤ (putsE (bL L q) (M.take j)).length) = false from decide_eq_false (by omega)]; simp
                    obtain ⟨E, hEe⟩ : ∃ z, z = entAt M j := ⟨_, rfl⟩
                    rw [← hEe] at d0 d1 d2 d3 d4 dS hsu hroom hfs
                    obtain ⟨eg', ec, efs, ea, et⟩ := E
                    dsimp only at d0 d1 d2 d3 d4 dS hfs
                    have BX := bel_alloc (RowKit.Below.refl _ wr) (.cells #[.string (bs eg'), .int .i64 ec, .slice fa3 efs.length fc3, .bool ea, .int .i64 et] 30)
                    have CP := Lib.hid ((hHj.out.later BX).put (i := 1) rfl ⟨eg', ec, efs, ea, et⟩ _ ((dS.slAt).below BX) (show efs.length ≤ _ by omega) hroom)
                    have EB := Lib.hid (hEj.out.below BX)
                    unfold EntV at CP
                    dsimp only at CP
                    rw [← hsu, show sV eg' = .string (bs eg') from rfl] at CP
                    clear hEe dS hsu hroom BX hHj hEj hfs
                    go_wp2_with fail
                    refine CP.out.mono ?_
                    rintro e w8 ⟨rfl, hF8, hk8⟩
                    have H8 := Lib.hid hF8
                    have E8 := Lib.hid (EB.out.imp (fun b _ h => h) hk8.size fun b hb h => hk8.block b hb fun hn => hn h)
                    clear hF8 hk8 CP EB d0 d1 d2 d3 d4
                    go_wp2_with fail
                    go_roundw
                    case rel => go_light; exact ⟨j + 1, by omega, by go_num, H8.out, E8.out⟩
                    case measure => go_light; simp [intOf]; omega
                  · obtain rfl : j = M.length := by omega
                    have HB1 := Lib.hid (hand_back HOR.out HCL.out HM.out hHj.out)
                    clear hHj hEj
                    go_wp2_with fail
                    go_roundw
                    case rel => go_light; exact ⟨i + 1, c, _, _, f6, (i : Int) + 1, cm6, N + 1, by omega, by go_num, rfl, by omega, by omega, by omega, HF6.out, HB1.out⟩
                    case measure => go_light; simp [intOf]; omega
            · obtain rfl : i = m + 1 := by omega
              have H6 := hH
              clear hH hfc
              have CM := H6.out.move (i := 0) rfl (fun e he => HSM.out e (aL_sub he)) 0 0
              obtain ⟨p2, hp2⟩ : ∃ z, z = inE 0 0 := ⟨_, rfl⟩
              rw [← hp2, aL_clean HCL.out q p2] at CM
              have HMC : Hid (∀ e ∈ (aL L q).filter p2, e.fs.length ≤ 16) := fun e he => few_fs (HCL.out e (aL_sub (List.mem_filter.1 he).1))
              have hMl := aL_len L q p2
              have hbl := bL_len L q
              obtain ⟨M, hM⟩ : ∃ z, z = (aL L q).filter p2 := ⟨_, rfl⟩
              rw [← hM] at CM HMC hMl
              have HM := Lib.hid hM
              clear hM
              have CM := Lib.hid CM
              go_wp2_with fail
              refine CM.out.mono ?_
              rintro e w7 ⟨v7, rfl, D7, hF7, hE7⟩
              obtain ⟨a7, c7, rfl, _⟩ := hE7.slice
              have H7 : Hid (Hand D7 W w7 X [stayE p2 (aL L q), bL L q, L] xb (N) f (cutsC ids m) (.slice (some ⟨gc, 0, none⟩) (m + 1) qc)) := hF7
              have E7 := Lib.hid hE7
              clear CM hF7 hE7 H6
              go_wp2_with fail
              go_loopw [110] (fun jj wj => ∃ j : Nat, j ≤ M.length ∧ jj = .int .i64 j ∧ Hid (Hand D7 W wj X [stayE p2 (aL L q), putsE (bL L q) (M.take j), L] xb (N) f (cutsC ids m) (.slice (some ⟨gc, 0, none⟩) (m + 1) qc)) ∧ Hid (EntsIn D7 M wj (.slice a7 M.length c7))) (fun jj _ => M.length - (intOf jj).toNat)
              case atStart => exact ⟨0, Nat.zero_le _, rfl, H7.out, E7.out⟩
              case round =>
                obtain ⟨j, hj, rfl, hHj, hEj⟩ := hrel
                by_cases hltj : j < M.length
                · obtain ⟨b3, off3, fa3, fc3, e3, hD3, hbz3, d0, d1, d2, d3, d4, dS⟩ := EntsIn.at hEj.out j hltj
                  subst e3
                  have hsu : putsE (bL L q) (M.take (j + 1)) = putE (putsE (bL L q) (M.take j)) (cleanE (entAt M j)) := by
                    rw [List.take_succ_eq_append_getElem hltj, entAt_eq hltj]; exact putsE_snoc _ _ _
                  have hfs := HMC.out (entAt M j) (by rw [entAt_eq hltj]; exact List.getElem_mem hltj)
                  have hroom : fullB (putsE (bL L q) (M.take j)) (entAt M j) = false := by
                    have h1 := len_putsE (bL L q) (M.take j)
                    have h2 : (M.take j).length ≤ j := by simp; omega
                    unfold fullB
                    rw [show decide (400 ≤ (putsE (bL L q) (M.take j)).length) = false from decide_eq_false (by omega)]; simp
                  obtain ⟨E, hEe⟩ : ∃ z, z = entAt M j := ⟨_, rfl⟩
                  rw [← hEe] at d0 d1 d2 d3 d4 dS hsu hroom hfs
                  obtain ⟨eg', ec, efs, ea, et⟩ := E
                  dsimp only at d0 d1 d2 d3 d4 dS hfs
                  have BX := bel_alloc (RowKit.Below.refl _ wr) (.cells #[.string (bs eg'), .int .i64 ec, .slice fa3 efs.length fc3, .bool ea, .int .i64 et] 30)
                  have CP := Lib.hid ((hHj.out.later BX).put (i := 1) rfl ⟨eg', ec, efs, ea, et⟩ _ ((dS.slAt).below BX) (show efs.length ≤ _ by omega) hroom)
                  have EB := Lib.hid (hEj.out.below BX)
                  unfold EntV at CP
                  dsimp only at CP
                  rw [← hsu, show sV eg' = .string (bs eg') from rfl] at CP
                  clear hEe dS hsu hroom BX hHj hEj hfs
                  go_wp2_with fail
                  refine CP.out.mono ?_
                  rintro e w8 ⟨rfl, hF8, hk8⟩
                  have H8 := Lib.hid hF8
                  have E8 := Lib.hid (EB.out.imp (fun b _ h => h) hk8.size fun b hb h => hk8.block b hb fun hn => hn h)
                  clear hF8 hk8 CP EB d0 d1 d2 d3 d4
                  go_wp2_with fail
                  go_roundw
                  case rel => go_light; exact ⟨j + 1, by omega, by go_num, H8.out, E8.out⟩
                  case measure => go_light; simp [intOf]; omega
                · obtain rfl : j = M.length := by omega
                  have HB2 := Lib.hid (hand_back HOR.out HCL.out HM.out hHj.out)
                  clear hHj hEj
                  have HZ : Hid (Fam D7 W wr X [[], L, L]) := hand_end hp2 HB2.out
                  clear HB2 H7 E7 HM HMC hMl hbl
                  have CLa := Lib.hid (HZ.out.len (i := 0) rfl)
                  have CLb := Lib.hid (HZ.out.len (i := 1) rfl)
                  have CLc := Lib.hid (HZ.out.len (i := 2) rfl)
                  have hnn : ((L.length : Int) != (L.length : Int)) = false := by simp
                  go_wp2_with fail
                  refine CLa.out.mono ?_
                  rintro e w8 ⟨rfl, rfl⟩
                  rw [show (([] : List Ent)).length = 0 from rfl]
                  go_wp2_with fail
                  refine CLb.out.mono ?_
                  rintro e w9 ⟨rfl, rfl⟩
                  go_wp2_with fail
                  refine CLc.out.mono ?_
                  rintro e w10 ⟨rfl, rfl⟩
                  have CG := Lib.hid (HZ.out.groups (i := 2) rfl)
                  clear CLa CLb CLc
                  go_wp2_with fail
                  refine CG.out.mono ?_
                  rintro e w11 ⟨v11, rfl, hS11, hb11⟩
                  have F11 := Lib.hid (HZ.out.later hb11)
                  have S11 := Lib.hid hS11
                  obtain ⟨a11, c11, rfl, _⟩ := hS11.slice
                  obtain ⟨G, hG⟩ : ∃ z, z = groupsE L := ⟨_, rfl⟩
                  have hgl : G.length ≤ 30 := by rw [hG]; exact Nat.le_trans (groupsE_len L) hfew
                  rw [← hG] at S11 ⊢
                  clear hS11 CG hb11 hG HZ
                  go_wp2_with fail
                  go_loopw [127] (fun ii wi => ∃ t : Nat, t ≤ G.length ∧ ii = .int .i64 t ∧ Hid (∃ y : Later w11, wi = y.world)) (fun ii _ => G.length - (intOf ii).toNat)
                  case atStart => exact ⟨0, Nat.zero_le _, rfl, ⟨_, Below.refl _ _⟩, rfl⟩
                  case round =>
                    obtain ⟨t, ht, rfl, hy⟩ := hrel
                    obtain ⟨y, rfl⟩ := hy
                    by_cases hltt : t < G.length
                    · obtain ⟨b1, off1, ea1, _, hbz1, d1⟩ := SlAt.at S11.out t hltt _ y.below
                      cases ea1
                      obtain ⟨g, hg⟩ : ∃ z, z = nthT G t := ⟨_, rfl⟩
                      have d1' : y.world.cell? ⟨b1, off1 + t, none⟩ = some (.string (bs g)) := by rw [hg]; exact d1
                      have FY := F11.out.later y.below
                      have CKa := Lib.hid (FY.kids (i := 2) rfl g)
                      have CKb : Hid (∀ w', Below y.world.heap.size y.world w' → Calls Try.prog 11 #[.pointer (some ⟨X + 1, 0, none⟩), .string (bs g)] w' (NewEnts w' (kidsE L g))) := fun w' hb => (FY.later hb).kids (i := 1) rfl g
                      have hKl : (kidsE L g).length ≤ 30 := by unfold kidsE; rw [List.length_map]; exact Nat.le_trans (List.length_filter_le _ _) hfew
                      have hKa : (allE (kidsE L g)).length ≤ 1000 := by
                        have := allE_few (L := kidsE L g) fun e he => by
                          unfold kidsE at he
                          obtain ⟨z, _, rfl⟩ := List.mem_map.1 he
                          have := few_fs (clean_clean z); omega
                        omega
                      obtain ⟨KI, hKI⟩ : ∃ z, z = kidsE L g := ⟨_, rfl⟩
                      rw [← hKI] at CKa CKb hKl hKa
                      clear d1 hg hKI FY
                      go_wp2_with fail
                      refine CKa.out.mono ?_
                      rintro e w12 ⟨v12, rfl, hE12, hb12⟩
                      have CJ := Lib.hid (join_any w12 _ KI hE12 (by omega) (by omega))
                      obtain ⟨a12, c12, rfl, _⟩ := hE12.slice
                      have B12 := Lib.hid hb12
                      clear hE12 hb12 CKa d1'
                      go_wp2_with fail
                      refine CJ.out.mono ?_
                      rintro e w13 ⟨v13, rfl, hS13, hb13⟩
                      obtain ⟨a13, c13, rfl, _⟩ := hS13.slice
                      have S13 := Lib.hid hS13
                      have B13 := Lib.hid (bel_below B12.out hb13)
                      have CKb2 := Lib.hid (CKb.out w13 B13.out)
                      obtain ⟨jb, hjb⟩ : ∃ z, z = (joinE KI).any := ⟨_, rfl⟩
                      rw [← hjb]
                      have HJB := Lib.hid hjb
                      clear hS13 hb13 CJ B12 CKb hjb
                      go_wp2_with fail
                      refine CKb2.out.mono ?_
                      rintro e w14 ⟨v14, rfl, hE14, hb14⟩
                      have CJ2 := Lib.hid (join_any w14 _ KI hE14 (by omega) (by omega))
                      obtain ⟨a14, c14, rfl, _⟩ := hE14.slice
                      have S14 := Lib.hid (SlAt.below S13.out hb14)
                      have B14 := Lib.hid (bel_below B13.out hb14)
                      clear hE14 hb14 CKb2 S13 B13
                      go_wp2_with fail
                      refine CJ2.out.mono ?_
                      rintro e w15 ⟨v15, rfl, hS15, hb15⟩
                      obtain ⟨a15, c15, rfl, _⟩ := hS15.slice
                      rw [← HJB.out]
                      have hjl : (joinE KI).fs.length ≤ 16 := few_fs (clean_clean _)
                      have CT := texts_any w15 _ _ (joinE KI).fs (joinE KI).fs (SlAt.below S14.out hb15) hS15 (by omega)
                      rw [show decide ((joinE KI).fs = (joinE KI).fs) = true from decide_eq_true rfl] at CT
                      have CT := Lib.hid CT
                      have B15 := Lib.hid (bel_below B14.out hb15)
                      have hbb : (jb != jb) = false := by simp
                      clear hS15 hb15 CJ2 S14 B14 HJB
                      go_wp2_with fail
                      refine CT.out.mono ?_
                      rintro e w16 ⟨rfl, hb16⟩
                      have B16 := Lib.hid (bel_below B15.out hb16)
                      clear hb16 CT
                      go_wp2_with fail
                      go_roundw
                      case rel => go_light; exact ⟨t + 1, by omega, by go_num, ⟨_, bel_below y.below B16.out⟩, rfl⟩
                      case measure => go_light; simp [intOf]; omega
                    · obtain rfl : t = G.length := by omega
                      have BZ := Lib.hid (bel_below F11.out.bel y.below)
                      go_wp2_with fail
                      go_ret
                      exact ⟨rfl, BZ.out⟩
        · have hi1 := HI.out
          obtain ⟨m, hm⟩ : ∃ z : Nat, z = ids.length := ⟨_, rfl⟩
          rw [← hm] at hi1 h20 ⊢
          have hm20 : m ≤ ids.length := by omega
          have hmm : m ≤ 20 := by omega
          have HI1 := Lib.hid hi1
          clear hi1 hm
          go_upto_region 14 with (fail)
          go_wp2_with (at_builtin; go_loud (refine wpList_app rfl _ _ 47 rfl wr.heap.size 38 i0 (.int .u64 0) 8 Try.underlying47 hi hz0 hz1 hz2 rfl _ 0 [] rfl (World.ownsRow_made wr #[] 0 (Nat.le_refl _) (by simp [maxLen]) rfl) 0 (fun i => .int .u64 (nth ids i)) m _ rfl (HI1.out.below (bel_alloc hF.out.bel _)) (fun _ => rfl) ?a1x21 ?a2x21 ?a3x21 ?_))
          case a1x21 => simp only [maxLen]; omega
          case a2x21 => omega
          case a3x21 => simp
          intro va wa ho hg
          have BA : Hid (Below wr.heap.size wr wa) := (bel_alloc (Below.refl _ wr) _).grown hg (by simp) (fun q hq => by
            have h := World.ownsRow_made wr (e := 38) (size := 1) (base := wr.heap.size) #[] 0 (Nat.le_refl _) (by simp [maxLen]) rfl
            exact (h.lt q hq).1)
          obtain ⟨aa, ca, rfl⟩ := own_shape ho
          have HO : Hid (wa.ownsRow wr.heap.size 38 1 (.slice aa m ca) m ((List.range m).map fun i => Value.int .u64 (nth ids i))) := show World.ownsRow _ _ _ _ _ _ _ by simpa using ho
          clear ho hg
          go_wp2_with (at_builtin; go_loud (refine wpList_app rfl _ _ 47 rfl wr.heap.size 38 i0 (.int .u64 0) 8 Try.underlying47 hi hz0 hz1 hz2 rfl (.slice aa m ca) m ((List.range m).map fun i => Value.int .u64 (nth ids i)) rfl (ownsRow_same HO.out fun q hq => (bel_alloc (Below.refl _ wa) (.cells #[.int .u64 0] 38)).block q (HO.out.lt q hq).2) 0 (fun _ => .int .u64 0) 1 _ rfl (slI_one _ _ 38 _ rfl) (fun _ => rfl) ?b1x21 ?b2x21 ?b3x21 ?_))
          case b1x21 => simp only [maxLen]; omega
          case b2x21 => omega
          case b3x21 => have := BA.out.size; simp; omega
          intro vb wb ho hg
          have BB : Hid (Below wr.heap.size wr wb) := (bel_alloc BA.out _).grown hg (by have := BA.out.size; simp; omega) (fun q hq => (HO.out.lt q hq).1)
          obtain ⟨D2, gc, qc, rfl, HC⟩ := hand_cells hF.out BB.out ho (by omega)
          obtain ⟨L, hL⟩ : ∃ z, z = putsE [] (cutL l) := ⟨_, rfl⟩
          have H1 := Lib.hid (hand_two HC hend.out hL)
          have HSM : Hid (∀ e ∈ L, e.g.length ≤ 1000000) := fun e he => by rw [hL] at he; have := cut_mem he; omega
          have HCL : Hid (∀ e ∈ L, cleanE e = e) := fun e he => by rw [hL] at he; exact cut_clean he
          have HOR : Hid (OrdE L) := by rw [hL]; exact cut_ord l
          have hfew : L.length ≤ 30 := by rw [hL]; exact cut_few l
          have HLN := Lib.hid (cutsC_len hm20)
          clear hL hend HC ho hg HO BA BB hF
          go_wp2_with fail
          go_loopw [12, 74] (fun la ii wr => ∃ (i : Nat) (a : Int) (q : Ent → Bool) (D : Nat → Prop) (f : Int → Option Value) (Lc cm : Int) (N : Nat), i ≤ m + 1 ∧ ii = .int .i64 i ∧ la = .int .u64 a ∧ 0 ≤ Lc ∧ Lc ≤ i ∧ N ≤ i + 1 ∧ Hid ((f 2).getD zOne = .agg #[.int .i64 Lc, .int .u64 cm]) ∧ Hid (Hand D W wr X [aL L q, bL L q, L] xb N f (cutsC ids m) (.slice (some ⟨gc, 0, none⟩) (m + 1) qc))) (fun _ ii _ => m + 1 - (intOf ii).toNat)
          case atStart => exact ⟨0, 0, _, _, _, 0, 0, 1, Nat.zero_le _, rfl, rfl, Int.le_refl _, Int.le_refl _, Nat.le_refl _, (show (f1 2).getD zOne = _ by rw [HF1.out]; rfl), H1.out⟩
          case round =>
            obtain ⟨i, a, q, D, f, Lc, cm, N, hi, rfl, rfl, hLc0, hLc, hNi, hfc, hH⟩ := hrel
            by_cases hlti : i < m + 1
            · obtain ⟨g', cap', e9, hgz, hcell⟩ := Hand.at hH.out (i := i) (by rw [HLN.out]; omega)
              rw [HLN.out] at e9
              cases e9
              rw [Nat.zero_add] at hcell
              obtain ⟨c, hc⟩ : ∃ z, z = nth (cutsC ids m) i := ⟨_, rfl⟩
              rw [← hc] at hcell
              clear hc
              by_cases hca : c = a
              · have hcb : (c == a) = true := by simpa using hca
                subst hca
                go_wp2_with fail
                go_roundw
                case rel => go_light; exact ⟨i + 1, _, q, D, f, Lc, cm, N, by omega, by go_num, rfl, hLc0, by omega, by omega, hfc.out, hH.out⟩
                case measure => go_light; simp [intOf]; omega
              · have hcb : (c == a) = false := by simpa using hca
                have CC := Lib.hid (hH.out.come 2 ((i : Int) + 1) Lc cm (by omega) (by omega) (by omega) (by omega) hfc.out hLc0 (by omega) (by omega))
                clear hca hfc
                go_wp2_with fail
                refine CC.out.mono ?_
                rintro e w6 ⟨rfl, D6, cm6, hF6⟩
                obtain ⟨f6, hf6⟩ : ∃ z, z = setX f 2 (.agg #[.int .i64 ((i : Int) + 1), .int .u64 cm6]) := ⟨_, rfl⟩
                have HF6 : Hid ((f6 2).getD zOne = .agg #[.int .i64 ((i : Int) + 1), .int .u64 cm6]) := show _ = _ by rw [hf6, setX_same]; rfl
                have H6 : Hid (Hand D6 W w6 X [aL L q, bL L q, L] xb (N + 1) f6 (cutsC ids m) (.slice (some ⟨gc, 0, none⟩) (m + 1) qc)) := by rw [hf6]; exact hF6
                clear hF6 hf6 CC hH hcell hgz
                have CM := H6.out.move (i := 0) rfl (fun e he => HSM.out e (aL_sub he)) a c
                obtain ⟨p1, hp1⟩ : ∃ z, z = inE a c := ⟨_, rfl⟩
                rw [← hp1, aL_clean HCL.out q p1] at CM
                have HMC : Hid (∀ e ∈ (aL L q).filter p1, e.fs.length ≤ 16) := fun e he => few_fs (HCL.out e (aL_sub (List.mem_filter.1 he).1))
                have hMl := aL_len L q p1
                have hbl := bL_len L q
                obtain ⟨M, hM⟩ : ∃ z, z = (aL L q).filter p1 := ⟨_, rfl⟩
                rw [← hM] at CM HMC hMl
                have HM := Lib.hid hM
                clear hM
                have CM := Lib.hid CM
                go_wp2_with fail
                refine CM.out.mono ?_
                rintro e w7 ⟨v7, rfl, D7, hF7, hE7⟩
                obtain ⟨a7, c7, rfl, _⟩ := hE7.slice
                have H7 : Hid (Hand D7 W w7 X [stayE p1 (aL L q), bL L q, L] xb ((N + 1)) f6 (cutsC ids m) (.slice (some ⟨gc, 0, none⟩) (m + 1) qc)) := hF7
                have E7 := Lib.hid hE7
                clear CM hF7 hE7 H6
                go_wp2_with fail
                go_loopw [98] (fun jj wj => ∃ j : Nat, j ≤ M.length ∧ jj = .int .i64 j ∧ Hid (Hand D7 W wj X [stayE p1 (aL L q), putsE (bL L q) (M.take j), L] xb ((N + 1)) f6 (cutsC ids m) (.slice (some ⟨gc, 0, none⟩) (m + 1) qc)) ∧ Hid (EntsIn D7 M wj (.slice a7 M.length c7))) (fun jj _ => M.length - (intOf jj).toNat)
                case atStart => exact ⟨0, Nat.zero_le _, rfl, H7.out, E7.out⟩
                case round =>
                  obtain ⟨j, hj, rfl, hHj, hEj⟩ := hrel
                  by_cases hltj : j < M.length
                  · obtain ⟨b3, off3, fa3, fc3, e3, hD3, hbz3, d0, d1, d2, d3, d4, dS⟩ := EntsIn.at hEj.out j hltj
                    subst e3
                    have hsu : putsE (bL L q) (M.take (j + 1)) = putE (putsE (bL L q) (M.take j)) (cleanE (entAt M j)) := by
                      rw [List.take_succ_eq_append_getElem hltj, entAt_eq hltj]; exact putsE_snoc _ _ _
                    have hfs := HMC.out (entAt M j) (by rw [entAt_eq hltj]; exact List.getElem_mem hltj)
                    have hroom : fullB (putsE (bL L q) (M.take j)) (entAt M j) = false := by
                      have h1 := len_putsE (bL L q) (M.take j)
                      have h2 : (M.take j).length ≤ j := by simp; omega
                      unfold fullB
                      rw [show decide (400 ≤ (putsE (bL L q) (M.take j)).length) = false from decide_eq_false (by omega)]; simp
                    obtain ⟨E, hEe⟩ : ∃ z, z = entAt M j := ⟨_, rfl⟩
                    rw [← hEe] at d0 d1 d2 d3 d4 dS hsu hroom hfs
                    obtain ⟨eg', ec, efs, ea, et⟩ := E
                    dsimp only at d0 d1 d2 d3 d4 dS hfs
                    have BX := bel_alloc (RowKit.Below.refl _ wr) (.cells #[.string (bs eg'), .int .i64 ec, .slice fa3 efs.length fc3, .bool ea, .int .i64 et] 30)
                    have CP := Lib.hid ((hHj.out.later BX).put (i := 1) rfl ⟨eg', ec, efs, ea, et⟩ _ ((dS.slAt).below BX) (show efs.length ≤ _ by omega) hroom)
                    have EB := Lib.hid (hEj.out.below BX)
                    unfold EntV at CP
                    dsimp only at CP
                    rw [← hsu, show sV eg' = .string (bs eg') from rfl] at CP
                    clear hEe dS hsu hroom BX hHj hEj hfs
                    go_wp2_with fail
                    refine CP.out.mono ?_
                    rintro e w8 ⟨rfl, hF8, hk8⟩
                    have H8 := Lib.hid hF8
                    have E8 := Lib.hid (EB.out.imp (fun b _ h => h) hk8.size fun b hb h => hk8.block b hb fun hn => hn h)
                    clear hF8 hk8 CP EB d0 d1 d2 d3 d4
                    go_wp2_with fail
                    go_roundw
                    case rel => go_light; exact ⟨j + 1, by omega, by go_num, H8.out, E8.out⟩
                    case measure => go_light; simp [intOf]; omega
                  · obtain rfl : j = M.length := by omega
                    have HB1 := Lib.hid (hand_back HOR.out HCL.out HM.out hHj.out)
                    clear hHj hEj
                    go_wp2_with fail
                    go_roundw
                    case rel => go_light; exact ⟨i + 1, c, _, _, f6, (i : Int) + 1, cm6, N + 1, by omega, by go_num, rfl, by omega, by omega, by omega, HF6.out, HB1.out⟩
                    case measure => go_light; simp [intOf]; omega
            · obtain rfl : i = m + 1 := by omega
              have H6 := hH
              clear hH hfc
              have CM := H6.out.move (i := 0) rfl (fun e he => HSM.out e (aL_sub he)) 0 0
              obtain ⟨p2, hp2⟩ : ∃ z, z = inE 0 0 := ⟨_, rfl⟩
              rw [← hp2, aL_clean HCL.out q p2] at CM
              have HMC : Hid (∀ e ∈ (aL L q).filter p2, e.fs.length ≤ 16) := fun e he => few_fs (HCL.out e (aL_sub (List.mem_filter.1 he).1))
              have hMl := aL_len L q p2
              have hbl := bL_len L q
              obtain ⟨M, hM⟩ : ∃ z, z = (aL L q).filter p2 := ⟨_, rfl⟩
              rw [← hM] at CM HMC hMl
              have HM := Lib.hid hM
              clear hM
              have CM := Lib.hid CM
              go_wp2_with fail
              refine CM.out.mono ?_
              rintro e w7 ⟨v7, rfl, D7, hF7, hE7⟩
              obtain ⟨a7, c7, rfl, _⟩ := hE7.slice
              have H7 : Hid (Hand D7 W w7 X [stayE p2 (aL L q), bL L q, L] xb (N) f (cutsC ids m) (.slice (some ⟨gc, 0, none⟩) (m + 1) qc)) := hF7
              have E7 := Lib.hid hE7
              clear CM hF7 hE7 H6
              go_wp2_with fail
              go_loopw [110] (fun jj wj => ∃ j : Nat, j ≤ M.length ∧ jj = .int .i64 j ∧ Hid (Hand D7 W wj X [stayE p2 (aL L q), putsE (bL L q) (M.take j), L] xb (N) f (cutsC ids m) (.slice (some ⟨gc, 0, none⟩) (m + 1) qc)) ∧ Hid (EntsIn D7 M wj (.slice a7 M.length c7))) (fun jj _ => M.length - (intOf jj).toNat)
              case atStart => exact ⟨0, Nat.zero_le _, rfl, H7.out, E7.out⟩
              case round =>
                obtain ⟨j, hj, rfl, hHj, hEj⟩ := hrel
                by_cases hltj : j < M.length
                · obtain ⟨b3, off3, fa3, fc3, e3, hD3, hbz3, d0, d1, d2, d3, d4, dS⟩ := EntsIn.at hEj.out j hltj
                  subst e3
                  have hsu : putsE (bL L q) (M.take (j + 1)) = putE (putsE (bL L q) (M.take j)) (cleanE (entAt M j)) := by
                    rw [List.take_succ_eq_append_getElem hltj, entAt_eq hltj]; exact putsE_snoc _ _ _
                  have hfs := HMC.out (entAt M j) (by rw [entAt_eq hltj]; exact List.getElem_mem hltj)
                  have hroom : fullB (putsE (bL L q) (M.take j)) (entAt M j) = false := by
                    have h1 := len_putsE (bL L q) (M.take j)
                    have h2 : (M.take j).length ≤ j := by simp; omega
                    unfold fullB
                    rw [show decide (400 ≤ (putsE (bL L q) (M.take j)).length) = false from decide_eq_false (by omega)]; simp
                  obtain ⟨E, hEe⟩ : ∃ z, z = entAt M j := ⟨_, rfl⟩
                  rw [← hEe] at d0 d1 d2 d3 d4 dS hsu hroom hfs
                  obtain ⟨eg', ec, efs, ea, et⟩ := E
                  dsimp only at d0 d1 d2 d3 d4 dS hfs
                  have BX := bel_alloc (RowKit.Below.refl _ wr) (.cells #[.string (bs eg'), .int .i64 ec, .slice fa3 efs.length fc3, .bool ea, .int .i64 et] 30)
                  have CP := Lib.hid ((hHj.out.later BX).put (i := 1) rfl ⟨eg', ec, efs, ea, et⟩ _ ((dS.slAt).below BX) (show efs.length ≤ _ by omega) hroom)
                  have EB := Lib.hid (hEj.out.below BX)
                  unfold EntV at CP
                  dsimp only at CP
                  rw [← hsu, show sV eg' = .string (bs eg') from rfl] at CP
                  clear hEe dS hsu hroom BX hHj hEj hfs
                  go_wp2_with fail
                  refine CP.out.mono ?_
                  rintro e w8 ⟨rfl, hF8, hk8⟩
                  have H8 := Lib.hid hF8
                  have E8 := Lib.hid (EB.out.imp (fun b _ h => h) hk8.size fun b hb h => hk8.block b hb fun hn => hn h)
                  clear hF8 hk8 CP EB d0 d1 d2 d3 d4
                  go_wp2_with fail
                  go_roundw
                  case rel => go_light; exact ⟨j + 1, by omega, by go_num, H8.out, E8.out⟩
                  case measure => go_light; simp [intOf]; omega
                · obtain rfl : j = M.length := by omega
                  have HB2 := Lib.hid (hand_back HOR.out HCL.out HM.out hHj.out)
                  clear hHj hEj
                  have HZ : Hid (Fam D7 W wr X [[], L, L]) := hand_end hp2 HB2.out
                  clear HB2 H7 E7 HM HMC hMl hbl
                  have CLa := Lib.hid (HZ.out.len (i := 0) rfl)
                  have CLb := Lib.hid (HZ.out.len (i := 1) rfl)
                  have CLc := Lib.hid (HZ.out.len (i := 2) rfl)
                  have hnn : ((L.length : Int) != (L.length : Int)) = false := by simp
                  go_wp2_with fail
                  refine CLa.out.mono ?_
                  rintro e w8 ⟨rfl, rfl⟩
                  rw [show (([] : List Ent)).length = 0 from rfl]
                  go_wp2_with fail
                  refine CLb.out.mono ?_
                  rintro e w9 ⟨rfl, rfl⟩
                  go_wp2_with fail
                  refine CLc.out.mono ?_
                  rintro e w10 ⟨rfl, rfl⟩
                  have CG := Lib.hid (HZ.out.groups (i := 2) rfl)
                  clear CLa CLb CLc
                  go_wp2_with fail
                  refine CG.out.mono ?_
                  rintro e w11 ⟨v11, rfl, hS11, hb11⟩
                  have F11 := Lib.hid (HZ.out.later hb11)
                  have S11 := Lib.hid hS11
                  obtain ⟨a11, c11, rfl, _⟩ := hS11.slice
                  obtain ⟨G, hG⟩ : ∃ z, z = groupsE L := ⟨_, rfl⟩
                  have hgl : G.length ≤ 30 := by rw [hG]; exact Nat.le_trans (groupsE_len L) hfew
                  rw [← hG] at S11 ⊢
                  clear hS11 CG hb11 hG HZ
                  go_wp2_with fail
                  go_loopw [127] (fun ii wi => ∃ t : Nat, t ≤ G.length ∧ ii = .int .i64 t ∧ Hid (∃ y : Later w11, wi = y.world)) (fun ii _ => G.length - (intOf ii).toNat)
                  case atStart => exact ⟨0, Nat.zero_le _, rfl, ⟨_, Below.refl _ _⟩, rfl⟩
                  case round =>
                    obtain ⟨t, ht, rfl, hy⟩ := hrel
                    obtain ⟨y, rfl⟩ := hy
                    by_cases hltt : t < G.length
                    · obtain ⟨b1, off1, ea1, _, hbz1, d1⟩ := SlAt.at S11.out t hltt _ y.below
                      cases ea1
                      obtain ⟨g, hg⟩ : ∃ z, z = nthT G t := ⟨_, rfl⟩
                      have d1' : y.world.cell? ⟨b1, off1 + t, none⟩ = some (.string (bs g)) := by rw [hg]; exact d1
                      have FY := F11.out.later y.below
                      have CKa := Lib.hid (FY.kids (i := 2) rfl g)
                      have CKb : Hid (∀ w', Below y.world.heap.size y.world w' → Calls Try.prog 11 #[.pointer (some ⟨X + 1, 0, none⟩), .string (bs g)] w' (NewEnts w' (kidsE L g))) := fun w' hb => (FY.later hb).kids (i := 1) rfl g
                      have hKl : (kidsE L g).length ≤ 30 := by unfold kidsE; rw [List.length_map]; exact Nat.le_trans (List.length_filter_le _ _) hfew
                      have hKa : (allE (kidsE L g)).length ≤ 1000 := by
                        have := allE_few (L := kidsE L g) fun e he => by
                          unfold kidsE at he
                          obtain ⟨z, _, rfl⟩ := List.mem_map.1 he
                          have := few_fs (clean_clean z); omega
                        omega
                      obtain ⟨KI, hKI⟩ : ∃ z, z = kidsE L g := ⟨_, rfl⟩
                      rw [← hKI] at CKa CKb hKl hKa
                      clear d1 hg hKI FY
                      go_wp2_with fail
                      refine CKa.out.mono ?_
                      rintro e w12 ⟨v12, rfl, hE12, hb12⟩
                      have CJ := Lib.hid (join_any w12 _ KI hE12 (by omega) (by omega))
                      obtain ⟨a12, c12, rfl, _⟩ := hE12.slice
                      have B12 := Lib.hid hb12
                      clear hE12 hb12 CKa d1'
                      go_wp2_with fail
                      refine CJ.out.mono ?_
                      rintro e w13 ⟨v13, rfl, hS13, hb13⟩
                      obtain ⟨a13, c13, rfl, _⟩ := hS13.slice
                      have S13 := Lib.hid hS13
                      have B13 := Lib.hid (bel_below B12.out hb13)
                      have CKb2 := Lib.hid (CKb.out w13 B13.out)
                      obtain ⟨jb, hjb⟩ : ∃ z, z = (joinE KI).any := ⟨_, rfl⟩
                      rw [← hjb]
                      have HJB := Lib.hid hjb
                      clear hS13 hb13 CJ B12 CKb hjb
                      go_wp2_with fail
                      refine CKb2.out.mono ?_
                      rintro e w14 ⟨v14, rfl, hE14, hb14⟩
                      have CJ2 := Lib.hid (join_any w14 _ KI hE14 (by omega) (by omega))
                      obtain ⟨a14, c14, rfl, _⟩ := hE14.slice
                      have S14 := Lib.hid (SlAt.below S13.out hb14)
                      have B14 := Lib.hid (bel_below B13.out hb14)
                      clear hE14 hb14 CKb2 S13 B13
                      go_wp2_with fail
                      refine CJ2.out.mono ?_
                      rintro e w15 ⟨v15, rfl, hS15, hb15⟩
                      obtain ⟨a15, c15, rfl, _⟩ := hS15.slice
                      rw [← HJB.out]
                      have hjl : (joinE KI).fs.length ≤ 16 := few_fs (clean_clean _)
                      have CT := texts_any w15 _ _ (joinE KI).fs (joinE KI).fs (SlAt.below S14.out hb15) hS15 (by omega)
                      rw [show decide ((joinE KI).fs = (joinE KI).fs) = true from decide_eq_true rfl] at CT
                      have CT := Lib.hid CT
                      have B15 := Lib.hid (bel_below B14.out hb15)
                      have hbb : (jb != jb) = false := by simp
                      clear hS15 hb15 CJ2 S14 B14 HJB
                      go_wp2_with fail
                      refine CT.out.mono ?_
                      rintro e w16 ⟨rfl, hb16⟩
                      have B16 := Lib.hid (bel_below B15.out hb16)
                      clear hb16 CT
                      go_wp2_with fail
                      go_roundw
                      case rel => go_light; exact ⟨t + 1, by omega, by go_num, ⟨_, bel_below y.below B16.out⟩, rfl⟩
                      case measure => go_light; simp [intOf]; omega
                    · obtain rfl : t = G.length := by omega
                      have BZ := Lib.hid (bel_below F11.out.bel y.below)
                      go_wp2_with fail
                      go_ret
                      exact ⟨rfl, BZ.out⟩
    · have hend : Hid (PK l k = putsE [] (cutL l)) := show _ = _ by unfold PK cutL; rw [List.take_of_length_le (by omega : l.length ≤ k), List.take_of_length_le (by omega : l.length ≤ 30)]
      by_cases h20 : 20 < ids.length
      · obtain ⟨b1, o1, ea1, _, hbz1, _⟩ := SlAt.at HI.out 0 (by omega) _ (Below.refl _ _)
        subst ea1
        have hi1 : SlAt 0 (fun i => .int .u64 (nth ids i)) 20 W (.slice (some ⟨b1, o1, none⟩) 20 c1) := SlAt.take HI.out (by omega)
        have hm20 : 20 ≤ ids.length := by omega
        have hi2 : ∃ sl : Value, sl = Value.slice (some ⟨b1, o1, none⟩) 20 c1 := ⟨_, rfl⟩
        have HI2 := Lib.hid hi1
        clear hi1
        go_upto_region 14 with (fail)
        obtain ⟨sl, hsl⟩ := hi2
        rw [← hsl]
        have hi3 := HI2.out
        rw [← hsl] at hi3
        obtain ⟨m, hm⟩ : ∃ z : Nat, z = 20 := ⟨_, rfl⟩
        rw [← hm] at hi3 hm20
        have hmm : m ≤ 20 := by omega
        have HI1 := Lib.hid hi3
        clear hi3 HI2 hsl hm
        go_wp2_with (at_builtin; go_loud (refine wpList_app rfl _ _ 47 rfl wr.heap.size 38 i0 (.int .u64 0) 8 Try.underlying47 hi hz0 hz1 hz2 rfl _ 0 [] rfl (World.ownsRow_made wr #[] 0 (Nat.le_refl _) (by simp [maxLen]) rfl) 0 (fun i => .int .u64 (nth ids i)) m _ rfl (HI1.out.below (bel_alloc hF.out.bel _)) (fun _ => rfl) ?a1x12 ?a2x12 ?a3x12 ?_))
        case a1x12 => simp only [maxLen]; omega
        case a2x12 => omega
        case a3x12 => simp
        intro va wa ho hg
        have BA : Hid (Below wr.heap.size wr wa) := (bel_alloc (Below.refl _ wr) _).grown hg (by simp) (fun q hq => by
          have h := World.ownsRow_made wr (e := 38) (size := 1) (base := wr.heap.size) #[] 0 (Nat.le_refl _) (by simp [maxLen]) rfl
          exact (h.lt q hq).1)
        obtain ⟨aa, ca, rfl⟩ := own_shape ho
        have HO : Hid (wa.ownsRow wr.heap.size 38 1 (.slice aa m ca) m ((List.range m).map fun i => Value.int .u64 (nth ids i))) := show World.ownsRow _ _ _ _ _ _ _ by simpa using ho
        clear ho hg
        go_wp2_with (at_builtin; go_loud (refine wpList_app rfl _ _ 47 rfl wr.heap.size 38 i0 (.int .u64 0) 8 Try.underlying47 hi hz0 hz1 hz2 rfl (.slice aa m ca) m ((List.range m).map fun i => Value.int .u64 (nth ids i)) rfl (ownsRow_same HO.out fun q hq => (bel_alloc (Below.refl _ wa) (.cells #[.int .u64 0] 38)).block q (HO.out.lt q hq).2) 0 (fun _ => .int .u64 0) 1 _ rfl (slI_one _ _ 38 _ rfl) (fun _ => rfl) ?b1x12 ?b2x12 ?b3x12 ?_))
        case b1x12 => simp only [maxLen]; omega
        case b2x12 => omega
        case b3x12 => have := BA.out.size; simp; omega
        intro vb wb ho hg
        have BB : Hid (Below wr.heap.size wr wb) := (bel_alloc BA.out _).grown hg (by have := BA.out.size; simp; omega) (fun q hq => (HO.out.lt q hq).1)
        obtain ⟨D2, gc, qc, rfl, HC⟩ := hand_cells hF.out BB.out ho (by omega)
        obtain ⟨L, hL⟩ : ∃ z, z = putsE [] (cutL l) := ⟨_, rfl⟩
        have H1 := Lib.hid (hand_two HC hend.out hL)
        have HSM : Hid (∀ e ∈ L, e.g.length ≤ 1000000) := fun e he => by rw [hL] at he; have := cut_mem he; omega
        have HCL : Hid (∀ e ∈ L, cleanE e = e) := fun e he => by rw [hL] at he; exact cut_clean he
        have HOR : Hid (OrdE L) := by rw [hL]; exact cut_ord l
        have hfew : L.length ≤ 30 := by rw [hL]; exact cut_few l
        have HLN := Lib.hid (cutsC_len hm20)
        clear hL hend HC ho hg HO BA BB hF
        go_wp2_with fail
        go_loopw [12, 74] (fun la ii wr => ∃ (i : Nat) (a : Int) (q : Ent → Bool) (D : Nat → Prop) (f : Int → Option Value) (Lc cm : Int) (N : Nat), i ≤ m + 1 ∧ ii = .int .i64 i ∧ la = .int .u64 a ∧ 0 ≤ Lc ∧ Lc ≤ i ∧ N ≤ i + 1 ∧ Hid ((f 2).getD zOne = .agg #[.int .i64 Lc, .int .u64 cm]) ∧ Hid (Hand D W wr X [aL L q, bL L q, L] xb N f (cutsC ids m) (.slice (some ⟨gc, 0, none⟩) (m + 1) qc))) (fun _ ii _ => m + 1 - (intOf ii).toNat)
        case atStart => exact ⟨0, 0, _, _, _, 0, 0, 1, Nat.zero_le _, rfl, rfl, Int.le_refl _, Int.le_refl _, Nat.le_refl _, (show (f1 2).getD zOne = _ by rw [HF1.out]; rfl), H1.out⟩
        case round =>
          obtain ⟨i, a, q, D, f, Lc, cm, N, hi, rfl, rfl, hLc0, hLc, hNi, hfc, hH⟩ := hrel
          by_cases hlti : i < m + 1
          · obtain ⟨g', cap', e9, hgz, hcell⟩ := Hand.at hH.out (i := i) (by rw [HLN.out]; omega)
            rw [HLN.out] at e9
            cases e9
            rw [Nat.zero_add] at hcell
            obtain ⟨c, hc⟩ : ∃ z, z = nth (cutsC ids m) i := ⟨_, rfl⟩
            rw [← hc] at hcell
            clear hc
            by_cases hca : c = a
            · have hcb : (c == a) = true := by simpa using hca
              subst hca
              go_wp2_with fail
              go_roundw
              case rel => go_light; exact ⟨i + 1, _, q, D, f, Lc, cm, N, by omega, by go_num, rfl, hLc0, by omega, by omega, hfc.out, hH.out⟩
              case measure => go_light; simp [intOf]; omega
            · have hcb : (c == a) = false := by simpa using hca
              have CC := Lib.hid (hH.out.come 2 ((i : Int) + 1) Lc cm (by omega) (by omega) (by omega) (by omega) hfc.out hLc0 (by omega) (by omega))
              clear hca hfc
              go_wp2_with fail
              refine CC.out.mono ?_
              rintro e w6 ⟨rfl, D6, cm6, hF6⟩
              obtain ⟨f6, hf6⟩ : ∃ z, z = setX f 2 (.agg #[.int .i64 ((i : Int) + 1), .int .u64 cm6]) := ⟨_, rfl⟩
              have HF6 : Hid ((f6 2).getD zOne = .agg #[.int .i64 ((i : Int) + 1), .int .u64 cm6]) := show _ = _ by rw [hf6, setX_same]; rfl
              have H6 : Hid (Hand D6 W w6 X [aL L q, bL L q, L] xb (N + 1) f6 (cutsC ids m) (.slice (some ⟨gc, 0, none⟩) (m + 1) qc)) := by rw [hf6]; exact hF6
              clear hF6 hf6 CC hH hcell hgz
              have CM := H6.out.move (i := 0) rfl (fun e he => HSM.out e (aL_sub he)) a c
              obtain ⟨p1, hp1⟩ : ∃ z, z = inE a c := ⟨_, rfl⟩
              rw [← hp1, aL_clean HCL.out q p1] at CM
              have HMC : Hid (∀ e ∈ (aL L q).filter p1, e.fs.length ≤ 16) := fun e he => few_fs (HCL.out e (aL_sub (List.mem_filter.1 he).1))
              have hMl := aL_len L q p1
              have hbl := bL_len L q
              obtain ⟨M, hM⟩ : ∃ z, z = (aL L q).filter p1 := ⟨_, rfl⟩
              rw [← hM] at CM HMC hMl
              have HM := Lib.hid hM
              clear hM
              have CM := Lib.hid CM
              go_wp2_with fail
              refine CM.out.mono ?_
              rintro e w7 ⟨v7, rfl, D7, hF7, hE7⟩
              obtain ⟨a7, c7, rfl, _⟩ := hE7.slice
              have H7 : Hid (Hand D7 W w7 X [stayE p1 (aL L q), bL L q, L] xb ((N + 1)) f6 (cutsC ids m) (.slice (some ⟨gc, 0, none⟩) (m + 1) qc)) := hF7
              have E7 := Lib.hid hE7
              clear CM hF7 hE7 H6
              go_wp2_with fail
              go_loopw [98] (fun jj wj => ∃ j : Nat, j ≤ M.length ∧ jj = .int .i64 j ∧ Hid (Hand D7 W wj X [stayE p1 (aL L q), putsE (bL L q) (M.take j), L] xb ((N + 1)) f6 (cutsC ids m) (.slice (some ⟨gc, 0, none⟩) (m + 1) qc)) ∧ Hid (EntsIn D7 M wj (.slice a7 M.length c7))) (fun jj _ => M.length - (intOf jj).toNat)
              case atStart => exact ⟨0, Nat.zero_le _, rfl, H7.out, E7.out⟩
              case round =>
                obtain ⟨j, hj, rfl, hHj, hEj⟩ := hrel
                by_cases hltj : j < M.length
                · obtain ⟨b3, off3, fa3, fc3, e3, hD3, hbz3, d0, d1, d2, d3, d4, dS⟩ := EntsIn.at hEj.out j hltj
                  subst e3
                  have hsu : putsE (bL L q) (M.take (j + 1)) = putE (putsE (bL L q) (M.take j)) (cleanE (entAt M j)) := by
                    rw [List.take_succ_eq_append_getElem hltj, entAt_eq hltj]; exact putsE_snoc _ _ _
                  have hfs := HMC.out (entAt M j) (by rw [entAt_eq hltj]; exact List.getElem_mem hltj)
                  have hroom : fullB (putsE (bL L q) (M.take j)) (entAt M j) = false := by
                    have h1 := len_putsE (bL L q) (M.take j)
                    have h2 : (M.take j).length ≤ j := by simp; omega
                    unfold fullB
                    rw [show decide (400 ≤ (putsE (bL L q) (M.take j)).length) = false from decide_eq_false (by omega)]; simp
                  obtain ⟨E, hEe⟩ : ∃ z, z = entAt M j := ⟨_, rfl⟩
                  rw [← hEe] at d0 d1 d2 d3 d4 dS hsu hroom hfs
                  obtain ⟨eg', ec, efs, ea, et⟩ := E
                  dsimp only at d0 d1 d2 d3 d4 dS hfs
                  have BX := bel_alloc (RowKit.Below.refl _ wr) (.cells #[.string (bs eg'), .int .i64 ec, .slice fa3 efs.length fc3, .bool ea, .int .i64 et] 30)
                  have CP := Lib.hid ((hHj.out.later BX).put (i := 1) rfl ⟨eg', ec, efs, ea, et⟩ _ ((dS.slAt).below BX) (show efs.length ≤ _ by omega) hroom)
                  have EB := Lib.hid (hEj.out.below BX)
                  unfold EntV at CP
                  dsimp only at CP
                  rw [← hsu, show sV eg' = .string (bs eg') from rfl] at CP
                  clear hEe dS hsu hroom BX hHj hEj hfs
                  go_wp2_with fail
                  refine CP.out.mono ?_
                  rintro e w8 ⟨rfl, hF8, hk8⟩
                  have H8 := Lib.hid hF8
                  have E8 := Lib.hid (EB.out.imp (fun b _ h => h) hk8.size fun b hb h => hk8.block b hb fun hn => hn h)
                  clear hF8 hk8 CP EB d0 d1 d2 d3 d4
                  go_wp2_with fail
                  go_roundw
                  case rel => go_light; exact ⟨j + 1, by omega, by go_num, H8.out, E8.out⟩
                  case measure => go_light; simp [intOf]; omega
                · obtain rfl : j = M.length := by omega
                  have HB1 := Lib.hid (hand_back HOR.out HCL.out HM.out hHj.out)
                  clear hHj hEj
                  go_wp2_with fail
                  go_roundw
                  case rel => go_light; exact ⟨i + 1, c, _, _, f6, (i : Int) + 1, cm6, N + 1, by omega, by go_num, rfl, by omega, by omega, by omega, HF6.out, HB1.out⟩
                  case measure => go_light; simp [intOf]; omega
          · obtain rfl : i = m + 1 := by omega
            have H6 := hH
            clear hH hfc
            have CM := H6.out.move (i := 0) rfl (fun e he => HSM.out e (aL_sub he)) 0 0
            obtain ⟨p2, hp2⟩ : ∃ z, z = inE 0 0 := ⟨_, rfl⟩
            rw [← hp2, aL_clean HCL.out q p2] at CM
            have HMC : Hid (∀ e ∈ (aL L q).filter p2, e.fs.length ≤ 16) := fun e he => few_fs (HCL.out e (aL_sub (List.mem_filter.1 he).1))
            have hMl := aL_len L q p2
            have hbl := bL_len L q
            obtain ⟨M, hM⟩ : ∃ z, z = (aL L q).filter p2 := ⟨_, rfl⟩
            rw [← hM] at CM HMC hMl
            have HM := Lib.hid hM
            clear hM
            have CM := Lib.hid CM
            go_wp2_with fail
            refine CM.out.mono ?_
            rintro e w7 ⟨v7, rfl, D7, hF7, hE7⟩
            obtain ⟨a7, c7, rfl, _⟩ := hE7.slice
            have H7 : Hid (Hand D7 W w7 X [stayE p2 (aL L q), bL L q, L] xb (N) f (cutsC ids m) (.slice (some ⟨gc, 0, none⟩) (m + 1) qc)) := hF7
            have E7 := Lib.hid hE7
            clear CM hF7 hE7 H6
            go_wp2_with fail
            go_loopw [110] (fun jj wj => ∃ j : Nat, j ≤ M.length ∧ jj = .int .i64 j ∧ Hid (Hand D7 W wj X [stayE p2 (aL L q), putsE (bL L q) (M.take j), L] xb (N) f (cutsC ids m) (.slice (some ⟨gc, 0, none⟩) (m + 1) qc)) ∧ Hid (EntsIn D7 M wj (.slice a7 M.length c7))) (fun jj _ => M.length - (intOf jj).toNat)
            case atStart => exact ⟨0, Nat.zero_le _, rfl, H7.out, E7.out⟩
            case round =>
              obtain ⟨j, hj, rfl, hHj, hEj⟩ := hrel
              by_cases hltj : j < M.length
              · obtain ⟨b3, off3, fa3, fc3, e3, hD3, hbz3, d0, d1, d2, d3, d4, dS⟩ := EntsIn.at hEj.out j hltj
                subst e3
                have hsu : putsE (bL L q) (M.take (j + 1)) = putE (putsE (bL L q) (M.take j)) (cleanE (entAt M j)) := by
                  rw [List.take_succ_eq_append_getElem hltj, entAt_eq hltj]; exact putsE_snoc _ _ _
                have hfs := HMC.out (entAt M j) (by rw [entAt_eq hltj]; exact List.getElem_mem hltj)
                have hroom : fullB (putsE (bL L q) (M.take j)) (entAt M j) = false := by
                  have h1 := len_putsE (bL L q) (M.take j)
                  have h2 : (M.take j).length ≤ j := by simp; omega
                  unfold fullB
                  rw [show decide (400 ≤ (putsE (bL L q) (M.take j)).length) = false from decide_eq_false (by omega)]; simp
                obtain ⟨E, hEe⟩ : ∃ z, z = entAt M j := ⟨_, rfl⟩
                rw [← hEe] at d0 d1 d2 d3 d4 dS hsu hroom hfs
                obtain ⟨eg', ec, efs, ea, et⟩ := E
                dsimp only at d0 d1 d2 d3 d4 dS hfs
                have BX := bel_alloc (RowKit.Below.refl _ wr) (.cells #[.string (bs eg'), .int .i64 ec, .slice fa3 efs.length fc3, .bool ea, .int .i64 et] 30)
                have CP := Lib.hid ((hHj.out.later BX).put (i := 1) rfl ⟨eg', ec, efs, ea, et⟩ _ ((dS.slAt).below BX) (show efs.length ≤ _ by omega) hroom)
                have EB := Lib.hid (hEj.out.below BX)
                unfold EntV at CP
                dsimp only at CP
                rw [← hsu, show sV eg' = .string (bs eg') from rfl] at CP
                clear hEe dS hsu hroom BX hHj hEj hfs
                go_wp2_with fail
                refine CP.out.mono ?_
                rintro e w8 ⟨rfl, hF8, hk8⟩
                have H8 := Lib.hid hF8
                have E8 := Lib.hid (EB.out.imp (fun b _ h => h) hk8.size fun b hb h => hk8.block b hb fun hn => hn h)
                clear hF8 hk8 CP EB d0 d1 d2 d3 d4
                go_wp2_with fail
                go_roundw
                case rel => go_light; exact ⟨j + 1, by omega, by go_num, H8.out, E8.out⟩
                case measure => go_light; simp [intOf]; omega
              · obtain rfl : j = M.length := by omega
                have HB2 := Lib.hid (hand_back HOR.out HCL.out HM.out hHj.out)
                clear hHj hEj
                have HZ : Hid (Fam D7 W wr X [[], L, L]) := hand_end hp2 HB2.out
                clear HB2 H7 E7 HM HMC hMl hbl
                have CLa := Lib.hid (HZ.out.len (i := 0) rfl)
                have CLb := Lib.hid (HZ.out.len (i := 1) rfl)
                have CLc := Lib.hid (HZ.out.len (i := 2) rfl)
                have hnn : ((L.length : Int) != (L.length : Int)) = false := by simp
                go_wp2_with fail
                refine CLa.out.mono ?_
                rintro e w8 ⟨rfl, rfl⟩
                rw [show (([] : List Ent)).length = 0 from rfl]
                go_wp2_with fail
                refine CLb.out.mono ?_
                rintro e w9 ⟨rfl, rfl⟩
                go_wp2_with fail
                refine CLc.out.mono ?_
                rintro e w10 ⟨rfl, rfl⟩
                have CG := Lib.hid (HZ.out.groups (i := 2) rfl)
                clear CLa CLb CLc
                go_wp2_with fail
                refine CG.out.mono ?_
                rintro e w11 ⟨v11, rfl, hS11, hb11⟩
                have F11 := Lib.hid (HZ.out.later hb11)
                have S11 := Lib.hid hS11
                obtain ⟨a11, c11, rfl, _⟩ := hS11.slice
                obtain ⟨G, hG⟩ : ∃ z, z = groupsE L := ⟨_, rfl⟩
                have hgl : G.length ≤ 30 := by rw [hG]; exact Nat.le_trans (groupsE_len L) hfew
                rw [← hG] at S11 ⊢
                clear hS11 CG hb11 hG HZ
                go_wp2_with fail
                go_loopw [127] (fun ii wi => ∃ t : Nat, t ≤ G.length ∧ ii = .int .i64 t ∧ Hid (∃ y : Later w11, wi = y.world)) (fun ii _ => G.length - (intOf ii).toNat)
                case atStart => exact ⟨0, Nat.zero_le _, rfl, ⟨_, Below.refl _ _⟩, rfl⟩
                case round =>
                  obtain ⟨t, ht, rfl, hy⟩ := hrel
                  obtain ⟨y, rfl⟩ := hy
                  by_cases hltt : t < G.length
                  · obtain ⟨b1, off1, ea1, _, hbz1, d1⟩ := SlAt.at S11.out t hltt _ y.below
                    cases ea1
                    obtain ⟨g, hg⟩ : ∃ z, z = nthT G t := ⟨_, rfl⟩
                    have d1' : y.world.cell? ⟨b1, off1 + t, none⟩ = some (.string (bs g)) := by rw [hg]; exact d1
                    have FY := F11.out.later y.below
                    have CKa := Lib.hid (FY.kids (i := 2) rfl g)
                    have CKb : Hid (∀ w', Below y.world.heap.size y.world w' → Calls Try.prog 11 #[.pointer (some ⟨X + 1, 0, none⟩), .string (bs g)] w' (NewEnts w' (kidsE L g))) := fun w' hb => (FY.later hb).kids (i := 1) rfl g
                    have hKl : (kidsE L g).length ≤ 30 := by unfold kidsE; rw [List.length_map]; exact Nat.le_trans (List.length_filter_le _ _) hfew
                    have hKa : (allE (kidsE L g)).length ≤ 1000 := by
                      have := allE_few (L := kidsE L g) fun e he => by
                        unfold kidsE at he
                        obtain ⟨z, _, rfl⟩ := List.mem_map.1 he
                        have := few_fs (clean_clean z); omega
                      omega
                    obtain ⟨KI, hKI⟩ : ∃ z, z = kidsE L g := ⟨_, rfl⟩
                    rw [← hKI] at CKa CKb hKl hKa
                    clear d1 hg hKI FY
                    go_wp2_with fail
                    refine CKa.out.mono ?_
                    rintro e w12 ⟨v12, rfl, hE12, hb12⟩
                    have CJ := Lib.hid (join_any w12 _ KI hE12 (by omega) (by omega))
                    obtain ⟨a12, c12, rfl, _⟩ := hE12.slice
                    have B12 := Lib.hid hb12
                    clear hE12 hb12 CKa d1'
                    go_wp2_with fail
                    refine CJ.out.mono ?_
                    rintro e w13 ⟨v13, rfl, hS13, hb13⟩
                    obtain ⟨a13, c13, rfl, _⟩ := hS13.slice
                    have S13 := Lib.hid hS13
                    have B13 := Lib.hid (bel_below B12.out hb13)
                    have CKb2 := Lib.hid (CKb.out w13 B13.out)
                    obtain ⟨jb, hjb⟩ : ∃ z, z = (joinE KI).any := ⟨_, rfl⟩
                    rw [← hjb]
                    have HJB := Lib.hid hjb
                    clear hS13 hb13 CJ B12 CKb hjb
                    go_wp2_with fail
                    refine CKb2.out.mono ?_
                    rintro e w14 ⟨v14, rfl, hE14, hb14⟩
                    have CJ2 := Lib.hid (join_any w14 _ KI hE14 (by omega) (by omega))
                    obtain ⟨a14, c14, rfl, _⟩ := hE14.slice
                    have S14 := Lib.hid (SlAt.below S13.out hb14)
                    have B14 := Lib.hid (bel_below B13.out hb14)
                    clear hE14 hb14 CKb2 S13 B13
                    go_wp2_with fail
                    refine CJ2.out.mono ?_
                    rintro e w15 ⟨v15, rfl, hS15, hb15⟩
                    obtain ⟨a15, c15, rfl, _⟩ := hS15.slice
                    rw [← HJB.out]
                    have hjl : (joinE KI).fs.length ≤ 16 := few_fs (clean_clean _)
                    have CT := texts_any w15 _ _ (joinE KI).fs (joinE KI).fs (SlAt.below S14.out hb15) hS15 (by omega)
                    rw [show decide ((joinE KI).fs = (joinE KI).fs) = true from decide_eq_true rfl] at CT
                    have CT := Lib.hid CT
                    have B15 := Lib.hid (bel_below B14.out hb15)
                    have hbb : (jb != jb) = false := by simp
                    clear hS15 hb15 CJ2 S14 B14 HJB
                    go_wp2_with fail
                    refine CT.out.mono ?_
                    rintro e w16 ⟨rfl, hb16⟩
                    have B16 := Lib.hid (bel_below B15.out hb16)
                    clear hb16 CT
                    go_wp2_with fail
                    go_roundw
                    case rel => go_light; exact ⟨t + 1, by omega, by go_num, ⟨_, bel_below y.below B16.out⟩, rfl⟩
                    case measure => go_light; simp [intOf]; omega
                  · obtain rfl : t = G.length := by omega
                    have BZ := Lib.hid (bel_below F11.out.bel y.below)
                    go_wp2_with fail
                    go_ret
                    exact ⟨rfl, BZ.out⟩
      · have hi1 := HI.out
        obtain ⟨m, hm⟩ : ∃ z : Nat, z = ids.length := ⟨_, rfl⟩
        rw [← hm] at hi1 h20 ⊢
        have hm20 : m ≤ ids.length := by omega
        have hmm : m ≤ 20 := by omega
        have HI1 := Lib.hid hi1
        clear hi1 hm
        go_upto_region 14 with (fail)
        go_wp2_with (at_builtin; go_loud (refine wpList_app rfl _ _ 47 rfl wr.heap.size 38 i0 (.int .u64 0) 8 Try.underlying47 hi hz0 hz1 hz2 rfl _ 0 [] rfl (World.ownsRow_made wr #[] 0 (Nat.le_refl _) (by simp [maxLen]) rfl) 0 (fun i => .int .u64 (nth ids i)) m _ rfl (HI1.out.below (bel_alloc hF.out.bel _)) (fun _ => rfl) ?a1x22 ?a2x22 ?a3x22 ?_))
        case a1x22 => simp only [maxLen]; omega
        case a2x22 => omega
        case a3x22 => simp
        intro va wa ho hg
        have BA : Hid (Below wr.heap.size wr wa) := (bel_alloc (Below.refl _ wr) _).grown hg (by simp) (fun q hq => by
          have h := World.ownsRow_made wr (e := 38) (size := 1) (base := wr.heap.size) #[] 0 (Nat.le_refl _) (by simp [maxLen]) rfl
          exact (h.lt q hq).1)
        obtain ⟨aa, ca, rfl⟩ := own_shape ho
        have HO : Hid (wa.ownsRow wr.heap.size 38 1 (.slice aa m ca) m ((List.range m).map fun i => Value.int .u64 (nth ids i))) := show World.ownsRow _ _ _ _ _ _ _ by simpa using ho
        clear ho hg
        go_wp2_with (at_builtin; go_loud (refine wpList_app rfl _ _ 47 rfl wr.heap.size 38 i0 (.int .u64 0) 8 Try.underlying47 hi hz0 hz1 hz2 rfl (.slice aa m ca) m ((List.range m).map fun i => Value.int .u64 (nth ids i)) rfl (ownsRow_same HO.out fun q hq => (bel_alloc (Below.refl _ wa) (.cells #[.int .u64 0] 38)).block q (HO.out.lt q hq).2) 0 (fun _ => .int .u64 0) 1 _ rfl (slI_one _ _ 38 _ rfl) (fun _ => rfl) ?b1x22 ?b2x22 ?b3x22 ?_))
        case b1x22 => simp only [maxLen]; omega
        case b2x22 => omega
        case b3x22 => have := BA.out.size; simp; omega
        intro vb wb ho hg
        have BB : Hid (Below wr.heap.size wr wb) := (bel_alloc BA.out _).grown hg (by have := BA.out.size; simp; omega) (fun q hq => (HO.out.lt q hq).1)
        obtain ⟨D2, gc, qc, rfl, HC⟩ := hand_cells hF.out BB.out ho (by omega)
        obtain ⟨L, hL⟩ : ∃ z, z = putsE [] (cutL l) := ⟨_, rfl⟩
        have H1 := Lib.hid (hand_two HC hend.out hL)
        have HSM : Hid (∀ e ∈ L, e.g.length ≤ 1000000) := fun e he => by rw [hL] at he; have := cut_mem he; omega
        have HCL : Hid (∀ e ∈ L, cleanE e = e) := fun e he => by rw [hL] at he; exact cut_clean he
        have HOR : Hid (OrdE L) := by rw [hL]; exact cut_ord l
        have hfew : L.length ≤ 30 := by rw [hL]; exact cut_few l
        have HLN := Lib.hid (cutsC_len hm20)
        clear hL hend HC ho hg HO BA BB hF
        go_wp2_with fail
        go_loopw [12, 74] (fun la ii wr => ∃ (i : Nat) (a : Int) (q : Ent → Bool) (D : Nat → Prop) (f : Int → Option Value) (Lc cm : Int) (N : Nat), i ≤ m + 1 ∧ ii = .int .i64 i ∧ la = .int .u64 a ∧ 0 ≤ Lc ∧ Lc ≤ i ∧ N ≤ i + 1 ∧ Hid ((f 2).getD zOne = .agg #[.int .i64 Lc, .int .u64 cm]) ∧ Hid (Hand D W wr X [aL L q, bL L q, L] xb N f (cutsC ids m) (.slice (some ⟨gc, 0, none⟩) (m + 1) qc))) (fun _ ii _ => m + 1 - (intOf ii).toNat)
        case atStart => exact ⟨0, 0, _, _, _, 0, 0, 1, Nat.zero_le _, rfl, rfl, Int.le_refl _, Int.le_refl _, Nat.le_refl _, (show (f1 2).getD zOne = _ by rw [HF1.out]; rfl), H1.out⟩
        case round =>
          obtain ⟨i, a, q, D, f, Lc, cm, N, hi, rfl, rfl, hLc0, hLc, hNi, hfc, hH⟩ := hrel
          by_cases hlti : i < m + 1
          · obtain ⟨g', cap', e9, hgz, hcell⟩ := Hand.at hH.out (i := i) (by rw [HLN.out]; omega)
            rw [HLN.out] at e9
            cases e9
            rw [Nat.zero_add] at hcell
            obtain ⟨c, hc⟩ : ∃ z, z = nth (cutsC ids m) i := ⟨_, rfl⟩
            rw [← hc] at hcell
            clear hc
            by_cases hca : c = a
            · have hcb : (c == a) = true := by simpa using hca
              subst hca
              go_wp2_with fail
              go_roundw
              case rel => go_light; exact ⟨i + 1, _, q, D, f, Lc, cm, N, by omega, by go_num, rfl, hLc0, by omega, by omega, hfc.out, hH.out⟩
              case measure => go_light; simp [intOf]; omega
            · have hcb : (c == a) = false := by simpa using hca
              have CC := Lib.hid (hH.out.come 2 ((i : Int) + 1) Lc cm (by omega) (by omega) (by omega) (by omega) hfc.out hLc0 (by omega) (by omega))
              clear hca hfc
              go_wp2_with fail
              refine CC.out.mono ?_
              rintro e w6 ⟨rfl, D6, cm6, hF6⟩
              obtain ⟨f6, hf6⟩ : ∃ z, z = setX f 2 (.agg #[.int .i64 ((i : Int) + 1), .int .u64 cm6]) := ⟨_, rfl⟩
              have HF6 : Hid ((f6 2).getD zOne = .agg #[.int .i64 ((i : Int) + 1), .int .u64 cm6]) := show _ = _ by rw [hf6, setX_same]; rfl
              have H6 : Hid (Hand D6 W w6 X [aL L q, bL L q, L] xb (N + 1) f6 (cutsC ids m) (.slice (some ⟨gc, 0, none⟩) (m + 1) qc)) := by rw [hf6]; exact hF6
              clear hF6 hf6 CC hH hcell hgz
              have CM := H6.out.move (i := 0) rfl (fun e he => HSM.out e (aL_sub he)) a c
              obtain ⟨p1, hp1⟩ : ∃ z, z = inE a c := ⟨_, rfl⟩
              rw [← hp1, aL_clean HCL.out q p1] at CM
              have HMC : Hid (∀ e ∈ (aL L q).filter p1, e.fs.length ≤ 16) := fun e he => few_fs (HCL.out e (aL_sub (List.mem_filter.1 he).1))
              have hMl := aL_len L q p1
              have hbl := bL_len L q
              obtain ⟨M, hM⟩ : ∃ z, z = (aL L q).filter p1 := ⟨_, rfl⟩
              rw [← hM] at CM HMC hMl
              have HM := Lib.hid hM
              clear hM
              have CM := Lib.hid CM
              go_wp2_with fail
              refine CM.out.mono ?_
              rintro e w7 ⟨v7, rfl, D7, hF7, hE7⟩
              obtain ⟨a7, c7, rfl, _⟩ := hE7.slice
              have H7 : Hid (Hand D7 W w7 X [stayE p1 (aL L q), bL L q, L] xb ((N + 1)) f6 (cutsC ids m) (.slice (some ⟨gc, 0, none⟩) (m + 1) qc)) := hF7
              have E7 := Lib.hid hE7
              clear CM hF7 hE7 H6
              go_wp2_with fail
              go_loopw [98] (fun jj wj => ∃ j : Nat, j ≤ M.length ∧ jj = .int .i64 j ∧ Hid (Hand D7 W wj X [stayE p1 (aL L q), putsE (bL L q) (M.take j), L] xb ((N + 1)) f6 (cutsC ids m) (.slice (some ⟨gc, 0, none⟩) (m + 1) qc)) ∧ Hid (EntsIn D7 M wj (.slice a7 M.length c7))) (fun jj _ => M.length - (intOf jj).toNat)
              case atStart => exact ⟨0, Nat.zero_le _, rfl, H7.out, E7.out⟩
              case round =>
                obtain ⟨j, hj, rfl, hHj, hEj⟩ := hrel
                by_cases hltj : j < M.length
                · obtain ⟨b3, off3, fa3, fc3, e3, hD3, hbz3, d0, d1, d2, d3, d4, dS⟩ := EntsIn.at hEj.out j hltj
                  subst e3
                  have hsu : putsE (bL L q) (M.take (j + 1)) = putE (putsE (bL L q) (M.take j)) (cleanE (entAt M j)) := by
                    rw [List.take_succ_eq_append_getElem hltj, entAt_eq hltj]; exact putsE_snoc _ _ _
                  have hfs := HMC.out (entAt M j) (by rw [entAt_eq hltj]; exact List.getElem_mem hltj)
                  have hroom : fullB (putsE (bL L q) (M.take j)) (entAt M j) = false := by
                    have h1 := len_putsE (bL L q) (M.take j)
                    have h2 : (M.take j).length ≤ j := by simp; omega
                    unfold fullB
                    rw [show decide (400 ≤ (putsE (bL L q) (M.take j)).length) = false from decide_eq_false (by omega)]; simp
                  obtain ⟨E, hEe⟩ : ∃ z, z = entAt M j := ⟨_, rfl⟩
                  rw [← hEe] at d0 d1 d2 d3 d4 dS hsu hroom hfs
                  obtain ⟨eg', ec, efs, ea, et⟩ := E
                  dsimp only at d0 d1 d2 d3 d4 dS hfs
                  have BX := bel_alloc (RowKit.Below.refl _ wr) (.cells #[.string (bs eg'), .int .i64 ec, .slice fa3 efs.length fc3, .bool ea, .int .i64 et] 30)
                  have CP := Lib.hid ((hHj.out.later BX).put (i := 1) rfl ⟨eg', ec, efs, ea, et⟩ _ ((dS.slAt).below BX) (show efs.length ≤ _ by omega) hroom)
                  have EB := Lib.hid (hEj.out.below BX)
                  unfold EntV at CP
                  dsimp only at CP
                  rw [← hsu, show sV eg' = .string (bs eg') from rfl] at CP
                  clear hEe dS hsu hroom BX hHj hEj hfs
                  go_wp2_with fail
                  refine CP.out.mono ?_
                  rintro e w8 ⟨rfl, hF8, hk8⟩
                  have H8 := Lib.hid hF8
                  have E8 := Lib.hid (EB.out.imp (fun b _ h => h) hk8.size fun b hb h => hk8.block b hb fun hn => hn h)
                  clear hF8 hk8 CP EB d0 d1 d2 d3 d4
                  go_wp2_with fail
                  go_roundw
                  case rel => go_light; exact ⟨j + 1, by omega, by go_num, H8.out, E8.out⟩
                  case measure => go_light; simp [intOf]; omega
                · obtain rfl : j = M.length := by omega
                  have HB1 := Lib.hid (hand_back HOR.out HCL.out HM.out hHj.out)
                  clear hHj hEj
                  go_wp2_with fail
                  go_roundw
                  case rel => go_light; exact ⟨i + 1, c, _, _, f6, (i : Int) + 1, cm6, N + 1, by omega, by go_num, rfl, by omega, by omega, by omega, HF6.out, HB1.out⟩
                  case measure => go_light; simp [intOf]; omega
          · obtain rfl : i = m + 1 := by omega
            have H6 := hH
            clear hH hfc
            have CM := H6.out.move (i := 0) rfl (fun e he => HSM.out e (aL_sub he)) 0 0
            obtain ⟨p2, hp2⟩ : ∃ z, z = inE 0 0 := ⟨_, rfl⟩
            rw [← hp2, aL_clean HCL.out q p2] at CM
            have HMC : Hid (∀ e ∈ (aL L q).filter p2, e.fs.length ≤ 16) := fun e he => few_fs (HCL.out e (aL_sub (List.mem_filter.1 he).1))
            have hMl := aL_len L q p2
            have hbl := bL_len L q
            obtain ⟨M, hM⟩ : ∃ z, z = (aL L q).filter p2 := ⟨_, rfl⟩
            rw [← hM] at CM HMC hMl
            have HM := Lib.hid hM
            clear hM
            have CM := Lib.hid CM
            go_wp2_with fail
            refine CM.out.mono ?_
            rintro e w7 ⟨v7, rfl, D7, hF7, hE7⟩
            obtain ⟨a7, c7, rfl, _⟩ := hE7.slice
            have H7 : Hid (Hand D7 W w7 X [stayE p2 (aL L q), bL L q, L] xb (N) f (cutsC ids m) (.slice (some ⟨gc, 0, none⟩) (m + 1) qc)) := hF7
            have E7 := Lib.hid hE7
            clear CM hF7 hE7 H6
            go_wp2_with fail
            go_loopw [110] (fun jj wj => ∃ j : Nat, j ≤ M.length ∧ jj = .int .i64 j ∧ Hid (Hand D7 W wj X [stayE p2 (aL L q), putsE (bL L q) (M.take j), L] xb (N) f (cutsC ids m) (.slice (some ⟨gc, 0, none⟩) (m + 1) qc)) ∧ Hid (EntsIn D7 M wj (.slice a7 M.length c7))) (fun jj _ => M.length - (intOf jj).toNat)
            case atStart => exact ⟨0, Nat.zero_le _, rfl, H7.out, E7.out⟩
            case round =>
              obtain ⟨j, hj, rfl, hHj, hEj⟩ := hrel
              by_cases hltj : j < M.length
              · obtain ⟨b3, off3, fa3, fc3, e3, hD3, hbz3, d0, d1, d2, d3, d4, dS⟩ := EntsIn.at hEj.out j hltj
                subst e3
                have hsu : putsE (bL L q) (M.take (j + 1)) = putE (putsE (bL L q) (M.take j)) (cleanE (entAt M j)) := by
                  rw [List.take_succ_eq_append_getElem hltj, entAt_eq hltj]; exact putsE_snoc _ _ _
                have hfs := HMC.out (entAt M j) (by rw [entAt_eq hltj]; exact List.getElem_mem hltj)
                have hroom : fullB (putsE (bL L q) (M.take j)) (entAt M j) = false := by
                  have h1 := len_putsE (bL L q) (M.take j)
                  have h2 : (M.take j).length ≤ j := by simp; omega
                  unfold fullB
                  rw [show decide (400 ≤ (putsE (bL L q) (M.take j)).length) = false from decide_eq_false (by omega)]; simp
                obtain ⟨E, hEe⟩ : ∃ z, z = entAt M j := ⟨_, rfl⟩
                rw [← hEe] at d0 d1 d2 d3 d4 dS hsu hroom hfs
                obtain ⟨eg', ec, efs, ea, et⟩ := E
                dsimp only at d0 d1 d2 d3 d4 dS hfs
                have BX := bel_alloc (RowKit.Below.refl _ wr) (.cells #[.string (bs eg'), .int .i64 ec, .slice fa3 efs.length fc3, .bool ea, .int .i64 et] 30)
                have CP := Lib.hid ((hHj.out.later BX).put (i := 1) rfl ⟨eg', ec, efs, ea, et⟩ _ ((dS.slAt).below BX) (show efs.length ≤ _ by omega) hroom)
                have EB := Lib.hid (hEj.out.below BX)
                unfold EntV at CP
                dsimp only at CP
                rw [← hsu, show sV eg' = .string (bs eg') from rfl] at CP
                clear hEe dS hsu hroom BX hHj hEj hfs
                go_wp2_with fail
                refine CP.out.mono ?_
                rintro e w8 ⟨rfl, hF8, hk8⟩
                have H8 := Lib.hid hF8
                have E8 := Lib.hid (EB.out.imp (fun b _ h => h) hk8.size fun b hb h => hk8.block b hb fun hn => hn h)
                clear hF8 hk8 CP EB d0 d1 d2 d3 d4
                go_wp2_with fail
                go_roundw
                case rel => go_light; exact ⟨j + 1, by omega, by go_num, H8.out, E8.out⟩
                case measure => go_light; simp [intOf]; omega
              · obtain rfl : j = M.length := by omega
                have HB2 := Lib.hid (hand_back HOR.out HCL.out HM.out hHj.out)
                clear hHj hEj
                have HZ : Hid (Fam D7 W wr X [[], L, L]) := hand_end hp2 HB2.out
                clear HB2 H7 E7 HM HMC hMl hbl
                have CLa := Lib.hid (HZ.out.len (i := 0) rfl)
                have CLb := Lib.hid (HZ.out.len (i := 1) rfl)
                have CLc := Lib.hid (HZ.out.len (i := 2) rfl)
                have hnn : ((L.length : Int) != (L.length : Int)) = false := by simp
                go_wp2_with fail
                refine CLa.out.mono ?_
                rintro e w8 ⟨rfl, rfl⟩
                rw [show (([] : List Ent)).length = 0 from rfl]
                go_wp2_with fail
                refine CLb.out.mono ?_
                rintro e w9 ⟨rfl, rfl⟩
                go_wp2_with fail
                refine CLc.out.mono ?_
                rintro e w10 ⟨rfl, rfl⟩
                have CG := Lib.hid (HZ.out.groups (i := 2) rfl)
                clear CLa CLb CLc
                go_wp2_with fail
                refine CG.out.mono ?_
                rintro e w11 ⟨v11, rfl, hS11, hb11⟩
                have F11 := Lib.hid (HZ.out.later hb11)
                have S11 := Lib.hid hS11
                obtain ⟨a11, c11, rfl, _⟩ := hS11.slice
                obtain ⟨G, hG⟩ : ∃ z, z = groupsE L := ⟨_, rfl⟩
                have hgl : G.length ≤ 30 := by rw [hG]; exact Nat.le_trans (groupsE_len L) hfew
                rw [← hG] at S11 ⊢
                clear hS11 CG hb11 hG HZ
                go_wp2_with fail
                go_loopw [127] (fun ii wi => ∃ t : Nat, t ≤ G.length ∧ ii = .int .i64 t ∧ Hid (∃ y : Later w11, wi = y.world)) (fun ii _ => G.length - (intOf ii).toNat)
                case atStart => exact ⟨0, Nat.zero_le _, rfl, ⟨_, Below.refl _ _⟩, rfl⟩
                case round =>
                  obtain ⟨t, ht, rfl, hy⟩ := hrel
                  obtain ⟨y, rfl⟩ := hy
                  by_cases hltt : t < G.length
                  · obtain ⟨b1, off1, ea1, _, hbz1, d1⟩ := SlAt.at S11.out t hltt _ y.below
                    cases ea1
                    obtain ⟨g, hg⟩ : ∃ z, z = nthT G t := ⟨_, rfl⟩
                    have d1' : y.world.cell? ⟨b1, off1 + t, none⟩ = some (.string (bs g)) := by rw [hg]; exact d1
                    have FY := F11.out.later y.below
                    have CKa := Lib.hid (FY.kids (i := 2) rfl g)
                    have CKb : Hid (∀ w', Below y.world.heap.size y.world w' → Calls Try.prog 11 #[.pointer (some ⟨X + 1, 0, none⟩), .string (bs g)] w' (NewEnts w' (kidsE L g))) := fun w' hb => (FY.later hb).kids (i := 1) rfl g
                    have hKl : (kidsE L g).length ≤ 30 := by unfold kidsE; rw [List.length_map]; exact Nat.le_trans (List.length_filter_le _ _) hfew
                    have hKa : (allE (kidsE L g)).length ≤ 1000 := by
                      have := allE_few (L := kidsE L g) fun e he => by
                        unfold kidsE at he
                        obtain ⟨z, _, rfl⟩ := List.mem_map.1 he
                        have := few_fs (clean_clean z); omega
                      omega
                    obtain ⟨KI, hKI⟩ : ∃ z, z = kidsE L g := ⟨_, rfl⟩
                    rw [← hKI] at CKa CKb hKl hKa
                    clear d1 hg hKI FY
                    go_wp2_with fail
                    refine CKa.out.mono ?_
                    rintro e w12 ⟨v12, rfl, hE12, hb12⟩
                    have CJ := Lib.hid (join_any w12 _ KI hE12 (by omega) (by omega))
                    obtain ⟨a12, c12, rfl, _⟩ := hE12.slice
                    have B12 := Lib.hid hb12
                    clear hE12 hb12 CKa d1'
                    go_wp2_with fail
                    refine CJ.out.mono ?_
                    rintro e w13 ⟨v13, rfl, hS13, hb13⟩
                    obtain ⟨a13, c13, rfl, _⟩ := hS13.slice
                    have S13 := Lib.hid hS13
                    have B13 := Lib.hid (bel_below B12.out hb13)
                    have CKb2 := Lib.hid (CKb.out w13 B13.out)
                    obtain ⟨jb, hjb⟩ : ∃ z, z = (joinE KI).any := ⟨_, rfl⟩
                    rw [← hjb]
                    have HJB := Lib.hid hjb
                    clear hS13 hb13 CJ B12 CKb hjb
                    go_wp2_with fail
                    refine CKb2.out.mono ?_
                    rintro e w14 ⟨v14, rfl, hE14, hb14⟩
                    have CJ2 := Lib.hid (join_any w14 _ KI hE14 (by omega) (by omega))
                    obtain ⟨a14, c14, rfl, _⟩ := hE14.slice
                    have S14 := Lib.hid (SlAt.below S13.out hb14)
                    have B14 := Lib.hid (bel_below B13.out hb14)
                    clear hE14 hb14 CKb2 S13 B13
                    go_wp2_with fail
                    refine CJ2.out.mono ?_
                    rintro e w15 ⟨v15, rfl, hS15, hb15⟩
                    obtain ⟨a15, c15, rfl, _⟩ := hS15.slice
                    rw [← HJB.out]
                    have hjl : (joinE KI).fs.length ≤ 16 := few_fs (clean_clean _)
                    have CT := texts_any w15 _ _ (joinE KI).fs (joinE KI).fs (SlAt.below S14.out hb15) hS15 (by omega)
                    rw [show decide ((joinE KI).fs = (joinE KI).fs) = true from decide_eq_true rfl] at CT
                    have CT := Lib.hid CT
                    have B15 := Lib.hid (bel_below B14.out hb15)
                    have hbb : (jb != jb) = false := by simp
                    clear hS15 hb15 CJ2 S14 B14 HJB
                    go_wp2_with fail
                    refine CT.out.mono ?_
                    rintro e w16 ⟨rfl, hb16⟩
                    have B16 := Lib.hid (bel_below B15.out hb16)
                    clear hb16 CT
                    go_wp2_with fail
                    go_roundw
                    case rel => go_light; exact ⟨t + 1, by omega, by go_num, ⟨_, bel_below y.below B16.out⟩, rfl⟩
                    case measure => go_light; simp [intOf]; omega
                  · obtain rfl : t = G.length := by omega
                    have BZ := Lib.hid (bel_below F11.out.bel y.below)
                    go_wp2_with fail
                    go_ret
                    exact ⟨rfl, BZ.out⟩
set_option maxRecDepth 100000 in
theorem wigwagHanded_walk {H : Type} (enc : TypeId × Value → H) (W : World) (v0 : Value) (d0 : DataW H) (p0 : List MemPlace) {r0 : Reach} {b0 : Nat} (ok0 : Value.okWide Try.prog W r0 b0 22 v0) (h0 : DataW.Trod enc Try.prog W 0 (fun _ => true) true 22 v0 d0 p0)
    (hlt0 : ∀ x ∈ p0, x.block < W.heap.size) (sz0 : ∀ n ∈ d0.weights Try.prog 22, n ≤ reachBytes) (v1 : Value) (d1 : DataW H) (p1 : List MemPlace) {r1 : Reach} {b1 : Nat} (ok1 : Value.okWide Try.prog W r1 b1 47 v1) (h1 : DataW.Trod enc Try.prog W 0 (fun _ => true) true 47 v1 d1 p1)
    (hlt1 : ∀ x ∈ p1, x.block < W.heap.size) (sz1 : ∀ n ∈ d1.weights Try.prog 47, n ≤ reachBytes) :
    Calls Try.prog 8 #[v0, v1] W fun e W' => e = .returned (.bool true) ∧ Below W.heap.size W W' := by
  obtain ⟨l, hE, _⟩ := ents_open ok0 h0
  obtain ⟨ids, hi⟩ := ids_open ok1 h1
  exact handed_main W v0 v1 l ids hE hi
end Go.Proofs.Ytacdgfkahppmdaa
