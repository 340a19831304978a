

/-
  Plan: what goes where, from one circle's keepers to another one's.
-/
import Derived.Test.YtahiahjhpakeiaaGreatDoorRdvL
import Derived.Test.YtahiahjhpakeiaaGreatDoorSrtF
namespace Go.Proofs.YtahiahjhpakeiaaGreatDoor
open Go.RowKit Go.Maps Go.Sort Go.WideShapes Go.ChangeShapes Go.Deep
set_option linter.unusedVariables false
set_option linter.unusedSimpArgs false
attribute [local go_sem] later_cell later_frozen later_lt cell_set_off cell_set_block

theorem enter_plan1 (args : Array Value) (w : World) : (callFunc 56 args).run Tryz.prog w = .ok (.enter 56 args) w := by kernel_rfl
def zM : Value := .agg #[.string ByteArray.empty, .int .i64 0, .int .i64 0]
noncomputable def mvI : TypeInfo := (Tryz.prog.info? 53).get (by kernel_rfl)
theorem mvI_at : Tryz.prog.info? 53 = some mvI := by kernel_rfl
theorem mv_info : ∃ i0, Tryz.prog.info? 53 = some i0 ∧ i0.zero = some zM ∧ i0.size = 3 ∧ i0.bytes = 32 := ⟨mvI, mvI_at, by kernel_rfl, by kernel_rfl, by kernel_rfl⟩
theorem mvCells_len (m : Mv) : (mvCells m).length = 3 := rfl
/-- Moves in a row of the call's own. -/
def OwnM (B : Nat) (l : List Mv) (w : World) (v : Value) : Prop := w.ownsRow B 53 3 v l.length (l.flatMap mvCells)
theorem OwnM.below {B : Nat} {l : List Mv} {w w' : World} {v : Value} (h : OwnM B l w v) (hb : Below w.heap.size w w') : OwnM B l w' v := ownsRow_same h fun q hq => hb.block q (World.ownsRow.lt h q hq).2
theorem ownM_nil (B : Nat) (w : World) : OwnM B [] w (.slice none 0 0) := ⟨rfl, Or.inl ⟨rfl, rfl⟩⟩
theorem OwnM.slice {B : Nat} {l : List Mv} {w : World} {v : Value} (h : OwnM B l w v) : ∃ a c, v = .slice a l.length c := by
  rcases h.2 with ⟨rfl, h0⟩ | ⟨g', cap', cur, rfl, _⟩
  · rw [h0]; exact ⟨_, _, rfl⟩
  · exact ⟨_, _, rfl⟩
/-- Moves in memory. -/
def MvSl (B : Nat) (l : List Mv) (w : World) (v : Value) : Prop := (l = [] ∧ v = .slice none 0 0) ∨ ∃ q cap, v = .slice (some ⟨q, 0, none⟩) l.length cap ∧ B ≤ q ∧ l.length ≤ cap ∧ cap ≤ maxLen ∧ MvIn w q l
theorem MvSl.below {B : Nat} {l : List Mv} {w w' : World} {v : Value} (h : MvSl B l w v) (hb : Below w.heap.size w w') : MvSl B l w' v := by
  rcases h with h | ⟨q, cap, h1, h2, h3, h4, h5⟩
  · exact Or.inl h
  · exact Or.inr ⟨q, cap, h1, h2, h3, h4, h5.below hb⟩
theorem MvSl.slice {B : Nat} {l : List Mv} {w : World} {v : Value} (h : MvSl B l w v) : ∃ a c, v = .slice a l.length c := by
  rcases h with ⟨rfl, rfl⟩ | ⟨q, cap, rfl, _⟩
  · exact ⟨_, _, rfl⟩
  · exact ⟨_, _, rfl⟩
theorem OwnM.mv {B : Nat} {l : List Mv} {w : World} {v : Value} (h : OwnM B l w v) : MvSl B l w v := by
  have hc := fun g hg => World.ownsRow.cells h (g := g) hg
  have hf := fun g hg o => own_frozen h (q := g) hg o
  rcases h.2 with ⟨rfl, h0⟩ | ⟨g, cap, cur, rfl, hB, hg, hn, hm, hs, ht⟩
  · exact Or.inl ⟨List.length_eq_zero_iff.1 h0, rfl⟩
  · refine Or.inr ⟨g, cap, rfl, hB, hn, hm, fun k hk => ?_, fun o => hf g rfl o, (Array.getElem?_eq_some_iff.1 hg).1⟩
    have q : ∀ j u, (mvCells (elt l k))[j]? = some u → w.cell? ⟨g, k * 3 + j, none⟩ = some u := fun j u hu => by
      have hj : j < 3 := (List.getElem?_eq_some_iff.1 hu).1
      have := hc g rfl (k * 3 + j) u (by rw [flat_at mvCells mvCells_len l k j (elt l k) (by rw [elt_eq hk]; exact List.getElem?_eq_getElem hk) hj]; exact hu)
      rw [add_spot _ _ rfl] at this
      simpa using this
    exact ⟨q 0 _ rfl, q 1 _ rfl, q 2 _ rfl⟩
/-- 'append(s, x)', s of the call's own, x a move. -/
theorem wpList_app_row_mv {w : World} {ops : Array Oper} {rest : List Oper} {o : Oper} {a : Act} {Q : Exit → Act → World → Prop} (hgd : o.guard = none) (s x : Operand)
    (ho : o.op = .call { callee := .builtin .append, args := #[s, x], argTypes := #[47, 47] }) (B : Nat) (l : List Mv) (v : Value) (hs : a.eval s = v) (hown : OwnM B l w v)
    (b : Nat) (m : Mv) (hx : a.eval x = .slice (some ⟨b, 0, none⟩) 1 1) (hrow : MvC w b 0 m) (hl : l.length ≤ 1000000) (hB : B ≤ w.heap.size)
    (h : ∀ v' w', Hid (OwnM B (l ++ [m]) w' v') → Hid (w.grownBy w' v.ownBlock) → Hid (v'.ownBlock = v.ownBlock ∨ v'.ownBlock = some w.heap.size) → wpList Tryz.prog ops Q rest (a.put o.dst v') w') : wpList Tryz.prog ops Q (o :: rest) a w := by
  obtain ⟨i0, hi0, hz0, hz1, hz2⟩ := mv_info
  refine wpList_app_wide (P := Tryz.prog) hgd s x 47 ho B 53 i0 zM 3 32 Tryz.underlying47 hi0 hz0 hz1 hz2 rfl (by decide) v l.length (l.flatMap mvCells) hs hown b 0 1 1 (fun j => (mvCells m).getD j undef) hx (by decide) ?_ ?_ (by simp only [maxLen]; omega) (by omega) hB (mvCells m) ?_ ?_
  · intro j hj
    have : j = 0 ∨ j = 1 ∨ j = 2 := by omega
    rcases this with rfl | rfl | rfl
    · exact hrow.c0
    · exact hrow.c1
    · exact hrow.c2
  · intro j hj
    have : j = 0 ∨ j = 1 ∨ j = 2 := by omega
    rcases this with rfl | rfl | rfl <;> rfl
  · rfl
  · intro v' w' q1 q2 q3
    refine h v' w' ?_ q2 q3
    show World.ownsRow _ _ _ _ _ _ _
    rw [List.length_append, List.flatMap_append]
    simpa using q1
theorem Kept.grow {T : Nat → Prop} {w w1 w2 : World} {o : Option Nat} (h : Kept T w w1) (hg : w1.grownBy w2 o) (ho : ∀ q, o = some q → T q ∨ w.heap.size ≤ q) : Kept T w w2 :=
  ⟨hg.os.trans h.os, hg.tape.trans h.tape, hg.output.trans h.output, Nat.le_trans h.size hg.size, fun b hb hT => (hg.block b (Nat.lt_of_lt_of_le hb h.size) fun e => (ho b e.symm).elim hT fun h2 => by omega).trans (h.block b hb hT)⟩
theorem slAt_kept2 {B : Nat} {gg : Nat → Value} {n : Nat} {w w' : World} {v : Value} {T : Nat → Prop} (h : SlAt B gg n w v) (hk : Kept T w w') (hT : ∀ b, B ≤ b → b < w.heap.size → ¬ T b) : SlAt B gg n w' v := by
  obtain ⟨a, cap, rfl, h1, h2, h3, h4⟩ := h
  refine ⟨a, cap, rfl, h1, h2, h3, h4.imp id ?_⟩
  rintro ⟨b, off, rfl, h7, h5, h6⟩
  exact ⟨b, off, rfl, h7, Nat.lt_of_lt_of_le h5 hk.size, fun i hi => (World.cell?_of_block (hk.block b h5 (hT b h7 h5))).trans (h6 i hi)⟩
/-- The first keeper that still lives. -/
theorem find_first {p : Int → Bool} : ∀ {l : List Int} {r : Int}, FirstI p l r → (r = -1 ∧ l.find? p = none) ∨ ∃ k : Nat, r = k ∧ k < l.length ∧ l.find? p = some (nth l k) := by
  intro l r h
  rcases h with ⟨h1, h2⟩ | ⟨k, h1, h2, h3, h4⟩
  · exact Or.inl ⟨h1, List.find?_eq_none.2 fun x hx => by rw [h2 x hx]; simp⟩
  · refine Or.inr ⟨k, h1, h2, ?_⟩
    rw [List.find?_eq_some_iff_getElem]
    refine ⟨h3, k, h2, (nth_eq h2).symm, fun j hj => ?_⟩
    have := h4 j hj
    rw [nth_eq (by omega)] at this
    simp [this]
/-- What has been planned of a group. -/
def planN (f f' : RS) (X : Int) (g : Str) (o : Int) (j : Nat) : List Mv := (((keepK f' X).take j).filter fun n => !(keepK f X).contains n).map fun n => ⟨g, o, n⟩
theorem planN_succ {f f' : RS} {X : Int} {g : Str} {o : Int} {j : Nat} (hj : j < (keepK f' X).length) : planN f f' X g o (j + 1) = if (keepK f X).contains (nth (keepK f' X) j) then planN f f' X g o j else planN f f' X g o j ++ [⟨g, o, nth (keepK f' X) j⟩] := by
  unfold planN
  rw [List.take_succ_eq_append_getElem hj, List.filter_append, List.map_append, nth_eq hj]
  by_cases h : (keepK f X).contains (keepK f' X)[j] = true
  · rw [if_pos h]; simp only [List.filter_cons, h, Bool.not_true]; simp
  · have h' : (keepK f X).contains (keepK f' X)[j] = false := by simpa using h
    rw [if_neg h]; simp only [List.filter_cons, h', Bool.not_false]; simp
theorem planN_len (f f' : RS) (X : Int) (g : Str) (o : Int) (j : Nat) : (planN f f' X g o j).length ≤ 3 := by
  unfold planN
  rw [List.length_map]
  have h1 := List.length_filter_le (fun n => !(keepK f X).contains n) ((keepK f' X).take j)
  have h2 : ((keepK f' X).take j).length ≤ 3 := by rw [List.length_take]; exact Nat.min_le_right _ _
  omega
theorem planN_all {f f' : RS} {X : Int} {g : Str} {o : Int} (h : (keepK f X).find? (livesR f') = some o) : planN f f' X g o 3 = planG f f' X g := by
  unfold planN planG
  rw [h]
  have : (keepK f' X).take 3 = keepK f' X := List.take_of_length_le (Nat.le_refl _)
  rw [this]
/-- A plan's moves are each once by their keys. -/
theorem planG_g {f f' : RS} {X : Int} {g : Str} {m : Mv} (h : m ∈ planG f f' X g) : m.g = g := by
  unfold planG at h
  split at h
  · simp at h
  · obtain ⟨n, _, rfl⟩ := List.mem_map.1 h; rfl
theorem planG_nodup {f f' : RS} (I' : Inv f') (X : Int) (g : Str) : ((planG f f' X g).map fun m => (m.g, m.to)).Nodup := by
  unfold planG
  split
  · simp
  · rw [List.map_map]
    have := (keepK_nodup I' X).sublist (List.filter_sublist (p := fun n => !(keepK f X).contains n))
    revert this
    generalize (keepK f' X).filter (fun n => !(keepK f X).contains n) = l
    intro h
    refine List.pairwise_map.2 (h.imp fun {a b} hab e => hab ?_)
    exact congrArg Prod.snd e
theorem planU_nodup {f f' : RS} (I' : Inv f') (X : Str → Int) : ∀ {gs : List Str}, gs.Nodup → ((planU X f f' gs).map fun m => (m.g, m.to)).Nodup
  | [], _ => by simp [planU]
  | g :: gs, h => by
    have h' := List.nodup_cons.1 h
    have e : planU X f f' (g :: gs) = planG f f' (X g) g ++ planU X f f' gs := by unfold planU; rw [List.flatMap_cons]
    rw [e, List.map_append]
    refine List.nodup_append.2 ⟨planG_nodup I' _ _, planU_nodup I' X h'.2, fun a ha b hb hab => ?_⟩
    subst hab
    obtain ⟨m, hm, e1⟩ := List.mem_map.1 ha
    obtain ⟨m2, hm2, e2⟩ := List.mem_map.1 hb
    unfold planU at hm2
    obtain ⟨g2, hg2, hm2⟩ := List.mem_flatMap.1 hm2
    have h1 := planG_g hm
    have h2 := planG_g hm2
    have : m.g = m2.g := by have := e1.trans e2.symm; exact congrArg Prod.fst this
    rw [h1, h2] at this
    exact h'.1 (this ▸ hg2)
/-- What Plan answers: the moves, in order. -/
def PlanPost (w : World) (f f' : RS) (l : List Str) (e : Ending) (w' : World) : Prop :=
  ∃ v L, e = .returned v ∧ MvSl w.heap.size L w' v ∧ OrdM L ∧ L.Perm (planU (fun g => keyH (bs g)) f f' (setS l)) ∧ Below w.heap.size w w'
set_option maxRecDepth 100000 in
set_option maxHeartbeats 8000000 in
theorem plan_any (w : World) (f f' : RS) (I : Inv f) (I' : Inv f') (av iv bv jv : Value) (hc : SlAt 0 (fun i => .int .i64 (nth (circ f) i)) (circ f).length w av) (hi : SlAt 0 (fun i => .int .u64 (nth ((circ f).map (idR f)) i)) (circ f).length w iv)
    (hc2 : SlAt 0 (fun i => .int .i64 (nth (circ f') i)) (circ f').length w bv) (hi2 : SlAt 0 (fun i => .int .u64 (nth ((circ f').map (idR f')) i)) (circ f').length w jv)
    (v : Value) (l : List Str) (hs : SlS 0 l w v) (hl : l.length ≤ 1000) (hz : ∀ s ∈ l, (bs s).size ≤ 1000000) :
    Calls Tryz.prog 13 #[.agg #[av, iv], .agg #[bv, jv], v] w (PlanPost w f f' l) := by
  obtain ⟨i0, hi0, hz0, hz1, hz2⟩ := mv_info
  have HC := Lib.hid hc
  have HI := Lib.hid hi
  have HC2 := Lib.hid hc2
  have HI2 := Lib.hid hi2
  have HIV := Lib.hid I
  have HIV2 := Lib.hid I'
  have SN := Lib.hid hs
  have HZ : Hid (∀ s ∈ setS l, (bs s).size ≤ 1000000) := fun s h => hz s ((mem_setS l s).1 h)
  have hll : (setS l).length ≤ 1000 := by have := setS_len l; omega
  have HUP : Hid (UpS (setS l)) := setS_up l
  obtain ⟨aa, ac, rfl, _⟩ := hc.slice
  obtain ⟨ia, ic, rfl, _⟩ := hi.slice
  obtain ⟨ba, bc, rfl, _⟩ := hc2.slice
  obtain ⟨ja, jc, rfl, _⟩ := hi2.slice
  obtain ⟨na, nc, rfl, _⟩ := hs.slice
  clear hc hi hc2 hi2 hs hz I I'
  have HP : Hid (∀ v L w', MvSl w.heap.size L w' v → OrdM L → L.Perm (planU (fun g => keyH (bs g)) f f' (setS l)) → Below w.heap.size w w' → PlanPost w f f' l (.returned v) w') := fun v L w' h1 h2 h3 h4 => ⟨v, L, rfl, h1, h2, h3, h4⟩
  obtain ⟨cl, hcl⟩ : ∃ z, z = (circ f).length := ⟨_, rfl⟩
  obtain ⟨cl2, hcl2⟩ : ∃ z, z = (circ f').length := ⟨_, rfl⟩
  have CA0 := Lib.hid fun (w' : World) (hb : Below w.heap.size w w') gb hgz => keep_any w' f HIV.out _ _ (HC.out.below hb) (HI.out.below hb) gb hgz
  have CB0 := Lib.hid fun (w' : World) (hb : Below w.heap.size w w') gb hgz => keep_any w' f' HIV2.out _ _ (HC2.out.below hb) (HI2.out.below hb) gb hgz
  have CP0 := Lib.hid fun (w' : World) (hb : Below w.heap.size w w') => plan1_any w' f' HIV2.out _ _ (HC2.out.below hb) (HI2.out.below hb)
  rw [← hcl] at CA0 ⊢
  rw [← hcl2] at CB0 CP0 ⊢
  clear hcl hcl2 HC HI HC2 HI2
  go_enter Tryz.func13, Tryz.ntmps13
  go_upto_region 1 with (fail)
  obtain ⟨A, hA⟩ : ∃ z, z = w.heap.size := ⟨_, rfl⟩
  obtain ⟨B, hB⟩ : ∃ z, z = A + 1 := ⟨_, rfl⟩
  obtain ⟨w1, hw1⟩ : ∃ z, z = (w.alloc (.cells #[.slice aa cl ac, .slice ia cl ic] 38)).alloc (.cells #[.slice ba cl2 bc, .slice ja cl2 jc] 38) := ⟨_, rfl⟩
  have b1 : Below w.heap.size w w1 := by rw [hw1]; exact bel_alloc (bel_alloc (Below.refl _ _) _) _
  have y0 : w1.cell? ⟨A, 0, none⟩ = some (.slice aa cl ac) := by rw [hw1, hA]; simp [go_sem]
  have y1 : w1.cell? ⟨A, 1, none⟩ = some (.slice ia cl ic) := by rw [hw1, hA]; simp [go_sem]
  have yz : A < w1.heap.size := by rw [hw1, hA]; simp; omega
  have x0 : w1.cell? ⟨B, 0, none⟩ = some (.slice ba cl2 bc) := by rw [hw1, hB, hA]; simp [go_sem]
  have x1 : w1.cell? ⟨B, 1, none⟩ = some (.slice ja cl2 jc) := by rw [hw1, hB, hA]; simp [go_sem]
  have xz : B < w1.heap.size := by rw [hw1, hB, hA]; simp
  have B1 := Lib.hid b1
  rw [← hw1]
  try rw [← hA]
  try rw [← hB]
  clear hw1 hA hB
  go_wp2_with fail
  refine (cloneS_any w1 _ l (SN.out.below b1) (by omega)).mono ?_
  rintro e w2 ⟨v2, rfl, ho2, hb2⟩
  have O2 := Lib.hid (OwnS.of_row ho2)
  have BB2 := Lib.hid hb2
  obtain ⟨a2, c2, rfl⟩ : ∃ a2 c2, v2 = .slice a2 l.length c2 := by obtain ⟨a, c, e, _⟩ := O2.out.slAt.slice; exact ⟨a, c, e⟩
  clear ho2 hb2 b1 SN
  go_wp2_with fail
  refine (sortS_any w2 _ l w1.heap.size O2.out (by omega)).mono ?_
  rintro e w3 ⟨rfl, o3, hb3⟩
  have O3 := Lib.hid o3
  have BB3 := Lib.hid (BB2.out.trans hb3)
  clear o3 hb3 BB2 O2
  go_wp2_with fail
  refine (compactS_any w3 _ (l.mergeSort fun x y => decide (x ≤ y)) w1.heap.size O3.out (by rw [sort_len]; omega)).mono ?_
  rintro e w4 ⟨v4, rfl, s4, hb4⟩
  have BB4 := Lib.hid (BB3.out.trans hb4)
  rw [show Lib.compact (l.mergeSort fun x y => decide (x ≤ y)) = setS l from rfl] at s4
  obtain ⟨L, hL⟩ : ∃ z, z = setS l := ⟨_, rfl⟩
  rw [← hL] at s4 HZ hll HUP HP
  obtain ⟨a4, c4, rfl, _⟩ := s4.slice
  have S4 := Lib.hid (s4.base (B' := 0) (Nat.zero_le _))
  have hw4 : w.heap.size ≤ w4.heap.size := (bel_below B1.out BB4.out).size
  clear s4 hb4 BB3 O3 hL
  go_wp2_with fail
  go_loopw [7, 22] (fun o i wr => ∃ k : Nat, k ≤ L.length ∧ i = .int .i64 k ∧ Hid (OwnM w4.heap.size (planU (fun g => keyH (bs g)) f f' (L.take k)) wr o) ∧ Hid (Below w4.heap.size w4 wr)) (fun _ i _ => L.length - (intOf i).toNat)
  case atStart => exact ⟨0, Nat.zero_le _, rfl, ownM_nil _ _, Below.refl _ _⟩
  case round =>
    obtain ⟨k, hk, rfl, hO, hB⟩ := hrel
    have BR := Lib.hid (bel_below BB4.out hB.out)
    obtain ⟨oa, oc, rfl⟩ := hO.out.slice
    have hplen : (planU (fun g => keyH (bs g)) f f' (L.take k)).length ≤ 3 * k := by
      have h1 := planU_len (fun g => keyH (bs g)) f f' (L.take k)
      rw [List.length_take] at h1; omega
    by_cases hlt : k < L.length
    · obtain ⟨sb, so, rfl, _, hsz, hck⟩ := S4.out.at k hlt wr hB.out
      have hgz := HZ.out _ (show nthT L k ∈ L by rw [nthT_eq hlt]; exact List.getElem_mem hlt)
      have HSN : Hid (planU (fun g => keyH (bs g)) f f' (L.take (k + 1)) = planU (fun g => keyH (bs g)) f f' (L.take k) ++ planG f f' (keyH (bs (nthT L k))) (nthT L k)) := show _ = _ by
        rw [List.take_succ_eq_append_getElem hlt, planU_snoc, nthT_eq hlt]
      obtain ⟨M, hM⟩ : ∃ z, z = planU (fun g => keyH (bs g)) f f' (L.take k) := ⟨_, rfl⟩
      rw [← hM] at hO HSN hplen ⊢
      obtain ⟨g, hg⟩ : ∃ z, z = nthT L k := ⟨_, rfl⟩
      rw [← hg] at hck hgz HSN
      replace hck : wr.cell? ⟨sb, so + k, none⟩ = some (.string (bs g)) := hck
      clear hg hM
      have y0 := (BR.out.cell (p := ⟨A, 0, none⟩) yz).trans y0
      have y1 := (BR.out.cell (p := ⟨A, 1, none⟩) yz).trans y1
      have x0 := (BR.out.cell (p := ⟨B, 0, none⟩) xz).trans x0
      have x1 := (BR.out.cell (p := ⟨B, 1, none⟩) xz).trans x1
      have yzr := Nat.lt_of_lt_of_le yz BR.out.size
      have xzr := Nat.lt_of_lt_of_le xz BR.out.size
      have BW := Lib.hid (bel_below B1.out BR.out)
      have CA := Lib.hid fun w' (hb : Below wr.heap.size wr w') => CA0.out w' (bel_below BW.out hb) (bs g) hgz
      have CB := Lib.hid fun w' (hb : Below wr.heap.size wr w') => CB0.out w' (bel_below BW.out hb) (bs g) hgz
      have HFF : Hid (∀ r, FirstI (livesR f') (keepK f (keyH (bs g))) r → (r = -1 ∧ planG f f' (keyH (bs g)) g = []) ∨ ∃ i : Nat, r = i ∧ i < 3 ∧ planN f f' (keyH (bs g)) g (nth (keepK f (keyH (bs g))) i) 3 = planG f f' (keyH (bs g)) g) := fun r h => by
        rcases find_first h with ⟨h1, h2⟩ | ⟨i, h1, h2, h3⟩
        · left; refine ⟨h1, ?_⟩; unfold planG; rw [h2]
        · right; exact ⟨i, h1, h2, planN_all h3⟩
      have HPS : Hid (∀ o j, j < 3 → planN f f' (keyH (bs g)) g o (j + 1) = if (keepK f (keyH (bs g))).contains (nth (keepK f' (keyH (bs g))) j) then planN f f' (keyH (bs g)) g o j else planN f f' (keyH (bs g)) g o j ++ [⟨g, o, nth (keepK f' (keyH (bs g))) j⟩]) := fun o j hj => planN_succ hj
      have HPZ : Hid (∀ o, planN f f' (keyH (bs g)) g o 0 = []) := fun o => by unfold planN; simp
      have HPN : Hid (∀ o j, (planN f f' (keyH (bs g)) g o j).length ≤ 3) := fun o j => planN_len _ _ _ _ _ _
      obtain ⟨pn, hpn⟩ : ∃ z, z = planN f f' (keyH (bs g)) g := ⟨_, rfl⟩
      obtain ⟨pg, hpg⟩ : ∃ z, z = planG f f' (keyH (bs g)) g := ⟨_, rfl⟩
      rw [← hpn] at HPS HPZ HPN HFF
      rw [← hpg] at HSN HFF
      unfold KeepPost at CA CB
      obtain ⟨Z, hZ⟩ : ∃ z, z = wr.heap.size := ⟨_, rfl⟩
      obtain ⟨T, hT⟩ : ∃ z : Nat → Prop, z = fun b => Value.ownBlock (.slice oa M.length oc) = some b := ⟨_, rfl⟩
      have HT : Hid (∀ b, T b → w4.heap.size ≤ b ∧ b < Z) := fun b hb => by rw [hT] at hb; rw [hZ]; exact World.ownsRow.lt hO.out b hb
      have HTE : Hid (∀ q, Value.ownBlock (.slice oa M.length oc) = some q → T q) := fun q hq => by rw [hT]; exact hq
      have HZ1 : Hid (Z ≤ wr.heap.size) := show _ ≤ _ by omega
      clear hZ hT
      obtain ⟨kk, hkk⟩ : ∃ z, z = keepK f (keyH (bs g)) := ⟨_, rfl⟩
      have HK3 : Hid (kk.length = 3) := show _ = _ by rw [hkk]; rfl
      obtain ⟨kn, hkn⟩ : ∃ z, z = keepK f' (keyH (bs g)) := ⟨_, rfl⟩
      have HN3 : Hid (kn.length = 3) := show _ = _ by rw [hkn]; rfl
      rw [← hkk] at CA HFF HPS
      rw [← hkn] at CB HPS
      clear hkk hkn hgz hpn hpg
      go_wp2_with fail
      refine wp_region_heads [0, 1, 3, 4] 7 (fun w' => ∃ x : Later wr, w' = x.world) (by kernel_rfl) (by kernel_rfl) ⟨⟨{ wr with drawn := wr.drawn + 1 }, (RowKit.Below.refl _ _).drew⟩, rfl⟩ (fun d v c a w h => by cases d <;> exact h) ?_
      simp only [headOps]
      repeat (refine wpTame_step (fun K hK => ?_); go_simp; refine hK _ ?_; clear hK K)
      refine wpTame_nil ?_
      have BD : Hid (RowKit.Below wr.heap.size wr { wr with drawn := wr.drawn + 1 }) := (RowKit.Below.refl _ _).drew
      refine wpAnyC_step (f := 3) [2] (by kernel_rfl) rfl rfl (fun i hi => ?_)
      simp only [List.mem_cons, List.not_mem_nil, or_false] at hi
      subst hi
      refine ⟨_, rfl, fun R hR => ?_⟩
      go_wp2_with fail
      refine (CA.out _ BD.out).mono ?_
      rintro e wa ⟨va, rfl, hsa, hba⟩
      obtain ⟨aA, cA, rfl, _⟩ := hsa.slice
      have BA := Lib.hid (bel_below BD.out hba)
      have SA := Lib.hid (hsa.base (B' := Z) HZ1.out)
      clear hsa hba BD CA
      go_wp2_with fail
      refine hR _ _ ⟨⟨wa, (BA).out⟩, rfl⟩ ?_
      clear hR R
      refine wpAnyC_step (f := 2) [5] (by kernel_rfl) rfl rfl (fun i hi => ?_)
      simp only [List.mem_cons, List.not_mem_nil, or_false] at hi
      subst hi
      refine ⟨_, rfl, fun R hR => ?_⟩
      go_wp2_with fail
      refine (CB.out _ BA.out).mono ?_
      rintro e wb ⟨vb, rfl, hsb, hbb⟩
      obtain ⟨aB, cB, rfl, _⟩ := hsb.slice
      have BB := Lib.hid (bel_below BA.out hbb)
      have SA2 := Lib.hid (SA.out.below hbb)
      have SB := Lib.hid (hsb.base (B' := Z) (Nat.le_trans HZ1.out BA.out.size))
      clear hsb hbb BA CB SA
      go_wp2_with fail
      refine hR _ _ ⟨⟨wb, (BB).out⟩, rfl⟩ ?_
      clear hR R
      refine wpAnyC_mid (f := 1) [6] ⟨⟨wb, BB.out⟩, rfl⟩ (by kernel_rfl) (fun d v c a w h => by cases d <;> exact h) ?_
      simp only [headOps]
      repeat (refine wpTame_step (fun K hK => ?_); go_simp; refine hK _ ?_; clear hK K)
      refine wpTame_nil ?_
      refine wpAnyC_end (k := 7) (by decide) rfl rfl (by kernel_rfl) ?_
      have X0 := Lib.hid x0
      have X1 := Lib.hid x1
      have O5 := Lib.hid (hO.out.below BB.out)
      have CX := Lib.hid (indexq_at wb (.slice aA 3 cA) kk (livesR f') 56 #[.pointer (some ⟨B, 0, none⟩)] (by rw [HK3.out]; exact SA2.out.base (Nat.zero_le _)) (by rw [HK3.out]; omega) enter_plan1 (fun w' hb y hy => CP0.out w' (bel_below BW.out (bel_below BB.out hb)) B (((bel_below BB.out hb).cell (p := ⟨B, 0, none⟩) xzr).trans X0.out) (((bel_below BB.out hb).cell (p := ⟨B, 1, none⟩) xzr).trans X1.out) (Nat.lt_of_lt_of_le xzr (bel_below BB.out hb).size) y))
      clear y0 y1 x0 x1 hck hsz
      go_wp2_with fail
      refine CX.out.mono ?_
      rintro e wd ⟨r, rfl, hfr, hbd⟩
      have BE := Lib.hid (bel_below BB.out hbd)
      have O6 := Lib.hid (O5.out.below hbd)
      have SA4 := Lib.hid (SA2.out.below hbd)
      have SB4 := Lib.hid (SB.out.below hbd)
      have hf2 := HFF.out r hfr
      clear hbd CX hfr SA2 SB O5 hO
      rcases hf2 with ⟨hr, hpg0⟩ | ⟨io, hr, hio, hpg0⟩
      · subst hr
        have HPG := Lib.hid hpg0
        clear hpg0
        go_wp2_with fail
        go_roundw
        case rel => go_light; exact ⟨k + 1, by omega, by go_num, (by show OwnM _ _ _ _; rw [HSN.out, HPG.out, List.append_nil]; exact O6.out), bel_below hB.out BE.out⟩
        case measure => go_light; simp [intOf]; omega
      · subst hr
        have HPG := Lib.hid hpg0
        have hrI : ¬ (io : Int) < 0 := by omega
        have hioI : (io : Int) < 3 := by omega
        obtain ⟨no, hno⟩ : ∃ z, z = nth kk io := ⟨_, rfl⟩
        have HNO := Lib.hid hno
        rw [← hno] at HPG
        clear hpg0 hno
        go_wp2_with fail
        go_loopw [7, 39] (fun o i wi => ∃ j : Nat, j ≤ 3 ∧ i = .int .i64 j ∧ Hid (OwnM w4.heap.size (M ++ pn no j) wi o) ∧ Hid (Kept T wd wi) ∧ Hid (∀ q, o.ownBlock = some q → T q ∨ wd.heap.size ≤ q)) (fun _ i _ => 3 - (intOf i).toNat)
        case atStart => exact ⟨0, by omega, rfl, (by show OwnM _ _ _ _; rw [HPZ.out, List.append_nil]; exact O6.out), Kept.refl _ _, fun q hq => Or.inl (HTE.out q hq)⟩
        case round =>
          obtain ⟨j, hj, rfl, hOj, hBi, hQ⟩ := hrel
          have SAj := Lib.hid (slAt_kept2 SA4.out hBi.out fun b h1 _ h2 => by have := (HT.out b h2).2; omega)
          have SBj := Lib.hid (slAt_kept2 SB4.out hBi.out fun b h1 _ h2 => by have := (HT.out b h2).2; omega)
          have hB0 : Hid (Below w4.heap.size w4 wr) := bel_below hB.out BE.out |>.trans (hBi.out.toBelow (bel_below hB.out BE.out).size fun b hb h2 => by have := (HT.out b h2).1; omega)
          obtain ⟨pa, pc, rfl⟩ := hOj.out.slice
          have hML : (M ++ pn no j).length ≤ 3 * k + 3 := by have := HPN.out no j; rw [List.length_append]; omega
          by_cases hltj : j < 3
          · have hjI : ((j : Nat) : Int) < 3 := by omega
            obtain ⟨tb, tof, rfl, _, htz, htc⟩ := SBj.out.at j hltj _ (Below.refl _ _)
            have CC := conti_any wr (.slice aA 3 cA) kk (by rw [HK3.out]; exact SAj.out.base (Nat.zero_le _)) (by rw [HK3.out]; omega) (nth kn j)
            have HPJ := Lib.hid (HPS.out no j hltj)
            obtain ⟨n, hn⟩ : ∃ z, z = nth kn j := ⟨_, rfl⟩
            rw [← hn] at htc CC HPJ
            obtain ⟨bc, hbc⟩ : ∃ z, z = kk.contains n := ⟨_, rfl⟩
            rw [← hbc] at CC HPJ
            obtain ⟨MM, hMM⟩ : ∃ z, z = M ++ pn no j := ⟨_, rfl⟩
            have HMM := Lib.hid hMM
            rw [← hMM] at hOj hML hQ ⊢
            clear hn hbc hMM
            have CC := Lib.hid CC
            cases bc with
            | true =>
              have HPJ2 : Hid (pn no (j + 1) = pn no j) := show _ = _ by rw [HPJ.out]; rfl
              go_wp2_with fail
              refine CC.out.mono ?_
              rintro e we ⟨rfl, hbe⟩
              have O7 := Lib.hid (hOj.out.below hbe)
              have BF := Lib.hid (hBi.out.below hbe)
              clear CC hbe htc htz hOj
              go_wp2_with fail
              go_roundw
              case rel => go_light; exact ⟨j + 1, by omega, by go_num, (by show OwnM _ _ _ _; rw [HPJ2.out, ← HMM.out]; exact O7.out), BF.out, hQ.out⟩
              case measure => go_light; simp [intOf]; omega
            | false =>
              have HPJ2 : Hid (pn no (j + 1) = pn no j ++ [⟨g, no, n⟩]) := show _ = _ by rw [HPJ.out]; rfl
              go_wp2_with fail
              refine CC.out.mono ?_
              rintro e we ⟨rfl, hbe⟩
              have O7 := Lib.hid (hOj.out.below hbe)
              have BF := Lib.hid (hBi.out.below hbe)
              obtain ⟨ob, oo, hoe, _, hoz, hoc⟩ := (SAj.out.below hbe).at io hio _ (Below.refl _ _)
              rw [← HNO.out] at hoc
              have hbz := hbe.size
              clear CC hbe htc htz hOj
              subst hoe
              have hwe : w4.heap.size ≤ we.heap.size := Nat.le_trans hB0.out.size hbz
              have hwdz : wd.heap.size ≤ we.heap.size := BF.out.size
              go_wp2_with (at_builtin; refine wpList_app_row_mv rfl _ _ rfl w4.heap.size MM _ rfl (O7.out.below (bel_alloc (Below.refl _ _) _)) we.heap.size ⟨g, no, n⟩ rfl ⟨by simp [go_sem], by simp [go_sem], by simp [go_sem]⟩ (by omega) (by simp; omega) ?_)
              intro va wz HOA HGA HVA
              have BA : Hid (Kept T wd wz) := (BF.out.below (bel_alloc (Below.refl _ _) _)).grow HGA.out hQ.out
              have hQ2 : Hid (∀ q, va.ownBlock = some q → T q ∨ wd.heap.size ≤ q) := fun q hq => by
                rcases HVA.out with h1 | h1
                · rw [h1] at hq; exact hQ.out q hq
                · rw [h1] at hq
                  cases hq
                  right; first | omega | (simp; omega)
              obtain ⟨va1, va2, rfl⟩ := HOA.out.slice
              clear hQ HGA HVA
              go_wp2_with fail
              go_roundw
              case rel => go_light; exact ⟨j + 1, by omega, by go_num, (by show OwnM _ _ _ _; rw [HPJ2.out, ← List.append_assoc, ← HMM.out]; exact HOA.out), BA.out, hQ2.out⟩
              case measure => go_light; simp [intOf]; omega
          · obtain rfl : j = 3 := by omega
            have hjI : ¬ ((3 : Nat) : Int) < 3 := by omega
            go_wp2_with fail
            go_roundw
            case rel => go_light; exact ⟨k + 1, by omega, by go_num, (by show OwnM _ _ _ _; rw [HSN.out, ← HPG.out]; exact hOj.out), hB0.out⟩
            case measure => go_light; simp [intOf]; omega
    · obtain rfl : k = L.length := by omega
      rw [List.take_length] at hO hplen ⊢
      obtain ⟨M, hM⟩ : ∃ z, z = planU (fun g => keyH (bs g)) f f' L := ⟨_, rfl⟩
      have HMD : Hid ((M.map fun m => (m.g, m.to)).Nodup) := show List.Nodup _ by rw [hM]; exact planU_nodup HIV2.out _ (upS_nodup HUP.out)
      rw [← hM] at hO HP hplen ⊢
      have BWW := Lib.hid (bel_below B1.out BR.out)
      have hwz := BWW.out.size
      rcases hO.out.mv with ⟨hM0, hv0⟩ | ⟨q, cap, hv0, hqB, hcq1, hcq2, hMI⟩
      · injection hv0 with hv1 hv2 hv3
        subst hv1
        rw [hM0] at HP ⊢
        clear hO hM hM0 hplen HMD
        subst hv3
        go_wp2_with (go_at_call 58; refine (ssf_none _ _ _ _).mono ?_; rintro e w' ⟨rfl, rfl⟩)
        go_ret
        exact HP.out _ _ _ (Or.inl ⟨rfl, rfl⟩) List.Pairwise.nil (List.Perm.refl _) BWW.out
      · injection hv0 with hv1 hv2 hv3
        subst hv1
        subst hv3
        have CS := Lib.hid (ssf_any wr q M.length oc M hMI rfl (by omega))
        have hqw : w.heap.size ≤ q := by omega
        clear hO hM hMI
        go_wp2_with fail
        refine CS.out.mono ?_
        rintro e w5 ⟨rfl, Z, hz1, hz2, hM5, hK5⟩
        have hzl := hz1.length_eq
        have HPP := Lib.hid (HP.out (.slice (some ⟨q, 0, none⟩) M.length oc) Z w5 (Or.inr ⟨q, oc, by rw [hzl], hqw, by rw [hzl]; exact hcq1, hcq2, by simpa using hM5⟩) (ordM_of hz2 ((hz1.map _).nodup_iff.2 HMD.out)) hz1 (BWW.out.trans (hK5.toBelow hwz fun b hb h2 => by omega)))
        clear hz1 hz2 hM5 hK5 hzl
        go_wp2_with fail
        go_ret
        exact HPP.out
end Go.Proofs.YtahiahjhpakeiaaGreatDoor
