/-
  Plan: what goes where, from one circle's keepers to another one's. Moves are done: whom the wishes of a group go to has them, too.
-/
import Derived.Test.YtahiahjhpakeiaaGreatDoorKept12
import Derived.Test.YtahiahjhpakeiaaGreatDoorKept15
import Derived.Test.YtahiahjhpakeiaaGreatDoorKept21
import Derived.Test.YtahiahjhpakeiaaGreatDoorKept24
import Derived.Test.YtahiahjhpakeiaaGreatDoorKept26
section
namespace Go.Proofs.YtahiahjhpakeiaaGreatDoor
open Go.RowKit Go.Maps Go.Sort Go.WideShapes Go.ChangeShapes Go.Deep
set_option linter.unusedVariables false
set_option linter.unusedSimpArgs false
attribute [local go_sem] later_cell later_frozen later_lt cell_set_off cell_set_block

theorem enter_plan1 (args : Array Value) (w : World) : (callFunc 56 args).run Tryz.prog w = .ok (.enter 56 args) w := by kernel_rfl
def zM : Value := .agg #[.string ByteArray.empty, .int .i64 0, .int .i64 0]
noncomputable def mvI : TypeInfo := (Tryz.prog.info? 53).get (by kernel_rfl)
theorem mvI_at : Tryz.prog.info? 53 = some mvI := by kernel_rfl
theorem mv_info : ∃ i0, Tryz.prog.info? 53 = some i0 ∧ i0.zero = some zM ∧ i0.size = 3 ∧ i0.bytes = 32 := ⟨mvI, mvI_at, by kernel_rfl, by kernel_rfl, by kernel_rfl⟩
theorem mvCells_len (m : Mv) : (mvCells m).length = 3 := rfl
/-- Moves in a row of the call's own. -/
def OwnM (B : Nat) (l : List Mv) (w : World) (v : Value) : Prop := w.ownsRow B 53 3 v l.length (l.flatMap mvCells)
theorem OwnM.below {B : Nat} {l : List Mv} {w w' : World} {v : Value} (h : OwnM B l w v) (hb : Below w.heap.size w w') : OwnM B l w' v := ownsRow_same h fun q hq => hb.block q (World.ownsRow.lt h q hq).2
theorem ownM_nil (B : Nat) (w : World) : OwnM B [] w (.slice none 0 0) := ⟨rfl, Or.inl ⟨rfl, rfl⟩⟩
theorem OwnM.slice {B : Nat} {l : List Mv} {w : World} {v : Value} (h : OwnM B l w v) : ∃ a c, v = .slice a l.length c := by
  rcases h.2 with ⟨rfl, h0⟩ | ⟨g', cap', cur, rfl, _⟩
  · rw [h0]; exact ⟨_, _, rfl⟩
  · exact ⟨_, _, rfl⟩
/-- Moves in memory. -/
def MvSl (B : Nat) (l : List Mv) (w : World) (v : Value) : Prop := (l = [] ∧ v = .slice none 0 0) ∨ ∃ q cap, v = .slice (some ⟨q, 0, none⟩) l.length cap ∧ B ≤ q ∧ l.length ≤ cap ∧ cap ≤ maxLen ∧ MvIn w q l
theorem MvSl.slice {B : Nat} {l : List Mv} {w : World} {v : Value} (h : MvSl B l w v) : ∃ a c, v = .slice a l.length c := by
  rcases h with ⟨rfl, rfl⟩ | ⟨q, cap, rfl, _⟩
  · exact ⟨_, _, rfl⟩
  · exact ⟨_, _, rfl⟩
theorem OwnM.mv {B : Nat} {l : List Mv} {w : World} {v : Value} (h : OwnM B l w v) : MvSl B l w v := by
  have hc := fun g hg => World.ownsRow.cells h (g := g) hg
  have hf := fun g hg o => own_frozen h (q := g) hg o
  rcases h.2 with ⟨rfl, h0⟩ | ⟨g, cap, cur, rfl, hB, hg, hn, hm, hs, ht⟩
  · exact Or.inl ⟨List.length_eq_zero_iff.1 h0, rfl⟩
  · refine Or.inr ⟨g, cap, rfl, hB, hn, hm, fun k hk => ?_, fun o => hf g rfl o, (Array.getElem?_eq_some_iff.1 hg).1⟩
    have q : ∀ j u, (mvCells (elt l k))[j]? = some u → w.cell? ⟨g, k * 3 + j, none⟩ = some u := fun j u hu => by
      have hj : j < 3 := (List.getElem?_eq_some_iff.1 hu).1
      have := hc g rfl (k * 3 + j) u (by rw [flat_at mvCells mvCells_len l k j (elt l k) (by rw [elt_eq hk]; exact List.getElem?_eq_getElem hk) hj]; exact hu)
      rw [add_spot _ _ rfl] at this
      simpa using this
    exact ⟨q 0 _ rfl, q 1 _ rfl, q 2 _ rfl⟩
/-- 'append(s, x)', s of the call's own, x a move. -/
theorem wpList_app_row_mv {w : World} {ops : Array Oper} {rest : List Oper} {o : Oper} {a : Act} {Q : Exit → Act → World → Prop} (hgd : o.guard = none) (s x : Operand)
    (ho : o.op = .call { callee := .builtin .append, args := #[s, x], argTypes := #[47, 47] }) (B : Nat) (l : List Mv) (v : Value) (hs : a.eval s = v) (hown : OwnM B l w v)
    (b : Nat) (m : Mv) (hx : a.eval x = .slice (some ⟨b, 0, none⟩) 1 1) (hrow : MvC w b 0 m) (hl : l.length ≤ 1000000) (hB : B ≤ w.heap.size)
    (h : ∀ v' w', Hid (OwnM B (l ++ [m]) w' v') → Hid (w.grownBy w' v.ownBlock) → Hid (v'.ownBlock = v.ownBlock ∨ v'.ownBlock = some w.heap.size) → wpList Tryz.prog ops Q rest (a.put o.dst v') w') : wpList Tryz.prog ops Q (o :: rest) a w := by
  obtain ⟨i0, hi0, hz0, hz1, hz2⟩ := mv_info
  refine wpList_app_wide (P := Tryz.prog) hgd s x 47 ho B 53 i0 zM 3 32 Tryz.underlying47 hi0 hz0 hz1 hz2 rfl (by decide) v l.length (l.flatMap mvCells) hs hown b 0 1 1 (fun j => (mvCells m).getD j undef) hx (by decide) ?_ ?_ (by simp only [maxLen]; omega) (by omega) hB (mvCells m) ?_ ?_
  · intro j hj
    have : j = 0 ∨ j = 1 ∨ j = 2 := by omega
    rcases this with rfl | rfl | rfl
    · exact hrow.c0
    · exact hrow.c1
    · exact hrow.c2
  · intro j hj
    have : j = 0 ∨ j = 1 ∨ j = 2 := by omega
    rcases this with rfl | rfl | rfl <;> rfl
  · rfl
  · intro v' w' q1 q2 q3
    refine h v' w' ?_ q2 q3
    show World.ownsRow _ _ _ _ _ _ _
    rw [List.length_append, List.flatMap_append]
    simpa using q1
theorem Kept.grow {T : Nat → Prop} {w w1 w2 : World} {o : Option Nat} (h : Kept T w w1) (hg : w1.grownBy w2 o) (ho : ∀ q, o = some q → T q ∨ w.heap.size ≤ q) : Kept T w w2 :=
  ⟨hg.os.trans h.os, hg.tape.trans h.tape, hg.output.trans h.output, Nat.le_trans h.size hg.size, fun b hb hT => (hg.block b (Nat.lt_of_lt_of_le hb h.size) fun e => (ho b e.symm).elim hT fun h2 => by omega).trans (h.block b hb hT)⟩
theorem slAt_kept2 {B : Nat} {gg : Nat → Value} {n : Nat} {w w' : World} {v : Value} {T : Nat → Prop} (h : SlAt B gg n w v) (hk : Kept T w w') (hT : ∀ b, B ≤ b → b < w.heap.size → ¬ T b) : SlAt B gg n w' v := by
  obtain ⟨a, cap, rfl, h1, h2, h3, h4⟩ := h
  refine ⟨a, cap, rfl, h1, h2, h3, h4.imp id ?_⟩
  rintro ⟨b, off, rfl, h7, h5, h6⟩
  exact ⟨b, off, rfl, h7, Nat.lt_of_lt_of_le h5 hk.size, fun i hi => (World.cell?_of_block (hk.block b h5 (hT b h7 h5))).trans (h6 i hi)⟩
/-- The first keeper that still lives. -/
theorem find_first {p : Int → Bool} : ∀ {l : List Int} {r : Int}, FirstI p l r → (r = -1 ∧ l.find? p = none) ∨ ∃ k : Nat, r = k ∧ k < l.length ∧ l.find? p = some (nth l k) := by
  intro l r h
  rcases h with ⟨h1, h2⟩ | ⟨k, h1, h2, h3, h4⟩
  · exact Or.inl ⟨h1, List.find?_eq_none.2 fun x hx => by rw [h2 x hx]; simp⟩
  · refine Or.inr ⟨k, h1, h2, ?_⟩
    rw [List.find?_eq_some_iff_getElem]
    refine ⟨h3, k, h2, (nth_eq h2).symm, fun j hj => ?_⟩
    have := h4 j hj
    rw [nth_eq (by omega)] at this
    simp [this]
/-- What has been planned of a group. -/
def planN (f f' : RS) (X : Int) (g : Str) (o : Int) (j : Nat) : List Mv := (((keepK f' X).take j).filter fun n => !(keepK f X).contains n).map fun n => ⟨g, o, n⟩
theorem planN_succ {f f' : RS} {X : Int} {g : Str} {o : Int} {j : Nat} (hj : j < (keepK f' X).length) : planN f f' X g o (j + 1) = if (keepK f X).contains (nth (keepK f' X) j) then planN f f' X g o j else planN f f' X g o j ++ [⟨g, o, nth (keepK f' X) j⟩] := by
  unfold planN
  rw [List.take_succ_eq_append_getElem hj, List.filter_append, List.map_append, nth_eq hj]
  by_cases h : (keepK f X).contains (keepK f' X)[j] = true
  · rw [if_pos h]; simp only [List.filter_cons, h, Bool.not_true]; simp
  · have h' : (keepK f X).contains (keepK f' X)[j] = false := by simpa using h
    rw [if_neg h]; simp only [List.filter_cons, h', Bool.not_false]; simp
theorem planN_len (f f' : RS) (X : Int) (g : Str) (o : Int) (j : Nat) : (planN f f' X g o j).length ≤ 3 := by
  unfold planN
  rw [List.length_map]
  have h1 := List.length_filter_le (fun n => !(keepK f X).contains n) ((keepK f' X).take j)
  have h2 : ((keepK f' X).take j).length ≤ 3 := by rw [List.length_take]; exact Nat.min_le_right _ _
  omega
theorem planN_all {f f' : RS} {X : Int} {g : Str} {o : Int} (h : (keepK f X).find? (livesR f') = some o) : planN f f' X g o 3 = planG f f' X g := by
  unfold planN planG
  rw [h]
  have : (keepK f' X).take 3 = keepK f' X := List.take_of_length_le (Nat.le_refl _)
  rw [this]
/-- A plan's moves are each once by their keys. -/
theorem planG_g {f f' : RS} {X : Int} {g : Str} {m : Mv} (h : m ∈ planG f f' X g) : m.g = g := by
  unfold planG at h
  split at h
  · simp at h
  · obtain ⟨n, _, rfl⟩ := List.mem_map.1 h; rfl
theorem planG_nodup {f f' : RS} (I' : Inv f') (X : Int) (g : Str) : ((planG f f' X g).map fun m => (m.g, m.to)).Nodup := by
  unfold planG
  split
  · simp
  · rw [List.map_map]
    have := (keepK_nodup I' X).sublist (List.filter_sublist (p := fun n => !(keepK f X).contains n))
    revert this
    generalize (keepK f' X).filter (fun n => !(keepK f X).contains n) = l
    intro h
    refine List.pairwise_map.2 (h.imp fun {a b} hab e => hab ?_)
    exact congrArg Prod.snd e
theorem planU_nodup {f f' : RS} (I' : Inv f') (X : Str → Int) : ∀ {gs : List Str}, gs.Nodup → ((planU X f f' gs).map fun m => (m.g, m.to)).Nodup
  | [], _ => by simp [planU]
  | g :: gs, h => by
    have h' := List.nodup_cons.1 h
    have e : planU X f f' (g :: gs) = planG f f' (X g) g ++ planU X f f' gs := by unfold planU; rw [List.flatMap_cons]
    rw [e, List.map_append]
    refine List.nodup_append.2 ⟨planG_nodup I' _ _, planU_nodup I' X h'.2, fun a ha b hb hab => ?_⟩
    subst hab
    obtain ⟨m, hm, e1⟩ := List.mem_map.1 ha
    obtain ⟨m2, hm2, e2⟩ := List.mem_map.1 hb
    unfold planU at hm2
    obtain ⟨g2, hg2, hm2⟩ := List.mem_flatMap.1 hm2
    have h1 := planG_g hm
    have h2 := planG_g hm2
    have : m.g = m2.g := by have := e1.trans e2.symm; exact congrArg Prod.fst this
    rw [h1, h2] at this
    exact h'.1 (this ▸ hg2)
/-- What Plan answers: the moves, in order. -/
def PlanPost (w : World) (f f' : RS) (l : List Str) (e : Ending) (w' : World) : Prop :=
  ∃ v L, e = .returned v ∧ MvSl w.heap.size L w' v ∧ OrdM L ∧ L.Perm (planU (fun g => keyH (bs g)) f f' (setS l)) ∧ Below w.heap.size w w'
set_option maxRecDepth 100000 in
set_option maxHeartbeats 8000000 in
theorem plan_any (w : World) (f f' : RS) (I : Inv f) (I' : Inv f') (av iv bv jv : Value) (hc : SlAt 0 (fun i => .int .i64 (nth (circ f) i)) (circ f).length w av) (hi : SlAt 0 (fun i => .int .u64 (nth ((circ f).map (idR f)) i)) (circ f).length w iv)
    (hc2 : SlAt 0 (fun i => .int .i64 (nth (circ f') i)) (circ f').length w bv) (hi2 : SlAt 0 (fun i => .int .u64 (nth ((circ f').map (idR f')) i)) (circ f').length w jv)
    (v : Value) (l : List Str) (hs : SlS 0 l w v) (hl : l.length ≤ 1000) (hz : ∀ s ∈ l, (bs s).size ≤ 1000000) :
    Calls Tryz.prog 13 #[.agg #[av, iv], .agg #[bv, jv], v] w (PlanPost w f f' l) := by
  obtain ⟨i0, hi0, hz0, hz1, hz2⟩ := mv_info
  have HC := Lib.hid hc
  have HI := Lib.hid hi
  have HC2 := Lib.hid hc2
  have HI2 := Lib.hid hi2
  have HIV := Lib.hid I
  have HIV2 := Lib.hid I'
  have SN := Lib.hid hs
  have HZ : Hid (∀ s ∈ setS l, (bs s).size ≤ 1000000) := fun s h => hz s ((mem_setS l s).1 h)
  have hll : (setS l).length ≤ 1000 := by have := setS_len l; omega
  have HUP : Hid (UpS (setS l)) := setS_up l
  obtain ⟨aa, ac, rfl, _⟩ := hc.slice
  obtain ⟨ia, ic, rfl, _⟩ := hi.slice
  obtain ⟨ba, bc, rfl, _⟩ := hc2.slice
  obtain ⟨ja, jc, rfl, _⟩ := hi2.slice
  obtain ⟨na, nc, rfl, _⟩ := hs.slice
  clear hc hi hc2 hi2 hs hz I I'
  have HP : Hid (∀ v L w', MvSl w.heap.size L w' v → OrdM L → L.Perm (planU (fun g => keyH (bs g)) f f' (setS l)) → Below w.heap.size w w' → PlanPost w f f' l (.returned v) w') := fun v L w' h1 h2 h3 h4 => ⟨v, L, rfl, h1, h2, h3, h4⟩
  obtain ⟨cl, hcl⟩ : ∃ z, z = (circ f).length := ⟨_, rfl⟩
  obtain ⟨cl2, hcl2⟩ : ∃ z, z = (circ f').length := ⟨_, rfl⟩
  have CA0 := Lib.hid fun (w' : World) (hb : Below w.heap.size w w') gb hgz => keep_any w' f HIV.out _ _ (HC.out.below hb) (HI.out.below hb) gb hgz
  have CB0 := Lib.hid fun (w' : World) (hb : Below w.heap.size w w') gb hgz => keep_any w' f' HIV2.out _ _ (HC2.out.below hb) (HI2.out.below hb) gb hgz
  have CP0 := Lib.hid fun (w' : World) (hb : Below w.heap.size w w') => plan1_any w' f' HIV2.out _ _ (HC2.out.below hb) (HI2.out.below hb)
  rw [← hcl] at CA0 ⊢
  rw [← hcl2] at CB0 CP0 ⊢
  clear hcl hcl2 HC HI HC2 HI2
  go_enter Tryz.func13, Tryz.ntmps13
  go_upto_region 1 with (fail)
  obtain ⟨A, hA⟩ : ∃ z, z = w.heap.size := ⟨_, rfl⟩
  obtain ⟨B, hB⟩ : ∃ z, z = A + 1 := ⟨_, rfl⟩
  obtain ⟨w1, hw1⟩ : ∃ z, z = (w.alloc (.cells #[.slice aa cl ac, .slice ia cl ic] 38)).alloc (.cells #[.slice ba cl2 bc, .slice ja cl2 jc] 38) := ⟨_, rfl⟩
  have b1 : Below w.heap.size w w1 := by rw [hw1]; exact bel_alloc (bel_alloc (Below.refl _ _) _) _
  have y0 : w1.cell? ⟨A, 0, none⟩ = some (.slice aa cl ac) := by rw [hw1, hA]; simp [go_sem]
  have y1 : w1.cell? ⟨A, 1, none⟩ = some (.slice ia cl ic) := by rw [hw1, hA]; simp [go_sem]
  have yz : A < w1.heap.size := by rw [hw1, hA]; simp; omega
  have x0 : w1.cell? ⟨B, 0, none⟩ = some (.slice ba cl2 bc) := by rw [hw1, hB, hA]; simp [go_sem]
  have x1 : w1.cell? ⟨B, 1, none⟩ = some (.slice ja cl2 jc) := by rw [hw1, hB, hA]; simp [go_sem]
  have xz : B < w1.heap.size := by rw [hw1, hB, hA]; simp
  have B1 := Lib.hid b1
  rw [← hw1]
  try rw [← hA]
  try rw [← hB]
  clear hw1 hA hB
  go_wp2_with fail
  refine (cloneS_any w1 _ l (SN.out.below b1) (by omega)).mono ?_
  rintro e w2 ⟨v2, rfl, ho2, hb2⟩
  have O2 := Lib.hid (OwnS.of_row ho2)
  have BB2 := Lib.hid hb2
  obtain ⟨a2, c2, rfl⟩ : ∃ a2 c2, v2 = .slice a2 l.length c2 := by obtain ⟨a, c, e, _⟩ := O2.out.slAt.slice; exact ⟨a, c, e⟩
  clear ho2 hb2 b1 SN
  go_wp2_with fail
  refine (sortS_any w2 _ l w1.heap.size O2.out (by omega)).mono ?_
  rintro e w3 ⟨rfl, o3, hb3⟩
  have O3 := Lib.hid o3
  have BB3 := Lib.hid (BB2.out.trans hb3)
  clear o3 hb3 BB2 O2
  go_wp2_with fail
  refine (compactS_any w3 _ (l.mergeSort fun x y => decide (x ≤ y)) w1.heap.size O3.out (by rw [sort_len]; omega)).mono ?_
  rintro e w4 ⟨v4, rfl, s4, hb4⟩
  have BB4 := Lib.hid (BB3.out.trans hb4)
  rw [show Lib.compact (l.mergeSort fun x y => decide (x ≤ y)) = setS l from rfl] at s4
  obtain ⟨L, hL⟩ : ∃ z, z = setS l := ⟨_, rfl⟩
  rw [← hL] at s4 HZ hll HUP HP
  obtain ⟨a4, c4, rfl, _⟩ := s4.slice
  have S4 := Lib.hid (s4.base (B' := 0) (Nat.zero_le _))
  have hw4 : w.heap.size ≤ w4.heap.size := (bel_below B1.out BB4.out).size
  clear s4 hb4 BB3 O3 hL
  go_wp2_with fail
  go_loopw [7, 22] (fun o i wr => ∃ k : Nat, k ≤ L.length ∧ i = .int .i64 k ∧ Hid (OwnM w4.heap.size (planU (fun g => keyH (bs g)) f f' (L.take k)) wr o) ∧ Hid (Below w4.heap.size w4 wr)) (fun _ i _ => L.length - (intOf i).toNat)
  case atStart => exact ⟨0, Nat.zero_le _, rfl, ownM_nil _ _, Below.refl _ _⟩
  case round =>
    obtain ⟨k, hk, rfl, hO, hB⟩ := hrel
    have BR := Lib.hid (bel_below BB4.out hB.out)
    obtain ⟨oa, oc, rfl⟩ := hO.out.slice
    have hplen : (planU (fun g => keyH (bs g)) f f' (L.take k)).length ≤ 3 * k := by
      have h1 := planU_len (fun g => keyH (bs g)) f f' (L.take k)
      rw [List.length_take] at h1; omega
    by_cases hlt : k < L.length
    · obtain ⟨sb, so, rfl, _, hsz, hck⟩ := S4.out.at k hlt wr hB.out
      have hgz := HZ.out _ (show nthT L k ∈ L by rw [nthT_eq hlt]; exact List.getElem_mem hlt)
      have HSN : Hid (planU (fun g => keyH (bs g)) f f' (L.take (k + 1)) = planU (fun g => keyH (bs g)) f f' (L.take k) ++ planG f f' (keyH (bs (nthT L k))) (nthT L k)) := show _ = _ by
        rw [List.take_succ_eq_append_getElem hlt, planU_snoc, nthT_eq hlt]
      obtain ⟨M, hM⟩ : ∃ z, z = planU (fun g => keyH (bs g)) f f' (L.take k) := ⟨_, rfl⟩
      rw [← hM] at hO HSN hplen ⊢
      obtain ⟨g, hg⟩ : ∃ z, z = nthT L k := ⟨_, rfl⟩
      rw [← hg] at hck hgz HSN
      replace hck : wr.cell? ⟨sb, so + k, none⟩ = some (.string (bs g)) := hck
      clear hg hM
      have y0 := (BR.out.cell (p := ⟨A, 0, none⟩) yz).trans y0
      have y1 := (BR.out.cell (p := ⟨A, 1, none⟩) yz).trans y1
      have x0 := (BR.out.cell (p := ⟨B, 0, none⟩) xz).trans x0
      have x1 := (BR.out.cell (p := ⟨B, 1, none⟩) xz).trans x1
      have yzr := Nat.lt_of_lt_of_le yz BR.out.size
      have xzr := Nat.lt_of_lt_of_le xz BR.out.size
      have BW := Lib.hid (bel_below B1.out BR.out)
      have CA := Lib.hid fun w' (hb : Below wr.heap.size wr w') => CA0.out w' (bel_below BW.out hb) (bs g) hgz
      have CB := Lib.hid fun w' (hb : Below wr.heap.size wr w') => CB0.out w' (bel_below BW.out hb) (bs g) hgz
      have HFF : Hid (∀ r, FirstI (livesR f') (keepK f (keyH (bs g))) r → (r = -1 ∧ planG f f' (keyH (bs g)) g = []) ∨ ∃ i : Nat, r = i ∧ i < 3 ∧ planN f f' (keyH (bs g)) g (nth (keepK f (keyH (bs g))) i) 3 = planG f f' (keyH (bs g)) g) := fun r h => by
        rcases find_first h with ⟨h1, h2⟩ | ⟨i, h1, h2, h3⟩
        · left; refine ⟨h1, ?_⟩; unfold planG; rw [h2]
        · right; exact ⟨i, h1, h2, planN_all h3⟩
      have HPS : Hid (∀ o j, j < 3 → planN f f' (keyH (bs g)) g o (j + 1) = if (keepK f (keyH (bs g))).contains (nth (keepK f' (keyH (bs g))) j) then planN f f' (keyH (bs g)) g o j else planN f f' (keyH (bs g)) g o j ++ [⟨g, o, nth (keepK f' (keyH (bs g))) j⟩]) := fun o j hj => planN_succ hj
      have HPZ : Hid (∀ o, planN f f' (keyH (bs g)) g o 0 = []) := fun o => by unfold planN; simp
      have HPN : Hid (∀ o j, (planN f f' (keyH (bs g)) g o j).length ≤ 3) := fun o j => planN_len _ _ _ _ _ _
      obtain ⟨pn, hpn⟩ : ∃ z, z = planN f f' (keyH (bs g)) g := ⟨_, rfl⟩
      obtain ⟨pg, hpg⟩ : ∃ z, z = planG f f' (keyH (bs g)) g := ⟨_, rfl⟩
      rw [← hpn] at HPS HPZ HPN HFF
      rw [← hpg] at HSN HFF
      unfold KeepPost at CA CB
      obtain ⟨Z, hZ⟩ : ∃ z, z = wr.heap.size := ⟨_, rfl⟩
      obtain ⟨T, hT⟩ : ∃ z : Nat → Prop, z = fun b => Value.ownBlock (.slice oa M.length oc) = some b := ⟨_, rfl⟩
      have HT : Hid (∀ b, T b → w4.heap.size ≤ b ∧ b < Z) := fun b hb => by rw [hT] at hb; rw [hZ]; exact World.ownsRow.lt hO.out b hb
      have HTE : Hid (∀ q, Value.ownBlock (.slice oa M.length oc) = some q → T q) := fun q hq => by rw [hT]; exact hq
      have HZ1 : Hid (Z ≤ wr.heap.size) := show _ ≤ _ by omega
      clear hZ hT
      obtain ⟨kk, hkk⟩ : ∃ z, z = keepK f (keyH (bs g)) := ⟨_, rfl⟩
      have HK3 : Hid (kk.length = 3) := show _ = _ by rw [hkk]; rfl
      obtain ⟨kn, hkn⟩ : ∃ z, z = keepK f' (keyH (bs g)) := ⟨_, rfl⟩
      have HN3 : Hid (kn.length = 3) := show _ = _ by rw [hkn]; rfl
      rw [← hkk] at CA HFF HPS
      rw [← hkn] at CB HPS
      clear hkk hkn hgz hpn hpg
      go_wp2_with fail
      refine wp_region_heads [0, 1, 3, 4] 7 (fun w' => ∃ x : Later wr, w' = x.world) (by kernel_rfl) (by kernel_rfl) ⟨⟨{ wr with drawn := wr.drawn + 1 }, (RowKit.Below.refl _ _).drew⟩, rfl⟩ (fun d v c a w h => by cases d <;> exact h) ?_
      simp only [headOps]
      repeat (refine wpTame_step (fun K hK => ?_); go_simp; refine hK _ ?_; clear hK K)
      refine wpTame_nil ?_
      have BD : Hid (RowKit.Below wr.heap.size wr { wr with drawn := wr.drawn + 1 }) := (RowKit.Below.refl _ _).drew
      refine wpAnyC_step (f := 3) [2] (by kernel_rfl) rfl rfl (fun i hi => ?_)
      simp only [List.mem_cons, List.not_mem_nil, or_false] at hi
      subst hi
      refine ⟨_, rfl, fun R hR => ?_⟩
      go_wp2_with fail
      refine (CA.out _ BD.out).mono ?_
      rintro e wa ⟨va, rfl, hsa, hba⟩
      obtain ⟨aA, cA, rfl, _⟩ := hsa.slice
      have BA := Lib.hid (bel_below BD.out hba)
      have SA := Lib.hid (hsa.base (B' := Z) HZ1.out)
      clear hsa hba BD CA
      go_wp2_with fail
      refine hR _ _ ⟨⟨wa, (BA).out⟩, rfl⟩ ?_
      clear hR R
      refine wpAnyC_step (f := 2) [5] (by kernel_rfl) rfl rfl (fun i hi => ?_)
      simp only [List.mem_cons, List.not_mem_nil, or_false] at hi
      subst hi
      refine ⟨_, rfl, fun R hR => ?_⟩
      go_wp2_with fail
      refine (CB.out _ BA.out).mono ?_
      rintro e wb ⟨vb, rfl, hsb, hbb⟩
      obtain ⟨aB, cB, rfl, _⟩ := hsb.slice
      have BB := Lib.hid (bel_below BA.out hbb)
      have SA2 := Lib.hid (SA.out.below hbb)
      have SB := Lib.hid (hsb.base (B' := Z) (Nat.le_trans HZ1.out BA.out.size))
      clear hsb hbb BA CB SA
      go_wp2_with fail
      refine hR _ _ ⟨⟨wb, (BB).out⟩, rfl⟩ ?_
      clear hR R
      refine wpAnyC_mid (f := 1) [6] ⟨⟨wb, BB.out⟩, rfl⟩ (by kernel_rfl) (fun d v c a w h => by cases d <;> exact h) ?_
      simp only [headOps]
      repeat (refine wpTame_step (fun K hK => ?_); go_simp; refine hK _ ?_; clear hK K)
      refine wpTame_nil ?_
      refine wpAnyC_end (k := 7) (by decide) rfl rfl (by kernel_rfl) ?_
      have X0 := Lib.hid x0
      have X1 := Lib.hid x1
      have O5 := Lib.hid (hO.out.below BB.out)
      have CX := Lib.hid (indexq_at wb (.slice aA 3 cA) kk (livesR f') 56 #[.pointer (some ⟨B, 0, none⟩)] (by rw [HK3.out]; exact SA2.out.base (Nat.zero_le _)) (by rw [HK3.out]; omega) enter_plan1 (fun w' hb y hy => CP0.out w' (bel_below BW.out (bel_below BB.out hb)) B (((bel_below BB.out hb).cell (p := ⟨B, 0, none⟩) xzr).trans X0.out) (((bel_below BB.out hb).cell (p := ⟨B, 1, none⟩) xzr).trans X1.out) (Nat.lt_of_lt_of_le xzr (bel_below BB.out hb).size) y))
      clear y0 y1 x0 x1 hck hsz
      go_wp2_with fail
      refine CX.out.mono ?_
      rintro e wd ⟨r, rfl, hfr, hbd⟩
      have BE := Lib.hid (bel_below BB.out hbd)
      have O6 := Lib.hid (O5.out.below hbd)
      have SA4 := Lib.hid (SA2.out.below hbd)
      have SB4 := Lib.hid (SB.out.below hbd)
      have hf2 := HFF.out r hfr
      clear hbd CX hfr SA2 SB O5 hO
      rcases hf2 with ⟨hr, hpg0⟩ | ⟨io, hr, hio, hpg0⟩
      · subst hr
        have HPG := Lib.hid hpg0
        clear hpg0
        go_wp2_with fail
        go_roundw
        case rel => go_light; exact ⟨k + 1, by omega, by go_num, (by show OwnM _ _ _ _; rw [HSN.out, HPG.out, List.append_nil]; exact O6.out), bel_below hB.out BE.out⟩
        case measure => go_light; simp [intOf]; omega
      · subst hr
        have HPG := Lib.hid hpg0
        have hrI : ¬ (io : Int) < 0 := by omega
        have hioI : (io : Int) < 3 := by omega
        obtain ⟨no, hno⟩ : ∃ z, z = nth kk io := ⟨_, rfl⟩
        have HNO := Lib.hid hno
        rw [← hno] at HPG
        clear hpg0 hno
        go_wp2_with fail
        go_loopw [7, 39] (fun o i wi => ∃ j : Nat, j ≤ 3 ∧ i = .int .i64 j ∧ Hid (OwnM w4.heap.size (M ++ pn no j) wi o) ∧ Hid (Kept T wd wi) ∧ Hid (∀ q, o.ownBlock = some q → T q ∨ wd.heap.size ≤ q)) (fun _ i _ => 3 - (intOf i).toNat)
        case atStart => exact ⟨0, by omega, rfl, (by show OwnM _ _ _ _; rw [HPZ.out, List.append_nil]; exact O6.out), Kept.refl _ _, fun q hq => Or.inl (HTE.out q hq)⟩
        case round =>
          obtain ⟨j, hj, rfl, hOj, hBi, hQ⟩ := hrel
          have SAj := Lib.hid (slAt_kept2 SA4.out hBi.out fun b h1 _ h2 => by have := (HT.out b h2).2; omega)
          have SBj := Lib.hid (slAt_kept2 SB4.out hBi.out fun b h1 _ h2 => by have := (HT.out b h2).2; omega)
          have hB0 : Hid (Below w4.heap.size w4 wr) := bel_below hB.out BE.out |>.trans (hBi.out.toBelow (bel_below hB.out BE.out).size fun b hb h2 => by have := (HT.out b h2).1; omega)
          obtain ⟨pa, pc, rfl⟩ := hOj.out.slice
          have hML : (M ++ pn no j).length ≤ 3 * k + 3 := by have := HPN.out no j; rw [List.length_append]; omega
          by_cases hltj : j < 3
          · have hjI : ((j : Nat) : Int) < 3 := by omega
            obtain ⟨tb, tof, rfl, _, htz, htc⟩ := SBj.out.at j hltj _ (Below.refl _ _)
            have CC := conti_any wr (.slice aA 3 cA) kk (by rw [HK3.out]; exact SAj.out.base (Nat.zero_le _)) (by rw [HK3.out]; omega) (nth kn j)
            have HPJ := Lib.hid (HPS.out no j hltj)
            obtain ⟨n, hn⟩ : ∃ z, z = nth kn j := ⟨_, rfl⟩
            rw [← hn] at htc CC HPJ
            obtain ⟨bc, hbc⟩ : ∃ z, z = kk.contains n := ⟨_, rfl⟩
            rw [← hbc] at CC HPJ
            obtain ⟨MM, hMM⟩ : ∃ z, z = M ++ pn no j := ⟨_, rfl⟩
            have HMM := Lib.hid hMM
            rw [← hMM] at hOj hML hQ ⊢
            clear hn hbc hMM
            have CC := Lib.hid CC
            cases bc with
            | true =>
              have HPJ2 : Hid (pn no (j + 1) = pn no j) := show _ = _ by rw [HPJ.out]; rfl
              go_wp2_with fail
              refine CC.out.mono ?_
              rintro e we ⟨rfl, hbe⟩
              have O7 := Lib.hid (hOj.out.below hbe)
              have BF := Lib.hid (hBi.out.below hbe)
              clear CC hbe htc htz hOj
              go_wp2_with fail
              go_roundw
              case rel => go_light; exact ⟨j + 1, by omega, by go_num, (by show OwnM _ _ _ _; rw [HPJ2.out, ← HMM.out]; exact O7.out), BF.out, hQ.out⟩
              case measure => go_light; simp [intOf]; omega
            | false =>
              have HPJ2 : Hid (pn no (j + 1) = pn no j ++ [⟨g, no, n⟩]) := show _ = _ by rw [HPJ.out]; rfl
              go_wp2_with fail
              refine CC.out.mono ?_
              rintro e we ⟨rfl, hbe⟩
              have O7 := Lib.hid (hOj.out.below hbe)
              have BF := Lib.hid (hBi.out.below hbe)
              obtain ⟨ob, oo, hoe, _, hoz, hoc⟩ := (SAj.out.below hbe).at io hio _ (Below.refl _ _)
              rw [← HNO.out] at hoc
              have hbz := hbe.size
              clear CC hbe htc htz hOj
              subst hoe
              have hwe : w4.heap.size ≤ we.heap.size := Nat.le_trans hB0.out.size hbz
              have hwdz : wd.heap.size ≤ we.heap.size := BF.out.size
              go_wp2_with (at_builtin; refine wpList_app_row_mv rfl _ _ rfl w4.heap.size MM _ rfl (O7.out.below (bel_alloc (Below.refl _ _) _)) we.heap.size ⟨g, no, n⟩ rfl ⟨by simp [go_sem], by simp [go_sem], by simp [go_sem]⟩ (by omega) (by simp; omega) ?_)
              intro va wz HOA HGA HVA
              have BA : Hid (Kept T wd wz) := (BF.out.below (bel_alloc (Below.refl _ _) _)).grow HGA.out hQ.out
              have hQ2 : Hid (∀ q, va.ownBlock = some q → T q ∨ wd.heap.size ≤ q) := fun q hq => by
                rcases HVA.out with h1 | h1
                · rw [h1] at hq; exact hQ.out q hq
                · rw [h1] at hq
                  cases hq
                  right; first | omega | (simp; omega)
              obtain ⟨va1, va2, rfl⟩ := HOA.out.slice
              clear hQ HGA HVA
              go_wp2_with fail
              go_roundw
              case rel => go_light; exact ⟨j + 1, by omega, by go_num, (by show OwnM _ _ _ _; rw [HPJ2.out, ← List.append_assoc, ← HMM.out]; exact HOA.out), BA.out, hQ2.out⟩
              case measure => go_light; simp [intOf]; omega
          · obtain rfl : j = 3 := by omega
            have hjI : ¬ ((3 : Nat) : Int) < 3 := by omega
            go_wp2_with fail
            go_roundw
            case rel => go_light; exact ⟨k + 1, by omega, by go_num, (by show OwnM _ _ _ _; rw [HSN.out, ← HPG.out]; exact hOj.out), hB0.out⟩
            case measure => go_light; simp [intOf]; omega
    · obtain rfl : k = L.length := by omega
      rw [List.take_length] at hO hplen ⊢
      obtain ⟨M, hM⟩ : ∃ z, z = planU (fun g => keyH (bs g)) f f' L := ⟨_, rfl⟩
      have HMD : Hid ((M.map fun m => (m.g, m.to)).Nodup) := show List.Nodup _ by rw [hM]; exact planU_nodup HIV2.out _ (upS_nodup HUP.out)
      rw [← hM] at hO HP hplen ⊢
      have BWW := Lib.hid (bel_below B1.out BR.out)
      have hwz := BWW.out.size
      rcases hO.out.mv with ⟨hM0, hv0⟩ | ⟨q, cap, hv0, hqB, hcq1, hcq2, hMI⟩
      · injection hv0 with hv1 hv2 hv3
        subst hv1
        rw [hM0] at HP ⊢
        clear hO hM hM0 hplen HMD
        subst hv3
        go_wp2_with (go_at_call 58; refine (ssf_none _ _ _ _).mono ?_; rintro e w' ⟨rfl, rfl⟩)
        go_ret
        exact HP.out _ _ _ (Or.inl ⟨rfl, rfl⟩) List.Pairwise.nil (List.Perm.refl _) BWW.out
      · injection hv0 with hv1 hv2 hv3
        subst hv1
        subst hv3
        have CS := Lib.hid (ssf_any wr q M.length oc M hMI rfl (by omega))
        have hqw : w.heap.size ≤ q := by omega
        clear hO hM hMI
        go_wp2_with fail
        refine CS.out.mono ?_
        rintro e w5 ⟨rfl, Z, hz1, hz2, hM5, hK5⟩
        have hzl := hz1.length_eq
        have HPP := Lib.hid (HP.out (.slice (some ⟨q, 0, none⟩) M.length oc) Z w5 (Or.inr ⟨q, oc, by rw [hzl], hqw, by rw [hzl]; exact hcq1, hcq2, by simpa using hM5⟩) (ordM_of hz2 ((hz1.map _).nodup_iff.2 HMD.out)) hz1 (BWW.out.trans (hK5.toBelow hwz fun b hb h2 => by omega)))
        clear hz1 hz2 hM5 hK5 hzl
        go_wp2_with fail
        go_ret
        exact HPP.out
end Go.Proofs.YtahiahjhpakeiaaGreatDoor
end
section
namespace Go.Proofs.YtahiahjhpakeiaaGreatDoor
open Go.RowKit Go.Maps Go.Sort Go.WideShapes Go.ChangeShapes Go.Deep
set_option linter.unusedVariables false
set_option linter.unusedSimpArgs false
attribute [local go_sem] later_cell later_frozen later_lt cell_set_off cell_set_block keptT_cell keptT_lt

theorem few_full {ks : List (Str × Int)} {T : TT} (h : FewK ks T) (hk : ks.length ≤ 390) (n : Int) (x : Ent) : fullB (tabs T n) x = false := by
  have := h.len n
  have h2 : ¬ 400 ≤ (tabs T n).length := by omega
  unfold fullB
  simp [h2]
set_option maxRecDepth 100000 in
set_option maxHeartbeats 8000000 in
theorem sdo_any {R : Int → Nat → Prop} {tb : Int → Nat} {D : Nat → Prop} {W w : World} {sb mb : Nat} {T : TT} (h : StoreIn R tb D W w sb mb T) {ks : List (Str × Int)} (hks : ks.length ≤ 390) (hF : FewK ks T)
    (v : Value) (L : List Mv) (hL : MvSl 0 L w v) (hq : ∀ q, v.ownBlock = some q → D q) (hdom : ∀ m ∈ L, (0 ≤ m.fr ∧ m.fr < 32) ∧ 0 ≤ m.to ∧ m.to < 32) (hll : L.length ≤ 100000) :
    Calls Tryz.prog 28 #[.pointer (some ⟨sb, 0, none⟩), v] w fun e w' => e = .returned .nilIface ∧ StoreW D W w' sb mb (doL T L) ∧ Kept (fun b => ¬ D b) w w' := by
  have H := Lib.hid h
  have HL := Lib.hid hL
  have HQ := Lib.hid hq
  have HF := Lib.hid hF
  have HDM := Lib.hid hdom
  obtain ⟨va, vc, rfl⟩ := hL.slice
  have hWz := h.bel.size
  clear h hL hF hdom hq
  go_enter Tryz.func28, Tryz.ntmps28
  go_wp2_with fail
  go_loopw [12] (fun i wr => ∃ k : Nat, k ≤ L.length ∧ i = .int .i64 k ∧ Hid (StoreW D W wr sb mb (doL T (L.take k))) ∧ Hid (Kept (fun b => ¬ D b) w wr)) (fun i _ => L.length - (intOf i).toNat)
  case atStart => exact ⟨0, Nat.zero_le _, rfl, ⟨_, _, H.out⟩, Kept.refl _ _⟩
  case round =>
    obtain ⟨k, hk, rfl, hSt, hKp⟩ := hrel
    obtain ⟨wo, rfl⟩ : ∃ z, z = wr := ⟨wr, rfl⟩
    by_cases hlt : k < L.length
    · have hkI : (k : Int) < (L.length : Int) := by omega
      obtain ⟨q, rfl, hDq, hMq⟩ : ∃ q : Nat, va = some ⟨q, 0, none⟩ ∧ D q ∧ MvIn wo q L := by
        rcases HL.out with ⟨h, _⟩ | ⟨q, cap, e, _, _, _, h⟩
        · rw [h] at hlt; simp at hlt
        · injection e with e1 e2 e3
          subst e1
          have hD := HQ.out q rfl
          exact ⟨q, rfl, hD, h.kept hKp.out fun hn => hn hD⟩
      obtain ⟨m0, m1, m2⟩ := hMq.all k hlt
      have hqz := hMq.lt
      have hmd := HDM.out (elt L k) (by rw [elt_eq hlt]; exact List.getElem_mem hlt)
      have HTK : Hid (doL T (L.take (k + 1)) = doM (doL T (L.take k)) (elt L k)) := show _ = _ by
        rw [List.take_succ_eq_append_getElem hlt, doL_snoc, elt_eq hlt]
      have HFk := Lib.hid (HF.out.doL (L := L.take k))
      obtain ⟨M, hM⟩ : ∃ z, z = elt L k := ⟨_, rfl⟩
      rw [← hM] at m0 m1 m2 hmd HTK
      obtain ⟨mg, mfr, mto⟩ := M
      dsimp only at m0 m1 m2 hmd
      obtain ⟨⟨hf0, hf1⟩, ht0, ht1⟩ := hmd
      obtain ⟨Tk, hTk⟩ : ∃ z, z = doL T (L.take k) := ⟨_, rfl⟩
      rw [← hTk] at hSt HTK HFk
      obtain ⟨R3, tb3, hS3⟩ := hSt.out
      have HS3 := Lib.hid hS3
      clear hM hTk hSt hMq hS3
      go_upto_region 4 with (fail)
      obtain ⟨w3, hw3⟩ : ∃ z, z = wo.alloc (.cells #[.string (bs mg), .int .i64 mfr, .int .i64 mto] 53) := ⟨_, rfl⟩
      obtain ⟨X, hX⟩ : ∃ z, z = wo.heap.size := ⟨_, rfl⟩
      have b3 : Below wo.heap.size wo w3 := by rw [hw3]; exact bel_alloc (Below.refl _ _) _
      have x0 : w3.cell? ⟨X, 0, none⟩ = some (.string (bs mg)) := by rw [hw3, hX]; simp [go_sem]
      have x1 : w3.cell? ⟨X, 1, none⟩ = some (.int .i64 mfr) := by rw [hw3, hX]; simp [go_sem]
      have x2 : w3.cell? ⟨X, 2, none⟩ = some (.int .i64 mto) := by rw [hw3, hX]; simp [go_sem]
      have xz : X < w3.heap.size := by rw [hw3, hX]; simp
      have S3 := Lib.hid (HS3.out.later b3)
      obtain ⟨D3, hD3⟩ : ∃ z : Nat → Prop, z = fun b => D b ∨ (wo.heap.size ≤ b ∧ b < w3.heap.size) := ⟨_, rfl⟩
      rw [← hD3] at S3
      have HD3 : Hid ((∀ b, D b → D3 b) ∧ D3 X) := ⟨fun b hb => by rw [hD3]; exact Or.inl hb, by rw [hD3]; exact Or.inr ⟨by omega, xz⟩⟩
      have B3 : Hid (Below wo.heap.size wo w3) := b3
      obtain ⟨SS, hSS⟩ : ∃ z : Nat → Prop, z = fun b => ¬ D3 b := ⟨_, rfl⟩
      have hSX : ¬ SS X := by rw [hSS]; exact fun h => h HD3.out.2
      have HSS := Lib.hid hSS
      try rw [← hw3]
      try rw [← hX]
      clear hw3 hX b3 hD3 HS3 hSS m0 m1 m2
      refine wp_region_all [0, 1, 2, 4, 5, 8] (fun w' => ∃ x : KeptT SS w3, w' = x.world) (by kernel_rfl) (by kernel_rfl) ⟨⟨{ w3 with drawn := w3.drawn + 1 }, (Kept.refl _ w3).drew⟩, rfl⟩ (fun d v c a w h => by cases d <;> exact h) ?_
      simp only [headOps]
      repeat (refine wpTame_step (fun K hK => ?_); go_simp; refine hK _ ?_; clear hK K)
      refine wpTame_nil ?_
      refine wpAnyC_step (f := 2) [3] (by kernel_rfl) rfl rfl (fun i hi => ?_)
      simp only [List.mem_cons, List.not_mem_nil, or_false] at hi
      subst hi
      refine ⟨_, rfl, fun R hR => ?_⟩
      go_wp2_with fail
      refine (sat_any (S3.out.keep (RowKit.Below.refl _ _).drew) mfr hf0 hf1).mono ?_
      rintro e w4 ⟨R4, tb4, rfl, hS4, hK4⟩
      rw [← HSS.out] at hK4
      have K4 : Hid (Kept SS w3 w4) := ((Kept.refl _ w3).drew).trans hK4
      have S4 := Lib.hid hS4
      clear hS4 hK4 S3
      go_wp2_with fail
      refine hR _ _ ⟨⟨w4, K4.out⟩, rfl⟩ ?_
      clear hR R
      refine wpAnyC_step (f := 1) [6] (by kernel_rfl) rfl rfl (fun i hi => ?_)
      have CK := Lib.hid (kids_at (S4.out.tab mfr _ (setT_same _ _ _)) mg)
      simp only [List.mem_cons, List.not_mem_nil, or_false] at hi
      subst hi
      refine ⟨_, rfl, fun R hR => ?_⟩
      go_wp2_with fail
      refine CK.out.mono ?_
      rintro e w5 ⟨v5, rfl, hE5, hb5⟩
      obtain ⟨a5, c5, rfl, _⟩ := hE5.slice
      have K5 := Lib.hid (K4.out.below hb5)
      have S5 := Lib.hid (S4.out.later hb5)
      obtain ⟨D5, hD5⟩ : ∃ z : Nat → Prop, z = fun b => D3 b ∨ (w4.heap.size ≤ b ∧ b < w5.heap.size) := ⟨_, rfl⟩
      rw [← hD5] at S5
      have HD5 : Hid (∀ b, D3 b → D5 b) := fun b hb => by rw [hD5]; exact Or.inl hb
      obtain ⟨KL, hKL⟩ : ∃ z, z = kidsE (tabs Tk mfr) mg := ⟨_, rfl⟩
      have hKL' : kidsE ((Tk mfr).getD []) mg = KL := hKL.symm
      have HKL := Lib.hid hKL
      rw [hKL'] at hE5 ⊢
      have E5 : Hid (EntsIn D5 KL w5 (.slice a5 KL.length c5)) := hE5.imp (fun b hb h => by rw [hD5]; exact Or.inr ⟨h, hb⟩) (Nat.le_refl _) fun _ _ _ => rfl
      have HKK : Hid (∀ x ∈ KL, keyOf x ∈ ks ∧ x.fs.length ≤ 16) := fun x hx => by
        rw [hKL] at hx
        refine ⟨HFk.out.kids _ _ x hx, ?_⟩
        obtain ⟨y, hy, _, rfl⟩ := mem_kids.1 hx
        exact few_fs (clean_clean y)
      have hkl : KL.length ≤ 1000000 := by
        have h1 : KL.length ≤ (tabs Tk mfr).length := by rw [hKL]; unfold kidsE; rw [List.length_map]; exact List.length_filter_le _ _
        have := HFk.out.len mfr
        omega
      clear hE5 hb5 hD5 hKL hKL' CK K4 S4
      go_wp2_with fail
      refine hR _ _ ⟨⟨w5, K5.out⟩, rfl⟩ ?_
      clear hR R
      refine wpAnyC_step (f := 0) [7] (by kernel_rfl) rfl rfl (fun i hi => ?_)
      simp only [List.mem_cons, List.not_mem_nil, or_false] at hi
      subst hi
      refine ⟨_, rfl, fun R hR => ?_⟩
      go_wp2_with fail
      refine hR _ _ ⟨⟨w5, K5.out⟩, rfl⟩ ?_
      clear hR R
      refine wpAnyC_done (by kernel_rfl) ?_
      have x2 := (World.cell?_of_block (K5.out.block X xz hSX)).trans x2
      have xz5 := Nat.lt_of_lt_of_le xz K5.out.size
      have HDX := HD5.out X HD3.out.2
      obtain ⟨T1, hT1⟩ : ∃ z, z = setT Tk mfr (tabs Tk mfr) := ⟨_, rfl⟩
      have S5' : Hid (StoreW D5 W w5 sb mb T1) := show StoreW D5 W w5 sb mb T1 from by rw [hT1]; exact ⟨_, _, S5.out⟩
      have F1 : Hid (FewK ks T1) := show FewK ks T1 from by rw [hT1]; exact HFk.out.self _
      have HTE : Hid (doL T (L.take (k + 1)) = doX mto T1 KL) := show _ = _ by rw [HTK.out, HKL.out, hT1]; rfl
      clear hT1 S5 HTK HKL HFk x0 x1
      go_wp2_with fail
      go_loopw [24] (fun i wr => ∃ j : Nat, j ≤ KL.length ∧ i = .int .i64 j ∧ Hid (StoreW D5 W wr sb mb (doX mto T1 (KL.take j))) ∧ Hid (Kept (fun b => ¬ D5 b) w5 wr)) (fun i _ => KL.length - (intOf i).toNat)
      case atStart => exact ⟨0, Nat.zero_le _, rfl, S5'.out, Kept.refl _ _⟩
      case round =>
        obtain ⟨j, hj, rfl, hSj, hKj⟩ := hrel
        by_cases hltj : j < KL.length
        · have hjI : (j : Int) < (KL.length : Int) := by omega
          have hEj : EntsIn D5 KL wr (.slice a5 KL.length c5) := E5.out.imp (fun _ _ h => h) hKj.out.size fun b hb hD => hKj.out.block b hb fun h => h hD
          obtain ⟨b, off, fa, fc, rfl, hDb, hbz, d0, d1, d2, d3, d4, dS⟩ := hEj.at j hltj
          have hkj := HKK.out (entAt KL j) (by rw [entAt_eq hltj]; exact List.getElem_mem hltj)
          have HTJ : Hid (doX mto T1 (KL.take (j + 1)) = putT (entAt KL j) (doX mto T1 (KL.take j)) mto) := show _ = _ by
            rw [List.take_succ_eq_append_getElem hltj, doX_snoc, entAt_eq hltj]
          have FJ : FewK ks (doX mto T1 (KL.take j)) := F1.out.doX mto fun x hx => (HKK.out x (List.mem_of_mem_take hx)).1
          have HFU := Lib.hid (few_full FJ hks mto (entAt KL j))
          obtain ⟨E, hE⟩ : ∃ z, z = entAt KL j := ⟨_, rfl⟩
          rw [← hE] at d0 d1 d2 d3 d4 dS hkj HTJ HFU
          have hfs := hkj.2
          obtain ⟨Tj, hTj⟩ : ∃ z, z = doX mto T1 (KL.take j) := ⟨_, rfl⟩
          rw [← hTj] at hSj HTJ HFU
          have HEV : Hid (EntV E (.slice fa E.fs.length fc) = .agg #[.string (bs E.g), .int .i64 E.c, .slice fa E.fs.length fc, .bool E.any, .int .i64 E.t]) := show _ = _ from rfl
          have DS := Lib.hid dS
          have x2 := (World.cell?_of_block (hKj.out.block X xz5 fun h => h HDX)).trans x2
          have xzk := Nat.lt_of_lt_of_le xz5 hKj.out.size
          obtain ⟨R6, tb6, hS6⟩ := hSj.out
          have S6 := Lib.hid hS6
          clear hE hTj hSj hS6 hEj FJ hkj dS
          go_upto_region 7 with (fail)
          obtain ⟨w7, hw7⟩ : ∃ z, z = wr.alloc (.cells #[.string (bs E.g), .int .i64 E.c, .slice fa E.fs.length fc, .bool E.any, .int .i64 E.t] 79) := ⟨_, rfl⟩
          obtain ⟨Y, hY⟩ : ∃ z, z = wr.heap.size := ⟨_, rfl⟩
          have b7 : Below wr.heap.size wr w7 := by rw [hw7]; exact bel_alloc (Below.refl _ _) _
          have y0 : w7.cell? ⟨Y, 0, none⟩ = some (.string (bs E.g)) := by rw [hw7, hY]; simp [go_sem]
          have y1 : w7.cell? ⟨Y, 1, none⟩ = some (.int .i64 E.c) := by rw [hw7, hY]; simp [go_sem]
          have y2 : w7.cell? ⟨Y, 2, none⟩ = some (.slice fa E.fs.length fc) := by rw [hw7, hY]; simp [go_sem]
          have y3 : w7.cell? ⟨Y, 3, none⟩ = some (.bool E.any) := by rw [hw7, hY]; simp [go_sem]
          have y4 : w7.cell? ⟨Y, 4, none⟩ = some (.int .i64 E.t) := by rw [hw7, hY]; simp [go_sem]
          have yz : Y < w7.heap.size := by rw [hw7, hY]; simp
          have x2 := (b7.cell (p := ⟨X, 2, none⟩) xzk).trans x2
          have xz7 := Nat.lt_of_lt_of_le xzk b7.size
          have S7 := Lib.hid (S6.out.later b7)
          have DS7 := Lib.hid (DS.out.below b7)
          obtain ⟨D7, hD7⟩ : ∃ z : Nat → Prop, z = fun b => D5 b ∨ (wr.heap.size ≤ b ∧ b < w7.heap.size) := ⟨_, rfl⟩
          rw [← hD7] at S7
          have HD7 : Hid ((∀ b, D5 b → D7 b) ∧ D7 Y) := ⟨fun b hb => by rw [hD7]; exact Or.inl hb, by rw [hD7]; exact Or.inr ⟨by omega, yz⟩⟩
          obtain ⟨SJ, hSJ⟩ : ∃ z : Nat → Prop, z = fun b => ¬ D7 b := ⟨_, rfl⟩
          have hJX : ¬ SJ X := by rw [hSJ]; exact fun h => h (HD7.out.1 X HDX)
          have hJY : ¬ SJ Y := by rw [hSJ]; exact fun h => h HD7.out.2
          have HSJ := Lib.hid hSJ
          have B7 : Hid (Below wr.heap.size wr w7) := b7
          try rw [← hw7]
          try rw [← hY]
          clear hw7 hY b7 hD7 hSJ S6 DS d0 d1 d2 d3 d4
          refine wp_region_heads [0, 1, 2, 4] 6 (fun w' => ∃ x : KeptT SJ w7, w' = x.world) (by kernel_rfl) (by kernel_rfl) ⟨⟨{ w7 with drawn := w7.drawn + 1 }, (Kept.refl SJ w7).drew⟩, rfl⟩ (fun d v c a w h => by cases d <;> exact h) ?_
          simp only [headOps]
          repeat (refine wpTame_step (fun K hK => ?_); go_simp; refine hK _ ?_; clear hK K)
          refine wpTame_nil ?_
          refine wpAnyC_step (f := 2) [3] (by kernel_rfl) rfl rfl (fun i hi => ?_)
          simp only [List.mem_cons, List.not_mem_nil, or_false] at hi
          subst hi
          refine ⟨_, rfl, fun R hR => ?_⟩
          go_wp2_with fail
          refine (sat_any (S7.out.keep (RowKit.Below.refl _ _).drew) mto ht0 ht1).mono ?_
          rintro e w8 ⟨R8, tb8, rfl, hS8, hK8⟩
          rw [← HSJ.out] at hK8
          have K8 : Hid (Kept SJ w7 w8) := ((Kept.refl _ w7).drew).trans hK8
          have S8 := Lib.hid hS8
          clear hS8 hK8 S7
          go_wp2_with fail
          refine hR _ _ ⟨⟨w8, K8.out⟩, rfl⟩ ?_
          clear hR R
          have DS8 : SlT D5 E.fs w8 (.slice fa E.fs.length fc) := DS7.out.imp (fun _ _ h => h) K8.out.size fun b hb hd => K8.out.block b hb (by rw [HSJ.out]; exact fun h => h (HD7.out.1 b hd))
          have CP := put_ok (S8.out.tab mto _ (setT_same _ _ _)) E _ DS8.sls (by omega) HFU.out
          rw [HEV.out] at CP
          have CP := Lib.hid CP
          clear DS8
          refine wpAnyC_step (f := 1) [5] (by kernel_rfl) rfl rfl (fun i hi => ?_)
          simp only [List.mem_cons, List.not_mem_nil, or_false] at hi
          subst hi
          refine ⟨_, rfl, fun R hR => ?_⟩
          go_wp2_with fail
          refine CP.out.mono ?_
          rintro e w9 ⟨rfl, ⟨R9, hR9, hT9⟩, hk9⟩
          obtain ⟨hS9, hK9⟩ := S8.out.turn (setT_same _ _ _) hR9 hT9 hk9
          rw [setT_setT] at hS9
          rw [← HSJ.out] at hK9
          have K9 : Hid (Kept (fun b => ¬ D5 b) w5 w9) := hKj.out.trans (((Kept.refl _ wr).below B7.out).trans ((K8.out.trans hK9).more fun b hb => by rw [HSJ.out] at hb; exact fun hd => hb (HD7.out.1 b hd)))
          have KC : Hid (Kept SJ w7 w9) := K8.out.trans hK9
          have S9 : Hid (StoreW D5 W w9 sb mb (doX mto T1 (KL.take (j + 1)))) := show StoreW _ _ _ _ _ _ by rw [HTJ.out]; exact ⟨_, _, hS9.less HD7.out.1⟩
          clear hS9 hK9 hT9 hR9 hk9 CP S8 K8 DS7 y0 y1 y2 y3 y4
          go_wp2_with fail
          refine hR _ _ ⟨⟨w9, KC.out⟩, rfl⟩ ?_
          clear hR R
          refine wpAnyC_end (k := 6) (by decide) rfl rfl (by kernel_rfl) ?_
          go_wp2_with fail
          go_roundw
          case rel => go_light; exact ⟨j + 1, by omega, by go_num, S9.out, K9.out⟩
          case measure => go_light; simp [intOf]; omega
        · obtain rfl : j = KL.length := by omega
          have hjI : ¬ (KL.length : Int) < (KL.length : Int) := by omega
          have SE : Hid (StoreW D W wr sb mb (doL T (L.take (k + 1)))) := show StoreW _ _ _ _ _ _ by
            have h := hSj.out
            rw [List.take_length] at h
            rw [HTE.out]
            obtain ⟨R6, tb6, h6⟩ := h
            exact ⟨R6, tb6, h6.less fun b hb => HD5.out b (HD3.out.1 b hb)⟩
          have KE : Hid (Kept (fun b => ¬ D b) w wr) := hKp.out.trans (((Kept.refl _ wo).below B3.out).trans ((K5.out.more fun b hb => by rw [HSS.out] at hb; exact fun hd => hb (HD3.out.1 b hd)).trans (hKj.out.more fun b hb hd => hb (HD5.out b (HD3.out.1 b hd)))))
          go_wp2_with fail
          go_roundw
          case rel => go_light; exact ⟨k + 1, by omega, by go_num, SE.out, KE.out⟩
          case measure => go_light; simp [intOf]; omega
    · obtain rfl : k = L.length := by omega
      have hkI : ¬ (L.length : Int) < (L.length : Int) := by omega
      rw [List.take_length] at hSt
      go_wp2_with fail
      go_ret
      exact ⟨rfl, hSt.out, hKp.out⟩
end Go.Proofs.YtahiahjhpakeiaaGreatDoor
end
section
namespace Go.Proofs.YtahiahjhpakeiaaGreatDoor
open Go.RowKit Go.Maps Go.Sort Go.WideShapes Go.ChangeShapes Go.Deep
set_option linter.unusedVariables false
set_option linter.unusedSimpArgs false
attribute [local go_sem] later_cell later_frozen later_lt cell_set_off cell_set_block

set_option maxRecDepth 100000 in
set_option maxHeartbeats 8000000 in
/-- The base ring, as the statements make it. -/
theorem base_made (W U : World) (hb0 : RowKit.Below W.heap.size W U) (v1 : Value) (hs : SlAt 0 (fun i => .int .u64 (nth ids0 i)) ids0.length U v1) : Calls Tryz.prog 8 #[v1, .slice none 0 0, .int .i64 0] U fun e w' =>
    ∃ (rb mb : Nat) (f : RS) (p : Where), e = .returned (.tuple #[.pointer (some ⟨rb, 0, none⟩), (.agg #[.slice (some ⟨(p).b1, (p).o1, none⟩) 32 (p).k1, .slice (some ⟨(p).b2, (p).o2, none⟩) 32 (p).k2, .slice (some ⟨(p).b3, (p).o3, none⟩) 32 (p).k3, .slice (some ⟨(p).b4, (p).o4, none⟩) 32 (p).k4]), .bool true]) ∧ RingOk W.heap.size W w' rb mb f := by
  obtain ⟨i0, hi0, hz0, hz1, hz2⟩ : ∃ i0, Tryz.prog.info? 42 = some i0 ∧ i0.zero = some (Value.int .u64 0) ∧ i0.size = 1 ∧ i0.bytes = 8 := ⟨u64I, u64I_at, by kernel_rfl, by kernel_rfl, by kernel_rfl⟩
  have hf : fourB ids0 = true := by unfold fourB; rw [set0]; rfl
  have HPL : Hid (∀ x ∈ ids0, isPlace x) := show ∀ x ∈ ids0, isPlace x from by unfold ids0 isPlace; simp
  have h44 : ids0.length = 4 ∧ (setI ids0).length = 4 := by unfold fourB at hf; simpa using hf
  have HF := Lib.hid hf
  have H44 := Lib.hid h44
  obtain ⟨ids, hids⟩ : ∃ z, z = ids0 := ⟨_, rfl⟩
  rw [← hids] at hs HPL HF H44
  obtain ⟨a0, c0, rfl, _⟩ := hs.slice
  have HI := Lib.hid hs
  have HB0 := Lib.hid hb0
  have h6I : ¬ (6 : Int) < (ids.length : Int) := by have := H44.out.1; omega
  have h6 : ids.length ≤ 6 := by omega
  have HYes : Hid (∀ (rb mb : Nat) (f : RS) (p : Where) w', RingOk W.heap.size W w' rb mb f → ∃ (rb' mb' : Nat) (f : RS) (p' : Where), Ending.returned (.tuple #[.pointer (some ⟨rb, 0, none⟩), (.agg #[.slice (some ⟨(p).b1, (p).o1, none⟩) 32 (p).k1, .slice (some ⟨(p).b2, (p).o2, none⟩) 32 (p).k2, .slice (some ⟨(p).b3, (p).o3, none⟩) 32 (p).k3, .slice (some ⟨(p).b4, (p).o4, none⟩) 32 (p).k4]), .bool true]) = .returned (.tuple #[.pointer (some ⟨rb', 0, none⟩), (.agg #[.slice (some ⟨(p').b1, (p').o1, none⟩) 32 (p').k1, .slice (some ⟨(p').b2, (p').o2, none⟩) 32 (p').k2, .slice (some ⟨(p').b3, (p').o3, none⟩) 32 (p').k3, .slice (some ⟨(p').b4, (p').o4, none⟩) 32 (p').k4]), .bool true]) ∧ RingOk W.heap.size W w' rb' mb' f) := fun rb mb f p w' h => ⟨rb, mb, f, p, rfl, h⟩
  clear hs hb0 hf h44 hids
  go_enter Tryz.func8, Tryz.ntmps8
  go_upto_region 4 with (fail)
  obtain ⟨w1, hw1⟩ : ∃ z, z = (U.alloc (.cells #[.slice none 0 0, .slice none 0 0, .slice none 0 0, .slice none 0 0] 32)).alloc (.cells #[] 42) := ⟨_, rfl⟩
  have B1 : Hid (RowKit.Below U.heap.size U w1) := by rw [hw1]; exact bel_alloc (bel_alloc (RowKit.Below.refl _ _) _) _
  have R1 : Hid (BoxNil w1 U.heap.size) := by rw [hw1]; exact ⟨by simp [go_sem], by simp [go_sem], by simp [go_sem], by simp [go_sem], by simp [go_sem], by simp [go_sem], by simp [go_sem], by simp [go_sem], by simp; omega⟩
  have O1 : Hid (w1.ownsRow (U.heap.size + 1) 42 1 (.slice (some ⟨U.heap.size + 1, 0, none⟩) 0 0) 0 []) := by rw [hw1]; exact own_nil _ _ _ _ _ (by simp) (by simp)
  have hz1' : w1.heap.size = U.heap.size + 2 := by rw [hw1]; simp
  rw [← hw1]
  clear hw1
  go_wp2_with fail
  go_loopw [9, 11, 27] (fun vo _ i wr => ∃ k : Nat, k ≤ ids.length ∧ i = .int .i64 k ∧ Hid (wr.ownsRow (U.heap.size + 1) 42 1 vo k ((ids.take k).map (Value.int .u64))) ∧ Hid (RowKit.Below (U.heap.size + 1) w1 wr)) (fun _ _ i _ => ids.length - (intOf i).toNat)
  case atStart => exact ⟨0, Nat.zero_le _, rfl, O1.out, RowKit.Below.refl _ _⟩
  case round =>
    obtain ⟨k, hk, rfl, hO, hB⟩ := hrel
    have hBW : RowKit.Below U.heap.size U wr := B1.out.trans (hB.out.mono (by omega))
    have hsz := hB.out.size
    by_cases hlt : k < ids.length
    · obtain ⟨b, off, rfl, _, hb, hcell⟩ := HI.out.at k hlt wr hBW
      go_wp2_with (at_builtin; refine wpList_app rfl _ _ 27 rfl (U.heap.size + 1) 42 i0 (.int .u64 0) 8 Tryz.underlying27 hi0 hz0 hz1 hz2 rfl _ k _ rfl (hO.out.alloc _) 0 _ 1 _ rfl (sl_new _ .u64 [nth ids k] 42 _ 1 rfl rfl (by simp [maxLen])) (fun _ => rfl) ?qc1 ?qc2 ?qc3 ?_)
      case qc1 => simp only [maxLen]; omega
      case qc2 => omega
      case qc3 => simp; omega
      intro v' w2 ho hg
      have hB2 : Hid (RowKit.Below (U.heap.size + 1) w1 w2) := (hB.out.alloc (by omega) _).grown hg (by simp; omega) (fun j hj => by have := hO.out.lt j hj; omega)
      clear hcell hb
      go_wp2_with fail
      go_roundw
      case rel =>
        go_light
        refine ⟨k + 1, by omega, by go_num, ?_, hB2.out⟩
        have e : (ids.take (k + 1)).map (Value.int .u64) = List.take k (ids.map (Value.int .u64)) ++ [Value.int .u64 (nth [nth ids k] 0)] := by
          rw [List.take_succ_eq_append_getElem hlt, List.map_append, List.map_take]
          simp [nth, hlt]
        show World.ownsRow _ _ _ _ _ _ _
        rw [e]; exact ho
      case measure => go_light; simp [intOf]; omega
    · have hkl : k = ids.length := by omega
      have hs := hO.out
      rw [hkl, List.take_length] at hs
      have hs2 := own_ints hs
      obtain ⟨an, cn, hvn, _⟩ := hs2.slice
      subst hvn
      have SN := Lib.hid hs2
      have BN := Lib.hid hBW
      have LN := Lib.hid hB.out
      have hnI : ¬ ((k : Nat) : Int) < (ids.length : Int) := by omega
      clear hs hs2 hO hB hBW hk hlt hkl
      go_wp2_with fail
      clear hnI
      have hzr : w1.heap.size ≤ wr.heap.size := LN.out.size
      have RN : Hid (BoxNil wr U.heap.size) := R1.out.block hzr (LN.out.block _ (by omega))
      have hF := fourB_four HF.out HPL.out
      have CB := Lib.hid (born_any wr wr (RowKit.Below.refl _ _) _ ids (HI.out.below BN.out) HPL.out)
      refine CB.out.mono ?_
      intro e w2 hq
      unfold Born at hq
      rw [if_pos HF.out] at hq
      obtain ⟨rb, mb, rfl, hR1⟩ := hq
      obtain ⟨f, hfe⟩ : ∃ z, z = newF ids (setI ids) 4 := ⟨_, rfl⟩
      have R2 := Lib.hid hR1
      rw [← hfe] at R2
      have B2 := Lib.hid hR1.below
      have RN2 := Lib.hid (RN.out.later hR1.below)
      have SN2 := Lib.hid ((SN.out.base (B' := 0) (Nat.zero_le _)).below hR1.below)
      have CN := Lib.hid (rnew_yes w2 _ ids SN2.out H44.out.1 H44.out.2 hF)
      clear hR1 hfe hF CB
      go_wp2_with fail
      refine CN.out.mono ?_
      rintro e w3 ⟨x, rfl, p, V, rfl, hR3, hB3⟩
      simp only [Where.val, Where.used, Where.live, Where.ids, Where.peers]
      have R3 := Lib.hid (R2.out.later hB3)
      have RN3 := Lib.hid (RN2.out.later hB3)
      have hUz : U.heap.size < wr.heap.size := by omega
      clear hR3 hB3 CN R2 RN2 SN2
      go_wp2_with fail
      obtain ⟨w4, hw4⟩ : ∃ z, z = w3.alloc (.cells #[.slice (some ⟨p.b1, p.o1, none⟩) 32 p.k1, .slice (some ⟨p.b2, p.o2, none⟩) 32 p.k2, .slice (some ⟨p.b3, p.o3, none⟩) 32 p.k3, .slice (some ⟨p.b4, p.o4, none⟩) 32 p.k4] 32) := ⟨_, rfl⟩
      obtain ⟨T, hT⟩ : ∃ T, T = w3.heap.size := ⟨_, rfl⟩
      have b34 : RowKit.Below w3.heap.size w3 w4 := by rw [hw4]; exact bel_alloc (RowKit.Below.refl _ _) _
      have T4 : Hid (BoxOf w4 T p) := by rw [hw4, hT]; exact ⟨by simp [go_sem], by simp [go_sem], by simp [go_sem], by simp [go_sem], by simp [go_sem], by simp [go_sem], by simp [go_sem], by simp [go_sem], by simp⟩
      have R4 := Lib.hid (R3.out.later b34)
      have RN4 := Lib.hid (RN3.out.later b34)
      rw [← hw4]
      try rw [← hT]
      clear hw4 b34 hT R3 RN3
      have t0 := T4.out.c0
      have t1 := T4.out.c1
      have t2 := T4.out.c2
      have t3 := T4.out.c3
      have zT := T4.out.z
      refine wp_loop_rounds 1 ?_
      rw [rounds_succ]
      go_wp2_with fail
      refine wp_region_calm_tail (3) (by kernel_rfl) (by kernel_rfl) ?_
      simp only [List.take_succ_cons, List.take_zero, List.drop_succ_cons, List.drop_zero]
      repeat (first | (go_big_quiet_step ((fail))) | (refine wpQuiet_step (fun K hK => ?_); go_simp; first | (refine hK _ ?_; clear hK K) | (apply Exists.intro; refine ⟨fun _ => ?_, hK _ ?_⟩; (fail); clear hK K)))
      refine wpQuiet_nil ?_
      intro _ hw'
      obtain ⟨xq, hw''⟩ := hw'
      subst hw''
      have R5 := Lib.hid (R4.out.later xq.below)
      have RN5 := RN4.out.later xq.below
      obtain ⟨w5, hB5⟩ := xq
      dsimp only at R5 RN5 ⊢
      clear t0 t1 t2 t3 zT
      have r0 := (RN5).c0
      have r1 := (RN5).c1
      have r2 := (RN5).c2
      have r3 := (RN5).c3
      have rf0 := (RN5).f0
      have rf1 := (RN5).f1
      have rf2 := (RN5).f2
      have rf3 := (RN5).f3
      have zr := (RN5).z
      go_wp2_with fail
      refine bodyPost_ret (v := .tuple #[.pointer (some ⟨rb, 0, none⟩), (.agg #[.slice (some ⟨(p).b1, (p).o1, none⟩) 32 (p).k1, .slice (some ⟨(p).b2, (p).o2, none⟩) 32 (p).k2, .slice (some ⟨(p).b3, (p).o3, none⟩) 32 (p).k3, .slice (some ⟨(p).b4, (p).o4, none⟩) 32 (p).k4]), .bool true]) ?_ rfl ?_
      · simp [results, Tryz.results8, go_sem, r0, r1, r2, r3]
      obtain ⟨w6, hw6⟩ : ∃ z, z = (((w5.setCell ⟨U.heap.size, 0, none⟩ (.slice (some ⟨p.b1, p.o1, none⟩) 32 p.k1)).setCell ⟨U.heap.size, 1, none⟩ (.slice (some ⟨p.b2, p.o2, none⟩) 32 p.k2)).setCell ⟨U.heap.size, 2, none⟩ (.slice (some ⟨p.b3, p.o3, none⟩) 32 p.k3)).setCell ⟨U.heap.size, 3, none⟩ (.slice (some ⟨p.b4, p.o4, none⟩) 32 p.k4) := ⟨_, rfl⟩
      obtain ⟨hz6, hk6⟩ := block_set4 hw6
      have hbw : RowKit.Below U.heap.size U w6 := by
        rw [hw6]
        exact bel_set (bel_set (bel_set (bel_set (bel_below BN.out R5.out.below) (Nat.le_refl _) _) (Nat.le_refl _) _) (Nat.le_refl _) _) (Nat.le_refl _) _
      obtain ⟨g, hg⟩ := R5.out.ring
      have hz0 := HB0.out.size
      rw [← hw6]
      refine HYes.out rb mb f p w6 ⟨⟨g, hg.same (by omega) (fun b hb hS => hk6 b (by omega)) (fun b _ hS => by omega) fun b hb => by have := R5.out.below.size; omega⟩, R5.out.inv, bel_below HB0.out hbw⟩
end Go.Proofs.YtahiahjhpakeiaaGreatDoor

/-
  The statements' own look at keepers, stores and plans: awake.
-/
namespace Go.Proofs.YtahiahjhpakeiaaGreatDoor
open Go.RowKit Go.Maps Go.Sort Go.WideShapes Go.ChangeShapes Go.Deep
set_option linter.unusedVariables false
set_option linter.unusedSimpArgs false
attribute [local go_sem] later_cell later_frozen later_lt cell_set_off cell_set_block

theorem putE_nil (y : Ent) : putE [] y = [y] := by
  unfold putE hitB findI; simp
theorem putT_at (x : Ent) (T : Int → Option (List Ent)) (n : Int) : putT x T n n = some (putE ((T n).getD []) (cleanE x)) := by unfold putT; rw [setT_same]
theorem putT_ne (x : Ent) (T : Int → Option (List Ent)) {n m : Int} (h : m ≠ n) : putT x T n m = T m := by unfold putT; rw [setT_ne _ _ h]
theorem putsT_out (x : Ent) : ∀ (ks : List Int) (T : Int → Option (List Ent)) (n : Int), n ∉ ks → putsT x T ks n = T n
  | [], _, _, _ => rfl
  | k :: ks, T, n, h => by
    have h1 : n ≠ k := fun e => h (by simp [e])
    have h2 : n ∉ ks := fun e => h (by simp [e])
    show putsT x (putT x T k) ks n = _
    rw [putsT_out x ks _ n h2, putT_ne _ _ h1]
theorem putsT_in (x : Ent) : ∀ (ks : List Int) (T : Int → Option (List Ent)) (n : Int), ks.Nodup → n ∈ ks → putsT x T ks n = some (putE ((T n).getD []) (cleanE x))
  | [], _, _, _, h => by simp at h
  | k :: ks, T, n, hd, h => by
    have hd' := List.nodup_cons.1 hd
    show putsT x (putT x T k) ks n = _
    rcases List.mem_cons.1 h with rfl | h
    · rw [putsT_out x ks _ n hd'.1, putT_at]
    · have : n ≠ k := fun e => hd'.1 (e ▸ h)
      rw [putsT_in x ks _ n hd'.2 h, putT_ne _ _ this]
def gE : Ent := ⟨[103], 7, [], false, 0⟩
theorem kids_put (g : Str) (x : Ent) (hx : x.g = g) : (kidsE [cleanE x] g).length = 1 := by
  unfold kidsE
  rw [List.length_map, List.filter_cons, clean_g]
  simp [hx]
set_option maxRecDepth 100000 in
set_option maxHeartbeats 8000000 in
theorem awake21_any (W : World) : Calls Tryz.prog 9 #[] W fun e w' => e = .returned (.bool true) ∧ Below W.heap.size W w' := by
  go_enter Tryz.func9, Tryz.ntmps9
  go_wp2_with fail
  refine (base_any _).mono ?_
  rintro e w1 ⟨v1, rfl, hs1, hB1⟩
  have CB := Lib.hid (born_any W w1 hB1 v1 ids0 (hs1.base (Nat.zero_le _)) (by unfold ids0 isPlace; simp))
  clear hs1 hB1
  go_wp2_with fail
  refine CB.out.mono ?_
  intro e w2 hq
  unfold Born at hq
  rw [show fourB ids0 = true from by unfold fourB; rw [set0]; rfl, if_pos rfl] at hq
  obtain ⟨rb, mb, rfl, hR1⟩ := hq
  obtain ⟨f, hf⟩ : ∃ f, f = newF ids0 (setI ids0) 4 := ⟨_, rfl⟩
  rw [← hf] at hR1
  have HIN := Lib.hid hR1.inv
  have BW2 := Lib.hid hR1.below
  obtain ⟨g, hG⟩ := hR1.ring
  have CC := Lib.hid (of_at hG hR1.inv)
  clear hR1 CB hG hf
  go_wp2_with fail
  refine CC.out.mono ?_
  rintro e w3 ⟨av, iv, rfl, hav, hiv, hb3⟩
  obtain ⟨aa, ac, rfl, _⟩ := hav.slice
  obtain ⟨ia, ic, rfl, _⟩ := hiv.slice
  have HAV := Lib.hid (hav.base (B' := 0) (Nat.zero_le _))
  have HIV := Lib.hid (hiv.base (B' := 0) (Nat.zero_le _))
  obtain ⟨cl, hcl⟩ : ∃ z, z = (circ f).length := ⟨_, rfl⟩
  have HCL := Lib.hid hcl
  have B3 := Lib.hid (bel_below BW2.out hb3)
  rw [← hcl]
  clear hcl hav hiv hb3 CC
  go_upto_region 5 with (fail)
  obtain ⟨w4, hw4⟩ : ∃ z, z = w3.alloc (.cells #[.slice aa cl ac, .slice ia cl ic] 38) := ⟨_, rfl⟩
  obtain ⟨X, hX⟩ : ∃ z, z = w3.heap.size := ⟨_, rfl⟩
  have b34 : Below w3.heap.size w3 w4 := by rw [hw4]; exact bel_alloc (Below.refl _ _) _
  have x0 : w4.cell? ⟨X, 0, none⟩ = some (.slice aa cl ac) := by rw [hw4, hX]; simp [go_sem]
  have x1 : w4.cell? ⟨X, 1, none⟩ = some (.slice ia cl ic) := by rw [hw4, hX]; simp [go_sem]
  have xz : X < w4.heap.size := by rw [hw4, hX]; simp
  have B34 := Lib.hid b34
  have CK := keep_any w4 f HIN.out _ _ (HAV.out.below b34) (HIV.out.below b34) (ByteArray.mk #[103]) (by decide)
  rw [← HCL.out] at CK
  have CK := Lib.hid CK
  have HKD := Lib.hid (keepK_nodup HIN.out (keyH (ByteArray.mk #[103])))
  have HKL : Hid (∀ n ∈ keepK f (keyH (ByteArray.mk #[103])), 0 ≤ n ∧ n < 32) := fun n hn => livesR_dom HIN.out.dom (keepK_lives HIN.out _ n hn)
  unfold KeepPost at CK
  obtain ⟨ks, hks⟩ : ∃ z, z = keepK f (keyH (ByteArray.mk #[103])) := ⟨_, rfl⟩
  have HKS := Lib.hid hks
  have HK3 : Hid (ks.length = 3) := show _ = _ by rw [hks]; rfl
  rw [← hks] at CK HKD HKL
  rw [← hw4]
  try rw [← hX]
  clear hw4 hX b34 hks
  go_wp2_with fail
  refine CK.out.mono ?_
  rintro e w5 ⟨v5, rfl, hs5, hb5⟩
  obtain ⟨a5, c5, rfl, _⟩ := hs5.slice
  have S5 := Lib.hid (hs5.base (B' := 0) (Nat.zero_le _))
  have B5 := Lib.hid (bel_below (bel_below B3.out B34.out) hb5)
  have AV5 := Lib.hid (HAV.out.below (bel_below B34.out hb5))
  have IV5 := Lib.hid (HIV.out.below (bel_below B34.out hb5))
  have x0 := (hb5.cell (p := ⟨X, 0, none⟩) xz).trans x0
  have x1 := (hb5.cell (p := ⟨X, 1, none⟩) xz).trans x1
  have xz := Nat.lt_of_lt_of_le xz hb5.size
  clear hs5 hb5 CK HAV HIV B3 B34
  go_wp2_with fail
  refine (snew_any w5).mono ?_
  rintro e w6 ⟨sb, mb2, rfl, ⟨R0, tb0, hS6⟩, hb6⟩
  have S6 := Lib.hid hS6
  have x0 := (hb6.cell (p := ⟨X, 0, none⟩) xz).trans x0
  have x1 := (hb6.cell (p := ⟨X, 1, none⟩) xz).trans x1
  have CP := sput_any S6.out (fun n l h => by cases h) f HIN.out _ _ (AV5.out.below hb6) (IV5.out.below hb6) gE (by decide) (.slice none 0 0) (slT_nil _ _) (by decide)
  rw [← HCL.out, show keepK f (keyH (bs gE.g)) = ks from HKS.out.symm] at CP
  have CP := Lib.hid CP
  have B6 := Lib.hid hb6
  have xz6 := Nat.lt_of_lt_of_le xz hb6.size
  clear hS6 hb6
  go_wp2_with fail
  refine CP.out.mono ?_
  rintro e w7 ⟨rfl, ⟨R7, tb7, hS7⟩, hK7⟩
  have K57 : Hid (Kept (fun b => ¬ b < w5.heap.size) w5 w7) := ((Kept.refl _ w5).below B6.out).trans hK7
  have S7 := Lib.hid (slAt_kept2 S5.out K57.out fun b _ h1 h2 => h2 h1)
  have AV7 := Lib.hid (slAt_kept2 AV5.out K57.out fun b _ h1 h2 => h2 h1)
  have IV7 := Lib.hid (slAt_kept2 IV5.out K57.out fun b _ h1 h2 => h2 h1)
  have x0 := (World.cell?_of_block (a := ⟨X, 0, none⟩) (hK7.block X xz6 (fun h => h xz))).trans x0
  have x1 := (World.cell?_of_block (a := ⟨X, 1, none⟩) (hK7.block X xz6 (fun h => h xz))).trans x1
  have hTT : ∀ n ∈ ks, (kidsE ((putsT gE (fun _ => none) ks n).getD []) [103]).length = 1 := fun n hn => by
    rw [putsT_in gE ks _ n HKD.out hn]
    show (kidsE (putE [] (cleanE gE)) [103]).length = 1
    rw [putE_nil]; exact kids_put _ _ rfl
  have HTT := Lib.hid hTT
  have xz7 := Nat.lt_of_lt_of_le xz6 hK7.size
  have HS7 := Lib.hid hS7
  have B7 : Hid (Below W.heap.size W w7) := B5.out.trans (K57.out.toBelow B5.out.size fun b hb h => by have := B5.out.size; omega)
  obtain ⟨T7, hT7⟩ : ∃ z, z = putsT gE (fun _ => none) ks := ⟨_, rfl⟩
  rw [← hT7] at HS7 HTT
  obtain ⟨qb, qo, hq, _, hqz, hl0⟩ := S7.out.at 0 (by omega) w7 (Below.refl _ _)
  have hqz5 : qb < w5.heap.size := by
    obtain ⟨qb', qo', hq', _, hqz', _⟩ := S5.out.at 0 (by omega) w5 (Below.refl _ _)
    rw [hq] at hq'
    cases hq'
    exact hqz'
  subst hq
  rw [Nat.add_zero] at hl0
  have hl2 : w7.cell? ⟨qb, qo + 2, none⟩ = some (.int .i64 (nth ks 2)) := by
    obtain ⟨qb', qo', hq', _, _, h2⟩ := S7.out.at 2 (by omega) w7 (Below.refl _ _)
    cases hq'
    exact h2
  have hn0 : nth ks 0 ∈ ks := nth_mem.2 ⟨0, by rw [HK3.out]; omega, rfl⟩
  have hn2 : nth ks 2 ∈ ks := nth_mem.2 ⟨2, by rw [HK3.out]; omega, rfl⟩
  have CW := Lib.hid (wish_any HS7.out (nth ks 0) (HKL.out _ hn0).1 (HKL.out _ hn0).2 [103])
  have HL0 := Lib.hid (HTT.out _ hn0)
  have HL2 := Lib.hid (HTT.out _ hn2)
  have HD2 := Lib.hid (HKL.out _ hn2)
  have HNE : Hid (nth ks 2 ≠ nth ks 0) := show _ ≠ _ from fun e => by
    have h3 := List.pairwise_iff_getElem.1 HKD.out 0 2 (by rw [HK3.out]; omega) (by rw [HK3.out]; omega) (by omega)
    rw [← nth_eq (by rw [HK3.out]; omega), ← nth_eq (by rw [HK3.out]; omega)] at h3
    exact h3 e.symm
  obtain ⟨n0, hn0e⟩ : ∃ z, z = nth ks 0 := ⟨_, rfl⟩
  obtain ⟨n2, hn2e⟩ : ∃ z, z = nth ks 2 := ⟨_, rfl⟩
  rw [← hn0e] at hl0 CW HL0 HNE
  rw [← hn2e] at hl2 HL2 HNE HD2
  clear hS7 hK7 hTT hT7 hn0e hn2e hn0 hn2 CP S7 S5 S6 AV7 IV7
  go_wp2_with fail
  refine CW.out.mono ?_
  rintro e w8 ⟨v8, R8, tb8, rfl, hE8, hS8, hK8⟩
  obtain ⟨a8, c8, rfl, _⟩ := hE8.slice
  have hT8 : (setT T7 n0 ((T7 n0).getD [])) n2 = T7 n2 := setT_ne _ _ HNE.out
  have CW2 := wish_any hS8 n2 HD2.out.1 HD2.out.2 [103]
  rw [hT8] at CW2
  have CW2 := Lib.hid CW2
  have hl2 := (World.cell?_of_block (a := ⟨qb, qo + 2, none⟩) (hK8.block qb hqz (fun h => h hqz5))).trans hl2
  have x0 := (World.cell?_of_block (a := ⟨X, 0, none⟩) (hK8.block X xz7 (fun h => h xz))).trans x0
  have x1 := (World.cell?_of_block (a := ⟨X, 1, none⟩) (hK8.block X xz7 (fun h => h xz))).trans x1
  have xz8 := Nat.lt_of_lt_of_le xz7 hK8.size
  have hqz8 := Nat.lt_of_lt_of_le hqz hK8.size
  have B8 : Hid (Below W.heap.size W w8) := B7.out.trans (hK8.toBelow B7.out.size fun b hb h => by have := B5.out.size; omega)
  have K58 := Lib.hid (K57.out.trans hK8)
  have HL80 := HL0.out
  obtain ⟨kl, hkl⟩ : ∃ z, z = kidsE ((T7 n0).getD []) [103] := ⟨_, rfl⟩
  rw [← hkl] at HL80 ⊢
  rw [HL80]
  clear hE8 hS8 hK8 hT8 CW hkl HL80 K57
  go_wp2_with fail
  refine CW2.out.mono ?_
  rintro e w9 ⟨v9, R9, tb9, rfl, hE9, hS9, hK9⟩
  obtain ⟨a9, c9, rfl, _⟩ := hE9.slice
  have x0 := (World.cell?_of_block (a := ⟨X, 0, none⟩) (hK9.block X xz8 (fun h => h xz))).trans x0
  have x1 := (World.cell?_of_block (a := ⟨X, 1, none⟩) (hK9.block X xz8 (fun h => h xz))).trans x1
  have xz9 := Nat.lt_of_lt_of_le xz8 hK9.size
  have B9 : Hid (Below W.heap.size W w9) := B8.out.trans (hK9.toBelow B8.out.size fun b hb h => by have := B5.out.size; omega)
  have K59 := K58.out.trans hK9
  have AV9 := Lib.hid (slAt_kept2 AV5.out K59 fun b _ h1 h2 => h2 h1)
  have IV9 := Lib.hid (slAt_kept2 IV5.out K59 fun b _ h1 h2 => h2 h1)
  have HL90 := HL2.out
  obtain ⟨kl, hkl⟩ : ∃ z, z = kidsE ((T7 n2).getD []) [103] := ⟨_, rfl⟩
  rw [← hkl] at HL90 ⊢
  rw [HL90]
  clear hE9 hS9 hK9 CW2 hkl HL90 K58 K59 HTT HS7
  go_wp2_with fail
  obtain ⟨w10, hw10⟩ : ∃ z, z = w9.alloc (.cells #[.string { data := #[103] }] 9) := ⟨_, rfl⟩
  have b10 : Below w9.heap.size w9 w10 := by rw [hw10]; exact bel_alloc (Below.refl _ _) _
  have SS : Hid (SlS 0 [[103]] w10 (.slice (some ⟨w9.heap.size, 0, none⟩) 1 1)) := show SlAt _ _ _ _ _ by
    rw [hw10]
    exact (slS_one w9 [103] 9 w9.heap.size rfl).congr fun i hi => by
      obtain rfl : i = 0 := by have : i < 1 := hi; omega
      rfl
  have B10 := Lib.hid (bel_below B9.out b10)
  have CPL := plan_any w10 f f HIN.out HIN.out _ _ _ _ (AV9.out.below b10) (IV9.out.below b10) (AV9.out.below b10) (IV9.out.below b10) _ [[103]] SS.out (by decide) (by decide)
  rw [← HCL.out] at CPL
  have CPL := Lib.hid CPL
  rw [← hw10]
  clear hw10 b10 SS AV9 IV9
  refine CPL.out.mono ?_
  rintro e w11 ⟨v, L, rfl, hv, _, hp, hb11⟩
  rw [planU_same HIN.out] at hp
  obtain rfl := List.Perm.eq_nil hp
  obtain ⟨a11, c11, rfl⟩ := hv.slice
  have B11 := Lib.hid (bel_below B10.out hb11)
  rw [List.length_nil]
  clear hv hp hb11 CPL
  go_wp2_with fail
  go_ret
  exact ⟨rfl, B11.out⟩
end Go.Proofs.YtahiahjhpakeiaaGreatDoor
end
