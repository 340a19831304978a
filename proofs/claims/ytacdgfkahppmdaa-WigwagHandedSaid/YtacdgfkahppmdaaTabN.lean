


/-
  TableAny walked.
-/
import Derived.Test.YtacdgfkahppmdaaTabK
namespace Go.Proofs.Ytacdgfkahppmdaa
open Go.RowKit Go.Maps Go.Sort Go.WideShapes Go.ChangeShapes Go.Deep
set_option linter.unusedVariables false
set_option linter.unusedSimpArgs false
attribute [local go_sem] later_cell later_frozen later_lt cell_set_off cell_set_block keptT_cell keptT_lt

/-! ### Each once -/
def addD (D : List Str) (f : Str) : List Str := if f ∈ D then D else D ++ [f]
def ddup (D fs : List Str) : List Str := fs.foldl addD D
theorem addD_mem (D : List Str) (f x : Str) : x ∈ addD D f ↔ x ∈ D ∨ x = f := by
  unfold addD
  split
  · rename_i h
    constructor
    · exact Or.inl
    · rintro (h1 | rfl)
      · exact h1
      · exact h
  · simp
theorem ddup_mem : ∀ (fs D : List Str) (x : Str), x ∈ ddup D fs ↔ x ∈ D ∨ x ∈ fs
  | [], D, x => by simp [ddup]
  | f :: fs, D, x => by
    show x ∈ ddup (addD D f) fs ↔ _
    rw [ddup_mem fs, addD_mem, List.mem_cons, or_assoc]
theorem addD_nodup {D : List Str} (h : D.Nodup) (f : Str) : (addD D f).Nodup := by
  unfold addD
  split
  · exact h
  · rename_i hf
    rw [List.nodup_append]
    refine ⟨h, by simp, fun a ha b hb => ?_⟩
    rw [List.mem_singleton] at hb
    subst hb
    intro e; subst e; exact hf ha
theorem ddup_nodup : ∀ (fs : List Str) {D : List Str}, D.Nodup → (ddup D fs).Nodup
  | [], D, h => h
  | f :: fs, D, h => ddup_nodup fs (addD_nodup h f)
theorem addD_len (D : List Str) (f : Str) : (addD D f).length ≤ D.length + 1 := by
  unfold addD; split <;> simp
theorem ddup_len : ∀ (fs D : List Str), (ddup D fs).length ≤ D.length + fs.length
  | [], D => by simp [ddup]
  | f :: fs, D => by
    have h1 := ddup_len fs (addD D f)
    have h2 := addD_len D f
    show (ddup (addD D f) fs).length ≤ _
    rw [List.length_cons]; omega
theorem ddup_snoc (D fs : List Str) {j : Nat} (hj : j < fs.length) : ddup D (fs.take (j + 1)) = addD (ddup D (fs.take j)) (nthT fs j) := by
  unfold ddup
  rw [List.take_succ_eq_append_getElem hj, List.foldl_append, nthT_eq hj]; rfl
theorem ddup_app (D a b : List Str) : ddup D (a ++ b) = ddup (ddup D a) b := by unfold ddup; exact List.foldl_append
theorem in_take_succ (f : Str) (D : List Str) {k : Nat} (hk : k < D.length) : decide (f ∈ D.take (k + 1)) = (decide (f ∈ D.take k) || decide (f = nthT D k)) := by
  rw [List.take_succ_eq_append_getElem hk, nthT_eq hk, Bool.eq_iff_iff]
  simp only [List.mem_append, List.mem_singleton, Bool.or_eq_true, decide_eq_true_eq]

/-! ### The entries so far -/
def cutN (l : List Ent) (i : Nat) : List Ent := (l.take i).map cutE
theorem cutN_succ (l : List Ent) {i : Nat} (hi : i < l.length) : cutN l (i + 1) = cutN l i ++ [cutE (entAt l i)] := by
  unfold cutN
  rw [List.take_succ_eq_append_getElem hi, List.map_append, entAt_eq hi]; rfl
theorem allE_snoc (L : List Ent) (x : Ent) : allE (L ++ [x]) = allE L ++ x.fs := by unfold allE; rw [List.flatMap_append]; simp
theorem anyE_snoc (L : List Ent) (x : Ent) : anyE (L ++ [x]) = (anyE L || x.any) := by unfold anyE; rw [List.any_append]; simp
theorem allE_few : ∀ {L : List Ent}, (∀ e ∈ L, e.fs.length ≤ 20) → (allE L).length ≤ 20 * L.length
  | [], _ => by simp [allE]
  | x :: L, h => by
    have h1 := allE_few (L := L) fun e he => h e (List.mem_cons_of_mem _ he)
    have h2 := h x (by simp)
    unfold allE at h1 ⊢
    rw [List.flatMap_cons, List.length_append, List.length_cons]; omega
theorem cutN_few {l : List Ent} {i : Nat} {e : Ent} (h : e ∈ cutN l i) : e.fs.length ≤ 20 := by
  obtain ⟨y, _, rfl⟩ := List.mem_map.1 h
  exact cutE_len y
theorem cutN_len (l : List Ent) (i : Nat) : (cutN l i).length ≤ i := by unfold cutN; rw [List.length_map, List.length_take]; omega
theorem join_count (L : List Ent) : (setS (allE L)).length = (ddup [] (allE L)).length := setS_count (ddup_nodup _ List.nodup_nil) fun x => by rw [ddup_mem]; simp

/-! ### Two slices of the call's own, side by side -/
def TwoR (B : Nat) (rs : List Row) (D : List Str) (w : World) (vi va : Value) : Prop :=
  w.ownsRow B 30 5 vi rs.length (flat rs) ∧ w.ownsRow B 9 1 va D.length (D.map sV) ∧ (∀ b, vi.ownBlock = some b → va.ownBlock ≠ some b) ∧ ∀ r ∈ rs, SlT (fun b => B ≤ b ∧ vi.ownBlock ≠ some b ∧ va.ownBlock ≠ some b) r.e.fs w r.v
section
variable {B : Nat} {rs : List Row} {D : List Str} {w w' : World} {vi va : Value}
theorem TwoR.below (h : TwoR B rs D w vi va) (hb : Below w.heap.size w w') : TwoR B rs D w' vi va := by
  obtain ⟨h1, h2, h3, h4⟩ := h
  exact ⟨ownsRow_same h1 fun q hq => hb.block q (h1.lt q hq).2, ownsRow_same h2 fun q hq => hb.block q (h2.lt q hq).2, h3, fun r hr => (h4 r hr).below hb⟩
theorem TwoR.ents (h : TwoR B rs D w vi va) : EntsIn (fun b => B ≤ b) (entsOf rs) w vi :=
  own_rows h.1 (fun q hq => (h.1.lt q hq).1) fun r hr => (h.2.2.2 r hr).imp (fun _ _ h => h.1) (Nat.le_refl _) fun _ _ _ => rfl
theorem TwoR.new (h : TwoR B rs D w vi va) {b : Nat} (hb : w.heap.size ≤ b) : vi.ownBlock ≠ some b ∧ va.ownBlock ≠ some b :=
  ⟨fun e => by have := (h.1.lt b e).2; omega, fun e => by have := (h.2.1.lt b e).2; omega⟩
/-- 'append(in, x)'. -/
theorem two_ent {ops : Array Oper} {rest : List Oper} {o : Oper} {a : Act} {Q : Exit → Act → World → Prop} (hgd : o.guard = none) (s x : Operand)
    (ho : o.op = .call { callee := .builtin .append, args := #[s, x], argTypes := #[22, 22] }) (hs : a.eval s = vi) (h : TwoR B rs D w vi va)
    (b : Nat) (e : Ent) (fv : Value) (hx : a.eval x = .slice (some ⟨b, 0, none⟩) 1 1) (hrow : RowAt w b 0 ⟨e, fv⟩) (hf : SlT (fun b => B ≤ b ∧ vi.ownBlock ≠ some b ∧ va.ownBlock ≠ some b) e.fs w fv) (hl : rs.length ≤ 1000000) (hB : B ≤ w.heap.size)
    (hh : ∀ v' w', Hid (TwoR B (rs ++ [⟨e, fv⟩]) D w' v' va) → Hid (w.grownBy w' vi.ownBlock) → wpList Try.prog ops Q rest (a.put o.dst v') w') : wpList Try.prog ops Q (o :: rest) a w := by
  obtain ⟨i0, hi0, hz0, hz1, hz2⟩ := insW_info
  obtain ⟨h1, h2, h3, h4⟩ := h
  have hone : fv.oneCell' = true := hf.one
  have hlen := Row.len ⟨e, fv⟩
  refine wpList_app_wide (P := Try.prog) hgd s x 22 ho B 30 i0 zW 5 64 Try.underlying22 hi0 hz0 hz1 hz2 rfl (by decide) vi rs.length (flat rs) hs h1 b 0 1 1 (fun j => (Row.cells ⟨e, fv⟩).getD j undef) hx (by decide) ?_ ?_ (by simp only [maxLen]; omega) (by omega) hB (Row.cells ⟨e, fv⟩) ?_ ?_
  · intro j hj
    have : j = 0 ∨ j = 1 ∨ j = 2 ∨ j = 3 ∨ j = 4 := by omega
    rcases this with rfl | rfl | rfl | rfl | rfl
    · exact hrow.c0
    · exact hrow.c1
    · exact hrow.c2
    · exact hrow.c3
    · exact hrow.c4
  · intro j hj
    refine Row.one (r := ⟨e, fv⟩) hone _ ?_
    have hj' : j < (Row.cells ⟨e, fv⟩).length := by omega
    show (Row.cells ⟨e, fv⟩).getD j undef ∈ _
    rw [List.getD_eq_getElem?_getD, List.getElem?_eq_getElem hj']
    exact List.getElem_mem hj'
  · rfl
  · intro v' w' q1 q2 q3
    refine hh v' w' ⟨?_, ?_, fun q hq hq2 => ?_, fun r hr => ?_⟩ q2
    · rw [List.length_append]
      have e' : flat (rs ++ [⟨e, fv⟩]) = flat rs ++ (Row.mk e fv).cells := by unfold flat; simp
      rw [e']; exact q1
    · exact ownsRow_same h2 fun q hq => q2.block q (h2.lt q hq).2 fun e => h3 q e.symm hq
    · rcases q3 with q3 | q3
      · rw [q3] at hq; exact h3 q hq hq2
      · rw [q3] at hq; cases hq; have := (h2.lt _ hq2).2; omega
    · have hall : SlT (fun b => B ≤ b ∧ vi.ownBlock ≠ some b ∧ va.ownBlock ≠ some b) r.e.fs w r.v := by
        rcases List.mem_append.1 hr with h | h
        · exact h4 r h
        · simp at h; subst h; exact hf
      refine hall.imp (fun q hq hk => ⟨hk.1, fun e => ?_, hk.2.2⟩) q2.size fun q hq hk => q2.block q hq fun e => hk.2.1 e.symm
      rcases q3 with q3 | q3
      · rw [q3] at e; exact hk.2.1 e
      · rw [q3] at e; cases e; omega
/-- 'append(all, f)'. -/
theorem two_str {ops : Array Oper} {rest : List Oper} {o : Oper} {a : Act} {Q : Exit → Act → World → Prop} (hgd : o.guard = none) (s x : Operand)
    (ho : o.op = .call { callee := .builtin .append, args := #[s, x], argTypes := #[28, 28] }) (hs : a.eval s = va) (h : TwoR B rs D w vi va)
    (b : Nat) (f : Str) (hx : a.eval x = .slice (some ⟨b, 0, none⟩) 1 1) (hc : w.cell? ⟨b, 0, none⟩ = some (sV f)) (hl : D.length ≤ 1000000) (hB : B ≤ w.heap.size)
    (hh : ∀ v' w', Hid (TwoR B rs (D ++ [f]) w' vi v') → Hid (w.grownBy w' va.ownBlock) → wpList Try.prog ops Q rest (a.put o.dst v') w') : wpList Try.prog ops Q (o :: rest) a w := by
  obtain ⟨i0, hi0, hz0, hz1, hz2⟩ : ∃ i0, Try.prog.info? 9 = some i0 ∧ i0.zero = some (Value.string ByteArray.empty) ∧ i0.size = 1 ∧ i0.bytes = 16 := ⟨strI, strI_at, by kernel_rfl, by kernel_rfl, by kernel_rfl⟩
  obtain ⟨h1, h2, h3, h4⟩ := h
  refine wpList_app_wide (P := Try.prog) hgd s x 28 ho B 9 i0 (Value.string ByteArray.empty) 1 16 Try.underlying28 hi0 hz0 hz1 hz2 rfl (by decide) va D.length (D.map sV) hs h2 b 0 1 1 (fun _ => sV f) hx (by decide) ?_ (fun _ _ => rfl) (by simp only [maxLen]; omega) (by omega) hB [sV f] rfl ?_
  · intro j hj
    obtain rfl : j = 0 := by omega
    exact hc
  · intro v' w' q1 q2 q3
    refine hh v' w' ⟨?_, ?_, fun q hq hq2 => ?_, fun r hr => ?_⟩ q2
    · exact ownsRow_same h1 fun q hq => q2.block q (h1.lt q hq).2 fun e => h3 q hq e.symm
    · rw [List.length_append, List.map_append]; exact q1
    · rcases q3 with q3 | q3
      · rw [q3] at hq2; exact h3 q hq hq2
      · rw [q3] at hq2; cases hq2; have := (h1.lt _ hq).2; omega
    · refine (h4 r hr).imp (fun q hq hk => ⟨hk.1, hk.2.1, fun e => ?_⟩) q2.size fun q hq hk => q2.block q hq fun e => hk.2.2 e.symm
      rcases q3 with q3 | q3
      · rw [q3] at e; exact hk.2.2 e
      · rw [q3] at e; cases e; omega
theorem TwoR.shape (h : TwoR B rs D w vi va) : ∃ a c a' c', vi = .slice a rs.length c ∧ va = .slice a' D.length c' := by
  obtain ⟨a, c, h1⟩ := own_shape h.1
  obtain ⟨a', c', h2⟩ := own_shape h.2.1
  exact ⟨a, c, a', c', h1, h2⟩
end
theorem two_start (W : World) : TwoR W.heap.size [] [] ((W.alloc (.cells #[] 30)).alloc (.cells #[] 9)) (.slice (some ⟨W.heap.size, 0, none⟩) 0 0) (.slice (some ⟨W.heap.size + 1, 0, none⟩) 0 0) := by
  have h1 := World.ownsRow_made W (e := 30) (size := 5) (base := W.heap.size) #[] 0 (Nat.le_refl _) (by simp [maxLen]) rfl
  have h2 := World.ownsRow_made (W.alloc (.cells #[] 30)) (e := 9) (size := 1) (base := W.heap.size) #[] 0 (by simp) (by simp [maxLen]) rfl
  have es : (W.alloc (.cells #[] 30)).heap.size = W.heap.size + 1 := by simp
  rw [es] at h2
  refine ⟨ownsRow_same h1 fun q hq => (bel_alloc (Below.refl _ (W.alloc (.cells #[] 30))) (.cells #[] 9)).block q (h1.lt q hq).2, h2, fun b hb hb2 => ?_, by simp⟩
  simp [Value.ownBlock] at hb hb2
  omega
theorem join_big {L : List Ent} (h : anyE L = true ∨ 16 < (ddup [] (allE L)).length) : joinE L = ⟨[], 0, [], true, 0⟩ := by
  unfold joinE cleanE
  dsimp only
  rw [if_pos (by rw [join_count]; exact h)]
theorem join_small {L : List Ent} (h1 : anyE L = false) (h2 : ¬ 16 < (ddup [] (allE L)).length) : joinE L = ⟨[], 0, setS (allE L), false, 0⟩ := by
  unfold joinE cleanE
  dsimp only
  rw [if_neg (by rw [join_count, h1]; rintro (h | h); cases h; exact h2 h)]
set_option maxRecDepth 100000 in
set_option maxHeartbeats 16000000 in
theorem tableAny_main (W : World) (v : Value) (l : List Ent) (hE : EntsIn (fun _ => True) l W v) :
    Calls Try.prog 4 #[v] W fun e W' => e = .returned (.bool true) ∧ Below W.heap.size W W' := by
  obtain ⟨a0, c0, rfl, _⟩ := hE.slice
  have HE := Lib.hid hE
  clear hE
  go_enter Try.func4, Try.ntmps4
  go_wp2_with fail
  go_loopw [3, 4, 5, 6] (fun vi an va ii wr => ∃ (i : Nat) (rs : List Row), i ≤ l.length ∧ i ≤ 12 ∧ ii = .int .i64 i ∧ an = .bool (anyE (cutN l i)) ∧ Hid (entsOf rs = cutN l i) ∧ Hid (TwoR W.heap.size rs (ddup [] (allE (cutN l i))) wr vi va) ∧ Hid (Below W.heap.size W wr)) (fun _ _ _ ii _ => l.length - (intOf ii).toNat)
  case atStart => exact ⟨0, [], Nat.zero_le _, Nat.zero_le _, rfl, rfl, rfl, two_start W, bel_alloc (bel_alloc (Below.refl _ _) _) _⟩
  case round =>
    obtain ⟨i, rs, hi, hi12, rfl, rfl, hrs, hT, hB⟩ := hrel
    by_cases hlt : i < l.length
    · by_cases hl12 : i < 12
      · obtain ⟨ai, ci, aa, ca, rfl, rfl⟩ := hT.out.shape
        obtain ⟨b, off, fa, fc, e0, _, hbz, d0, d1, d2, d3, d4, dS⟩ := (HE.out.below hB.out).at i hlt
        subst e0
        have hcs := cutN_succ l hlt
        have hrl : rs.length ≤ 12 := by have h1 := congrArg List.length hrs.out; rw [entsOf_len] at h1; have := cutN_len l i; omega
        have hdl : (ddup [] (allE (cutN l i))).length ≤ 240 := by
          have h1 := ddup_len (allE (cutN l i)) []
          have h2 := allE_few (L := cutN l i) fun e he => cutN_few he
          have h3 := cutN_len l i
          simp at h1; omega
        obtain ⟨E, hEe⟩ : ∃ z, z = entAt l i := ⟨_, rfl⟩
        rw [← hEe] at d0 d1 d2 d3 d4 dS hcs
        obtain ⟨eg', ec, efs, ea, et⟩ := E
        dsimp only at d0 d1 d2 d3 d4 dS
        have DS := Lib.hid dS.slAt
        have HCS := Lib.hid hcs
        have hbw := hB.out.size
        have HDE : Hid (ddup [] (allE (cutN l (i + 1))) = ddup (ddup [] (allE (cutN l i))) (cutE ⟨eg', ec, efs, ea, et⟩).fs) := show _ = _ by rw [hcs, allE_snoc, ddup_app]
        have HAN : Hid (anyE (cutN l (i + 1)) = (anyE (cutN l i) || (cutE ⟨eg', ec, efs, ea, et⟩).any)) := show _ = _ by rw [hcs, anyE_snoc]
        obtain ⟨D, hD⟩ : ∃ z, z = ddup [] (allE (cutN l i)) := ⟨_, rfl⟩
        rw [← hD] at HDE hdl hT ⊢
        obtain ⟨ab, hab⟩ : ∃ z, z = anyE (cutN l i) := ⟨_, rfl⟩
        rw [← hab] at HAN ⊢
        clear hEe dS hcs hD hab
        go_wp2_with fail
        refine (cut_any _ ⟨eg', ec, efs, ea, et⟩ (.slice fa efs.length fc) DS.out).mono ?_
        rintro e w5 ⟨v5, rfl, hs5, hb5⟩
        obtain ⟨f5, q5, rfl, _⟩ := hs5.slice
        obtain ⟨x5, hx5⟩ : ∃ z, z = cutE ⟨eg', ec, efs, ea, et⟩ := ⟨_, rfl⟩
        have hx20 : x5.fs.length ≤ 20 := by rw [hx5]; exact cutE_len _
        rw [← hx5] at hs5 HCS HAN HDE ⊢
        have T5 := Lib.hid (hT.out.below hb5)
        have B5 := Lib.hid (bel_below hB.out hb5)
        have F5 : Hid (SlT (fun b => W.heap.size ≤ b ∧ (Value.slice ai rs.length ci).ownBlock ≠ some b ∧ (Value.slice aa D.length ca).ownBlock ≠ some b) x5.fs w5 (.slice f5 x5.fs.length q5)) :=
          SlT.of_slAt hs5 fun b hb _ => ⟨by omega, hT.out.new hb⟩
        obtain ⟨g5, c5, fs5, any5, t5⟩ := x5
        unfold EntV
        dsimp only at F5 HAN HDE hx20 ⊢
        rw [show sV g5 = .string (bs g5) from rfl]
        obtain ⟨w6, hw6⟩ : ∃ z, z = w5.alloc (.cells #[.string (bs g5), .int .i64 c5, .slice f5 fs5.length q5, .bool any5, .int .i64 t5] 30) := ⟨_, rfl⟩
        obtain ⟨X, hX⟩ : ∃ z, z = w5.heap.size := ⟨_, rfl⟩
        have XS : Hid (Box5 w6 X (.string (bs g5)) (.int .i64 c5) (.slice f5 fs5.length q5) (.bool any5) (.int .i64 t5)) := by rw [hw6, hX]; exact box5_new w5 _ _ _ _ _ _
        have B56 : Below w5.heap.size w5 w6 := by rw [hw6]; exact bel_alloc (Below.refl _ _) _
        have T6 := Lib.hid (T5.out.below B56)
        have B6 := Lib.hid (bel_below B5.out B56)
        have F6 := Lib.hid (F5.out.below B56)
        have hXn : Hid ((Value.slice ai rs.length ci).ownBlock ≠ some X) := (T5.out.new (Nat.le_of_eq hX.symm)).1
        clear hs5 hb5 hx5 T5 B5 F5 B56 hT hB DS d0 d1 d2 d3 d4 hbz hbw
        go_upto_region 8 with (fail)
        rw [← hw6]
        try rw [← hX]
        clear hw6 hX
        obtain ⟨x0, x1, x2, x3, x4, -, -, -, -, -, xz⟩ := XS.out
        have hb6 := B6.out.size
        go_upto_region 9 with (at_builtin; refine two_ent rfl _ _ rfl rfl (T6.out.below (bel_alloc (Below.refl _ _) _)) w6.heap.size ⟨g5, c5, fs5, any5, t5⟩ (.slice f5 fs5.length q5) rfl ?rw ?rf (by omega) ?sz ?_)
        case rw => exact rowAt_box (box5_new w6 _ _ _ _ _ _)
        case rf => exact F6.out.below (bel_alloc (Below.refl _ _) _)
        case sz => simp; omega
        intro vn wa HT HG
        obtain ⟨ai2, ci2, aa2, ca2, rfl, e2⟩ := HT.out.shape
        have BA : Hid (Below W.heap.size W wa) := (bel_alloc B6.out _).grown HG.out (by simp; omega) (fun q hq => (T6.out.1.lt q hq).1)
        have XA := Lib.hid ((XS.out.below (bel_alloc (Below.refl _ w6) _)).same HG.out.size (HG.out.block X (by simp; omega) fun e => hXn.out e.symm))
        obtain ⟨rs2, hrs2⟩ : ∃ z, z = rs ++ [⟨⟨g5, c5, fs5, any5, t5⟩, .slice f5 fs5.length q5⟩] := ⟨_, rfl⟩
        have HIN : Hid ((⟨⟨g5, c5, fs5, any5, t5⟩, .slice f5 fs5.length q5⟩ : Row) ∈ rs2) := show _ ∈ _ by rw [hrs2]; simp
        have HEN : Hid (entsOf rs2 = cutN l (i + 1)) := show _ = _ by rw [hrs2, HCS.out, ← hrs.out]; simp [entsOf]
        rw [← hrs2] at HT
        have hrl2 : (rs ++ [(⟨⟨g5, c5, fs5, any5, t5⟩, .slice f5 fs5.length q5⟩ : Row)]).length = rs2.length := by rw [hrs2]
        clear HG XS B6 T6 F6 hXn x0 x1 x2 x3 x4 xz hb6 hrs2
        rw [hrl2]
        obtain ⟨x0, x1, x2, x3, x4, -, -, -, -, -, xz⟩ := XA.out
        cases ab with
        | true =>
          have HAN2 : Hid (anyE (cutN l (i + 1)) = true) := show _ = _ by rw [HAN.out]; rfl
          go_wp2_with fail
          go_loopw [5, 45] (fun va jj wj => ∃ (j : Nat), j ≤ fs5.length ∧ jj = .int .i64 j ∧ Hid (TwoR W.heap.size rs2 (ddup D (fs5.take j)) wj (.slice ai2 rs2.length ci2) va) ∧ Hid (Below W.heap.size W wj)) (fun _ jj _ => fs5.length - (intOf jj).toNat)
          case atStart => exact ⟨0, Nat.zero_le _, rfl, HT.out, BA.out⟩
          case round =>
            obtain ⟨j, hj, rfl, hTj, hBj⟩ := hrel
            obtain ⟨_, _, ab2, cb2, _, rfl⟩ := hTj.out.shape
            have hDl : (ddup D (fs5.take j)).length ≤ 300 := by
              have h1 := ddup_len (fs5.take j) D
              have h2 : (fs5.take j).length ≤ j := by simp; omega
              omega
            by_cases hltj : j < fs5.length
            · have hsn := ddup_snoc D fs5 hltj
              obtain ⟨DD, hDD⟩ : ∃ z, z = ddup D (fs5.take j) := ⟨_, rfl⟩
              rw [← hDD] at hsn hTj hDl ⊢
              have hS := hTj.out.2.2.2 _ HIN.out
              dsimp only at hS
              obtain ⟨b1, off1, ea1, _, hbz1, d1⟩ := SlAt.at hS.slAt j hltj _ (Below.refl _ _)
              obtain ⟨f, hf⟩ : ∃ z, z = nthT fs5 j := ⟨_, rfl⟩
              have d1' : wr.cell? ⟨b1, off1 + j, none⟩ = some (.string (bs f)) := by rw [hf]; exact d1
              rw [← hf] at hsn
              have HSN := Lib.hid hsn
              have SD : Hid (SlS W.heap.size DD wr (.slice ab2 DD.length cb2)) := (OwnS.of_row hTj.out.2.1).slAt
              have hbj := hBj.out.size
              subst ea1
              clear hS d1 hf hDD hsn
              go_wp2_with fail
              go_loopw [10, 51] (fun kn kk wk => ∃ k : Nat, k ≤ DD.length ∧ kk = .int .i64 k ∧ kn = .bool (decide (f ∈ DD.take k)) ∧ Hid (wk = wr)) (fun _ kk _ => DD.length - (intOf kk).toNat)
              case atStart => exact ⟨0, Nat.zero_le _, rfl, by simp, rfl⟩
              case round =>
                obtain ⟨k, hk, rfl, rfl, hwk⟩ := hrel
                have hwk' := hwk.out
                subst hwk'
                clear hwk
                by_cases hltk : k < DD.length
                · obtain ⟨b2, off2, ea2, _, hbz2, d2⟩ := SlAt.at SD.out k hltk _ (Below.refl _ _)
                  obtain ⟨g, hg⟩ : ∃ z, z = nthT DD k := ⟨_, rfl⟩
                  have hts := in_take_succ f DD hltk
                  have d2' := d2
                  try dsimp only at d2'
                  rw [← hg] at hts d2'
                  unfold sV at d2'
                  obtain ⟨kb, hkb⟩ : ∃ z, z = decide (f ∈ DD.take k) := ⟨_, rfl⟩
                  rw [← hkb] at hts ⊢
                  subst ea2
                  clear hkb hg d2
                  cases kb with
                  | true =>
                    have HT2 : Hid (decide (f ∈ DD.take (k + 1)) = true) := show _ = _ by rw [hts]; rfl
                    clear hts
                    go_wp2_with fail
                    go_roundw
                    case rel => go_light; exact ⟨k + 1, by omega, by go_num, by rw [HT2.out], True.intro⟩
                    case measure => go_light; simp [intOf]; omega
                  | false =>
                    by_cases hfg : f = g
                    · have hb : ((bs f).toList == (bs g).toList) = true := by rw [hfg]; simp
                      have HT2 : Hid (decide (f ∈ DD.take (k + 1)) = true) := show _ = _ by rw [hts, decide_eq_true hfg]; rfl
                      clear hts hfg
                      go_wp2_with fail
                      go_roundw
                      case rel => go_light; exact ⟨k + 1, by omega, by go_num, by rw [HT2.out], True.intro⟩
                      case measure => go_light; simp [intOf]; omega
                    · have hb : ((bs f).toList == (bs g).toList) = false := by rw [bs_toList, bs_toList]; simpa using hfg
                      have HT2 : Hid (decide (f ∈ DD.take (k + 1)) = false) := show _ = _ by rw [hts, decide_eq_false hfg]; rfl
                      clear hts hfg
                      go_wp2_with fail
                      go_roundw
                      case rel => go_light; exact ⟨k + 1, by omega, by go_num, by rw [HT2.out], True.intro⟩
                      case measure => go_light; simp [intOf]; omega
                · obtain rfl : k = DD.length := by omega
                  by_cases hm : f ∈ DD
                  · have e9 : decide (f ∈ DD.take DD.length) = true := by rw [List.take_length]; exact decide_eq_true hm
                    have HS2 : Hid (ddup D (fs5.take (j + 1)) = DD) := show _ = _ by rw [HSN.out]; exact if_pos hm
                    rw [e9]
                    clear e9 hm
                    go_wp2_with fail
                    go_roundw
                    case rel => go_light; exact ⟨j + 1, by omega, by go_num, (by show TwoR _ _ _ _ _ _; rw [HS2.out]; exact hTj.out), hBj.out⟩
                    case measure => go_light; simp [intOf]; omega
                  · have e9 : decide (f ∈ DD.take DD.length) = false := by rw [List.take_length]; exact decide_eq_false hm
                    have HS2 : Hid (ddup D (fs5.take (j + 1)) = DD ++ [f]) := show _ = _ by rw [HSN.out]; exact if_neg hm
                    rw [e9]
                    clear e9 hm
                    go_wp2_with (at_builtin; refine two_str rfl _ _ rfl rfl (hTj.out.below (bel_alloc (Below.refl _ _) _)) _ f rfl ?hc1 (by omega) ?sz1 ?_)
                    case hc1 => simp [go_sem, sV]
                    case sz1 => simp; omega
                    intro va3 wa3 HT3 HG3
                    obtain ⟨_, _, ab3, cb3, _, rfl⟩ := HT3.out.shape
                    have BA3 : Hid (Below W.heap.size W wa3) := (bel_alloc hBj.out _).grown HG3.out (by simp; omega) (fun q hq => (hTj.out.2.1.lt q hq).1)
                    clear HG3
                    go_wp2_with fail
                    go_roundw
                    case rel => go_light; exact ⟨j + 1, by omega, by go_num, (by show TwoR _ _ _ _ _ _; rw [HS2.out]; exact HT3.out), BA3.out⟩
                    case measure => go_light; simp [intOf]; omega
            · obtain rfl : j = fs5.length := by omega
              have HS2 : Hid (ddup [] (allE (cutN l (i + 1))) = ddup D (fs5.take fs5.length)) := show _ = _ by rw [List.take_length]; exact HDE.out
              go_wp2_with fail
              go_roundw
              case rel => go_light; exact ⟨i + 1, rs2, by omega, by omega, by go_num, by rw [HAN2.out], HEN.out, (by show TwoR _ _ _ _ _ _; rw [HS2.out]; exact hTj.out), hBj.out⟩
              case measure => go_light; simp [intOf]; omega
        | false =>
          have HAN2 : Hid (anyE (cutN l (i + 1)) = any5) := show _ = _ by rw [HAN.out]; rfl
          go_wp2_with fail
          go_loopw [5, 45] (fun va jj wj => ∃ (j : Nat), j ≤ fs5.length ∧ jj = .int .i64 j ∧ Hid (TwoR W.heap.size rs2 (ddup D (fs5.take j)) wj (.slice ai2 rs2.length ci2) va) ∧ Hid (Below W.heap.size W wj)) (fun _ jj _ => fs5.length - (intOf jj).toNat)
          case atStart => exact ⟨0, Nat.zero_le _, rfl, HT.out, BA.out⟩
          case round =>
            obtain ⟨j, hj, rfl, hTj, hBj⟩ := hrel
            obtain ⟨_, _, ab2, cb2, _, rfl⟩ := hTj.out.shape
            have hDl : (ddup D (fs5.take j)).length ≤ 300 := by
              have h1 := ddup_len (fs5.take j) D
              have h2 : (fs5.take j).length ≤ j := by simp; omega
              omega
            by_cases hltj : j < fs5.length
            · have hsn := ddup_snoc D fs5 hltj
              obtain ⟨DD, hDD⟩ : ∃ z, z = ddup D (fs5.take j) := ⟨_, rfl⟩
              rw [← hDD] at hsn hTj hDl ⊢
              have hS := hTj.out.2.2.2 _ HIN.out
              dsimp only at hS
              obtain ⟨b1, off1, ea1, _, hbz1, d1⟩ := SlAt.at hS.slAt j hltj _ (Below.refl _ _)
              obtain ⟨f, hf⟩ : ∃ z, z = nthT fs5 j := ⟨_, rfl⟩
              have d1' : wr.cell? ⟨b1, off1 + j, none⟩ = some (.string (bs f)) := by rw [hf]; exact d1
              rw [← hf] at hsn
              have HSN := Lib.hid hsn
              have SD : Hid (SlS W.heap.size DD wr (.slice ab2 DD.length cb2)) := (OwnS.of_row hTj.out.2.1).slAt
              have hbj := hBj.out.size
              subst ea1
              clear hS d1 hf hDD hsn
              go_wp2_with fail
              go_loopw [10, 51] (fun kn kk wk => ∃ k : Nat, k ≤ DD.length ∧ kk = .int .i64 k ∧ kn = .bool (decide (f ∈ DD.take k)) ∧ Hid (wk = wr)) (fun _ kk _ => DD.length - (intOf kk).toNat)
              case atStart => exact ⟨0, Nat.zero_le _, rfl, by simp, rfl⟩
              case round =>
                obtain ⟨k, hk, rfl, rfl, hwk⟩ := hrel
                have hwk' := hwk.out
                subst hwk'
                clear hwk
                by_cases hltk : k < DD.length
                · obtain ⟨b2, off2, ea2, _, hbz2, d2⟩ := SlAt.at SD.out k hltk _ (Below.refl _ _)
                  obtain ⟨g, hg⟩ : ∃ z, z = nthT DD k := ⟨_, rfl⟩
                  have hts := in_take_succ f DD hltk
                  have d2' := d2
                  try dsimp only at d2'
                  rw [← hg] at hts d2'
                  unfold sV at d2'
                  obtain ⟨kb, hkb⟩ : ∃ z, z = decide (f ∈ DD.take k) := ⟨_, rfl⟩
                  rw [← hkb] at hts ⊢
                  subst ea2
                  clear hkb hg d2
                  cases kb with
                  | true =>
                    have HT2 : Hid (decide (f ∈ DD.take (k + 1)) = true) := show _ = _ by rw [hts]; rfl
                    clear hts
                    go_wp2_with fail
                    go_roundw
                    case rel => go_light; exact ⟨k + 1, by omega, by go_num, by rw [HT2.out], True.intro⟩
                    case measure => go_light; simp [intOf]; omega
                  | false =>
                    by_cases hfg : f = g
                    · have hb : ((bs f).toList == (bs g).toList) = true := by rw [hfg]; simp
                      have HT2 : Hid (decide (f ∈ DD.take (k + 1)) = true) := show _ = _ by rw [hts, decide_eq_true hfg]; rfl
                      clear hts hfg
                      go_wp2_with fail
                      go_roundw
                      case rel => go_light; exact ⟨k + 1, by omega, by go_num, by rw [HT2.out], True.intro⟩
                      case measure => go_light; simp [intOf]; omega
                    · have hb : ((bs f).toList == (bs g).toList) = false := by rw [bs_toList, bs_toList]; simpa using hfg
                      have HT2 : Hid (decide (f ∈ DD.take (k + 1)) = false) := show _ = _ by rw [hts, decide_eq_false hfg]; rfl
                      clear hts hfg
                      go_wp2_with fail
                      go_roundw
                      case rel => go_light; exact ⟨k + 1, by omega, by go_num, by rw [HT2.out], True.intro⟩
                      case measure => go_light; simp [intOf]; omega
                · obtain rfl : k = DD.length := by omega
                  by_cases hm : f ∈ DD
                  · have e9 : decide (f ∈ DD.take DD.length) = true := by rw [List.take_length]; exact decide_eq_true hm
                    have HS2 : Hid (ddup D (fs5.take (j + 1)) = DD) := show _ = _ by rw [HSN.out]; exact if_pos hm
                    rw [e9]
                    clear e9 hm
                    go_wp2_with fail
                    go_roundw
                    case rel => go_light; exact ⟨j + 1, by omega, by go_num, (by show TwoR _ _ _ _ _ _; rw [HS2.out]; exact hTj.out), hBj.out⟩
                    case measure => go_light; simp [intOf]; omega
                  · have e9 : decide (f ∈ DD.take DD.length) = false := by rw [List.take_length]; exact decide_eq_false hm
                    have HS2 : Hid (ddup D (fs5.take (j + 1)) = DD ++ [f]) := show _ = _ by rw [HSN.out]; exact if_neg hm
                    rw [e9]
                    clear e9 hm
                    go_wp2_with (at_builtin; refine two_str rfl _ _ rfl rfl (hTj.out.below (bel_alloc (Below.refl _ _) _)) _ f rfl ?hc2 (by omega) ?sz2 ?_)
                    case hc2 => simp [go_sem, sV]
                    case sz2 => simp; omega
                    intro va3 wa3 HT3 HG3
                    obtain ⟨_, _, ab3, cb3, _, rfl⟩ := HT3.out.shape
                    have BA3 : Hid (Below W.heap.size W wa3) := (bel_alloc hBj.out _).grown HG3.out (by simp; omega) (fun q hq => (hTj.out.2.1.lt q hq).1)
                    clear HG3
                    go_wp2_with fail
                    go_roundw
                    case rel => go_light; exact ⟨j + 1, by omega, by go_num, (by show TwoR _ _ _ _ _ _; rw [HS2.out]; exact HT3.out), BA3.out⟩
                    case measure => go_light; simp [intOf]; omega
            · obtain rfl : j = fs5.length := by omega
              have HS2 : Hid (ddup [] (allE (cutN l (i + 1))) = ddup D (fs5.take fs5.length)) := show _ = _ by rw [List.take_length]; exact HDE.out
              go_wp2_with fail
              go_roundw
              case rel => go_light; exact ⟨i + 1, rs2, by omega, by omega, by go_num, by rw [HAN2.out], HEN.out, (by show TwoR _ _ _ _ _ _; rw [HS2.out]; exact hTj.out), hBj.out⟩
              case measure => go_light; simp [intOf]; omega
      · have hend := Lib.hid hlt
        obtain ⟨ai, ci, aa, ca, rfl, rfl⟩ := hT.out.shape
        have hall := allE_few (L := cutN l i) fun e he => cutN_few he
        have hlen := cutN_len l i
        have hdl := ddup_len (allE (cutN l i)) []
        have EL : EntsIn (fun b => W.heap.size ≤ b) (cutN l i) wr (.slice ai rs.length ci) := by have := hT.out.ents; rw [hrs.out] at this; exact this
        have CJ := join_any wr _ (cutN l i) EL (by omega) (by omega)
        have hjc := join_count (cutN l i)
        have hjb := join_big (L := cutN l i)
        have hjs := join_small (L := cutN l i)
        have hup := setS_up (allE (cutN l i))
        obtain ⟨L, hL⟩ : ∃ z, z = cutN l i := ⟨_, rfl⟩
        rw [← hL] at CJ hjc hjb hjs hup hdl hall hlen ⊢
        clear hL EL hT hrs
        obtain ⟨DL, hDL⟩ : ∃ z, z = ddup [] (allE L) := ⟨_, rfl⟩
        rw [← hDL] at hjc hjb hjs hdl ⊢
        clear hDL
        obtain ⟨an, han⟩ : ∃ z, z = anyE L := ⟨_, rfl⟩
        rw [← han] at hjb hjs ⊢
        clear han
        obtain ⟨G, hG⟩ : ∃ z, z = setS (allE L) := ⟨_, rfl⟩
        rw [← hG] at hjc hjs hup
        clear hG
        have hD300 : DL.length ≤ 300 := by simp at hdl; omega
        obtain ⟨J, hJ⟩ : ∃ z, z = joinE L := ⟨_, rfl⟩
        unfold JoinPost at CJ
        rw [← hJ] at CJ hjb hjs
        have CJ := Lib.hid CJ
        have HJB := Lib.hid hjb
        have HJS := Lib.hid hjs
        have HUP := Lib.hid hup
        clear hJ hjb hjs hup hdl hall hlen
        cases an with
        | true =>
          have e1 : J = ⟨[], 0, [], true, 0⟩ := HJB.out (by first | exact Or.inl rfl | exact Or.inr hbig)
          subst e1
          go_wp2_with fail
          refine CJ.out.mono ?_
          rintro e w8 ⟨v8, rfl, hS8, hb8⟩
          obtain ⟨a8, c8, rfl, _⟩ := hS8.slice
          rw [show (([] : List Str)).length = 0 from rfl]
          dsimp only
          have B8 := Lib.hid (bel_below hB.out hb8)
          clear hS8 hb8 CJ
          go_wp2_with fail
          refine (awake13_any _).mono ?_
          rintro e w9 ⟨rfl, hb9⟩
          have B9 := Lib.hid (bel_below B8.out hb9)
          clear hb9
          go_wp2_with fail
          go_ret
          exact ⟨rfl, B9.out⟩
        | false =>
          by_cases hbig : 16 < DL.length
          · have e1 : J = ⟨[], 0, [], true, 0⟩ := HJB.out (by first | exact Or.inl rfl | exact Or.inr hbig)
            subst e1
            go_wp2_with fail
            refine CJ.out.mono ?_
            rintro e w8 ⟨v8, rfl, hS8, hb8⟩
            obtain ⟨a8, c8, rfl, _⟩ := hS8.slice
            rw [show (([] : List Str)).length = 0 from rfl]
            dsimp only
            have B8 := Lib.hid (bel_below hB.out hb8)
            clear hS8 hb8 CJ
            go_wp2_with fail
            refine (awake13_any _).mono ?_
            rintro e w9 ⟨rfl, hb9⟩
            have B9 := Lib.hid (bel_below B8.out hb9)
            clear hb9
            go_wp2_with fail
            go_ret
            exact ⟨rfl, B9.out⟩
          · have e1 : J = ⟨[], 0, G, false, 0⟩ := HJS.out rfl hbig
            subst e1
            go_wp2_with fail
            refine CJ.out.mono ?_
            rintro e w8 ⟨v8, rfl, hS8, hb8⟩
            dsimp only at hS8 ⊢
            obtain ⟨a8, c8, rfl, _⟩ := hS8.slice
            have B8 := Lib.hid (bel_below hB.out hb8)
            have S8 := Lib.hid hS8
            clear hS8 hb8 CJ
            go_wp2_with fail
            go_loopw [91] (fun ii wi => ∃ i : Nat, i ≤ G.length ∧ ii = .int .i64 i ∧ Hid (∃ y : Later w8, wi = y.world)) (fun ii _ => G.length - (intOf ii).toNat)
            case atStart => exact ⟨0, Nat.zero_le _, rfl, ⟨_, Below.refl _ _⟩, rfl⟩
            case round =>
              obtain ⟨m, hm, rfl, hy⟩ := hrel
              obtain ⟨y, rfl⟩ := hy
              by_cases hltm : m < G.length
              · obtain ⟨b1, off1, ea1, _, hbz1, d1⟩ := SlAt.at S8.out m hltm _ y.below
                cases ea1
                rcases m with _ | m
                · go_wp2_with fail
                  refine wp_region_calm (by kernel_rfl) (by kernel_rfl) ?_
                  repeat (first | (go_big_quiet_step ((fail))) | (refine wpQuiet_step (fun K hK => ?_); go_simp; first | (refine hK _ ?_; clear hK K) | (apply Exists.intro; refine ⟨fun _ => ?_, hK _ ?_⟩; (fail); clear hK K)))
                  refine wpQuiet_nil ?_
                  intro _ hw'
                  obtain ⟨xq, hw''⟩ := hw'
                  subst hw''
                  have BF := Lib.hid (bel_below y.below xq.below)
                  go_wp2_with fail
                  go_roundw
                  case rel => go_light; exact ⟨0 + 1, by omega, by go_num, ⟨_, BF.out⟩, rfl⟩
                  case measure => go_light; simp [intOf]; omega
                · obtain ⟨b2, off2, ea2, _, hbz2, d2⟩ := SlAt.at S8.out m (by omega) _ y.below
                  cases ea2
                  have hlt2 : nthT G m < nthT G (m + 1) := by
                    rw [nthT_eq (show m < G.length by omega), nthT_eq hltm]
                    exact List.pairwise_iff_getElem.1 HUP.out m (m + 1) (by omega) hltm (by omega)
                  obtain ⟨f, hf⟩ : ∃ z, z = nthT G m := ⟨_, rfl⟩
                  obtain ⟨g, hg⟩ : ∃ z, z = nthT G (m + 1) := ⟨_, rfl⟩
                  have d1' : y.world.cell? ⟨b1, off1 + (m + 1), none⟩ = some (.string (bs g)) := by rw [hg]; exact d1
                  have d2' : y.world.cell? ⟨b1, off1 + m, none⟩ = some (.string (bs f)) := by rw [hf]; exact d2
                  rw [← hf, ← hg] at hlt2
                  clear d1 d2 hf hg
                  have hlt3 : Op.bytesLess (bs f).toList (bs g).toList = true := by rw [bs_toList, bs_toList, bytesLess_iff]; exact decide_eq_true hlt2
                  go_wp2_with fail
                  refine wp_region_calm (by kernel_rfl) (by kernel_rfl) ?_
                  repeat (first | (go_big_quiet_step ((fail))) | (refine wpQuiet_step (fun K hK => ?_); go_simp; first | (refine hK _ ?_; clear hK K) | (apply Exists.intro; refine ⟨fun _ => ?_, hK _ ?_⟩; (fail); clear hK K)))
                  refine wpQuiet_nil ?_
                  intro _ hw'
                  obtain ⟨xq, hw''⟩ := hw'
                  subst hw''
                  have BF := Lib.hid (bel_below y.below xq.below)
                  clear d1' d2'
                  go_wp2_with fail
                  go_roundw
                  case rel => go_light; exact ⟨m + 1 + 1, by omega, by go_num, ⟨_, BF.out⟩, rfl⟩
                  case measure => go_light; simp [intOf]; omega
              · obtain rfl : m = G.length := by omega
                have hgd : ((G.length : Int) == (DL.length : Int)) = true := by rw [beq_iff_eq]; omega
                go_wp2_with fail
                refine (awake13_any _).mono ?_
                rintro e w9 ⟨rfl, hb9⟩
                have B9 := Lib.hid (bel_below (bel_below B8.out y.below) hb9)
                clear hb9
                go_wp2_with fail
                go_ret
                exact ⟨rfl, B9.out⟩
    · have hend := Lib.hid hlt
      obtain ⟨ai, ci, aa, ca, rfl, rfl⟩ := hT.out.shape
      have hall := allE_few (L := cutN l i) fun e he => cutN_few he
      have hlen := cutN_len l i
      have hdl := ddup_len (allE (cutN l i)) []
      have EL : EntsIn (fun b => W.heap.size ≤ b) (cutN l i) wr (.slice ai rs.length ci) := by have := hT.out.ents; rw [hrs.out] at this; exact this
      have CJ := join_any wr _ (cutN l i) EL (by omega) (by omega)
      have hjc := join_count (cutN l i)
      have hjb := join_big (L := cutN l i)
      have hjs := join_small (L := cutN l i)
      have hup := setS_up (allE (cutN l i))
      obtain ⟨L, hL⟩ : ∃ z, z = cutN l i := ⟨_, rfl⟩
      rw [← hL] at CJ hjc hjb hjs hup hdl hall hlen ⊢
      clear hL EL hT hrs
      obtain ⟨DL, hDL⟩ : ∃ z, z = ddup [] (allE L) := ⟨_, rfl⟩
      rw [← hDL] at hjc hjb hjs hdl ⊢
      clear hDL
      obtain ⟨an, han⟩ : ∃ z, z = anyE L := ⟨_, rfl⟩
      rw [← han] at hjb hjs ⊢
      clear han
      obtain ⟨G, hG⟩ : ∃ z, z = setS (allE L) := ⟨_, rfl⟩
      rw [← hG] at hjc hjs hup
      clear hG
      have hD300 : DL.length ≤ 300 := by simp at hdl; omega
      obtain ⟨J, hJ⟩ : ∃ z, z = joinE L := ⟨_, rfl⟩
      unfold JoinPost at CJ
      rw [← hJ] at CJ hjb hjs
      have CJ := Lib.hid CJ
      have HJB := Lib.hid hjb
      have HJS := Lib.hid hjs
      have HUP := Lib.hid hup
      clear hJ hjb hjs hup hdl hall hlen
      cases an with
      | true =>
        have e1 : J = ⟨[], 0, [], true, 0⟩ := HJB.out (by first | exact Or.inl rfl | exact Or.inr hbig)
        subst e1
        go_wp2_with fail
        refine CJ.out.mono ?_
        rintro e w8 ⟨v8, rfl, hS8, hb8⟩
        obtain ⟨a8, c8, rfl, _⟩ := hS8.slice
        rw [show (([] : List Str)).length = 0 from rfl]
        dsimp only
        have B8 := Lib.hid (bel_below hB.out hb8)
        clear hS8 hb8 CJ
        go_wp2_with fail
        refine (awake13_any _).mono ?_
        rintro e w9 ⟨rfl, hb9⟩
        have B9 := Lib.hid (bel_below B8.out hb9)
        clear hb9
        go_wp2_with fail
        go_ret
        exact ⟨rfl, B9.out⟩
      | false =>
        by_cases hbig : 16 < DL.length
        · have e1 : J = ⟨[], 0, [], true, 0⟩ := HJB.out (by first | exact Or.inl rfl | exact Or.inr hbig)
          subst e1
          go_wp2_with fail
          refine CJ.out.mono ?_
          rintro e w8 ⟨v8, rfl, hS8, hb8⟩
          obtain ⟨a8, c8, rfl, _⟩ := hS8.slice
          rw [show (([] : List Str)).length = 0 from rfl]
          dsimp only
          have B8 := Lib.hid (bel_below hB.out hb8)
          clear hS8 hb8 CJ
          go_wp2_with fail
          refine (awake13_any _).mono ?_
          rintro e w9 ⟨rfl, hb9⟩
          have B9 := Lib.hid (bel_below B8.out hb9)
          clear hb9
          go_wp2_with fail
          go_ret
          exact ⟨rfl, B9.out⟩
        · have e1 : J = ⟨[], 0, G, false, 0⟩ := HJS.out rfl hbig
          subst e1
          go_wp2_with fail
          refine CJ.out.mono ?_
          rintro e w8 ⟨v8, rfl, hS8, hb8⟩
          dsimp only at hS8 ⊢
          obtain ⟨a8, c8, rfl, _⟩ := hS8.slice
          have B8 := Lib.hid (bel_below hB.out hb8)
          have S8 := Lib.hid hS8
          clear hS8 hb8 CJ
          go_wp2_with fail
          go_loopw [91] (fun ii wi => ∃ i : Nat, i ≤ G.length ∧ ii = .int .i64 i ∧ Hid (∃ y : Later w8, wi = y.world)) (fun ii _ => G.length - (intOf ii).toNat)
          case atStart => exact ⟨0, Nat.zero_le _, rfl, ⟨_, Below.refl _ _⟩, rfl⟩
          case round =>
            obtain ⟨m, hm, rfl, hy⟩ := hrel
            obtain ⟨y, rfl⟩ := hy
            by_cases hltm : m < G.length
            · obtain ⟨b1, off1, ea1, _, hbz1, d1⟩ := SlAt.at S8.out m hltm _ y.below
              cases ea1
              rcases m with _ | m
              · go_wp2_with fail
                refine wp_region_calm (by kernel_rfl) (by kernel_rfl) ?_
                repeat (first | (go_big_quiet_step ((fail))) | (refine wpQuiet_step (fun K hK => ?_); go_simp; first | (refine hK _ ?_; clear hK K) | (apply Exists.intro; refine ⟨fun _ => ?_, hK _ ?_⟩; (fail); clear hK K)))
                refine wpQuiet_nil ?_
                intro _ hw'
                obtain ⟨xq, hw''⟩ := hw'
                subst hw''
                have BF := Lib.hid (bel_below y.below xq.below)
                go_wp2_with fail
                go_roundw
                case rel => go_light; exact ⟨0 + 1, by omega, by go_num, ⟨_, BF.out⟩, rfl⟩
                case measure => go_light; simp [intOf]; omega
              · obtain ⟨b2, off2, ea2, _, hbz2, d2⟩ := SlAt.at S8.out m (by omega) _ y.below
                cases ea2
                have hlt2 : nthT G m < nthT G (m + 1) := by
                  rw [nthT_eq (show m < G.length by omega), nthT_eq hltm]
                  exact List.pairwise_iff_getElem.1 HUP.out m (m + 1) (by omega) hltm (by omega)
                obtain ⟨f, hf⟩ : ∃ z, z = nthT G m := ⟨_, rfl⟩
                obtain ⟨g, hg⟩ : ∃ z, z = nthT G (m + 1) := ⟨_, rfl⟩
                have d1' : y.world.cell? ⟨b1, off1 + (m + 1), none⟩ = some (.string (bs g)) := by rw [hg]; exact d1
                have d2' : y.world.cell? ⟨b1, off1 + m, none⟩ = some (.string (bs f)) := by rw [hf]; exact d2
                rw [← hf, ← hg] at hlt2
                clear d1 d2 hf hg
                have hlt3 : Op.bytesLess (bs f).toList (bs g).toList = true := by rw [bs_toList, bs_toList, bytesLess_iff]; exact decide_eq_true hlt2
                go_wp2_with fail
                refine wp_region_calm (by kernel_rfl) (by kernel_rfl) ?_
                repeat (first | (go_big_quiet_step ((fail))) | (refine wpQuiet_step (fun K hK => ?_); go_simp; first | (refine hK _ ?_; clear hK K) | (apply Exists.intro; refine ⟨fun _ => ?_, hK _ ?_⟩; (fail); clear hK K)))
                refine wpQuiet_nil ?_
                intro _ hw'
                obtain ⟨xq, hw''⟩ := hw'
                subst hw''
                have BF := Lib.hid (bel_below y.below xq.below)
                clear d1' d2'
                go_wp2_with fail
                go_roundw
                case rel => go_light; exact ⟨m + 1 + 1, by omega, by go_num, ⟨_, BF.out⟩, rfl⟩
                case measure => go_light; simp [intOf]; omega
            · obtain rfl : m = G.length := by omega
              have hgd : ((G.length : Int) == (DL.length : Int)) = true := by rw [beq_iff_eq]; omega
              go_wp2_with fail
              refine (awake13_any _).mono ?_
              rintro e w9 ⟨rfl, hb9⟩
              have B9 := Lib.hid (bel_below (bel_below B8.out y.below) hb9)
              clear hb9
              go_wp2_with fail
              go_ret
              exact ⟨rfl, B9.out⟩
set_option maxRecDepth 100000 in
theorem tableAny_walk {H : Type} (enc : TypeId × Value → H) (W : World) (v0 : Value) (d0 : DataW H) (p0 : List MemPlace) {r0 : Reach} {b0 : Nat} (ok0 : Value.okWide Try.prog W r0 b0 22 v0) (h0 : DataW.Trod enc Try.prog W 0 (fun _ => true) true 22 v0 d0 p0)
    (hlt0 : ∀ x ∈ p0, x.block < W.heap.size) (sz0 : ∀ n ∈ d0.weights Try.prog 22, n ≤ reachBytes) :
    Calls Try.prog 4 #[v0] W fun e W' => e = .returned (.bool true) ∧ Below W.heap.size W W' := by
  obtain ⟨l, hE, _⟩ := ents_open ok0 h0
  exact tableAny_main W v0 l hE
end Go.Proofs.Ytacdgfkahppmdaa
