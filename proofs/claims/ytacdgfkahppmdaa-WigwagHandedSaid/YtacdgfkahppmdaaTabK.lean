


/-
  TableKeys walked.
-/
import Derived.Test.YtacdgfkahppmdaaTabI
import Derived.Test.YtacdgfkahppmdaaTabF
import Derived.Test.YtacdgfkahppmdaaTabP
namespace Go.Proofs.Ytacdgfkahppmdaa
open Go.RowKit Go.Maps Go.Sort Go.WideShapes Go.ChangeShapes Go.Deep
set_option linter.unusedVariables false
set_option linter.unusedSimpArgs false
attribute [local go_sem] later_cell later_frozen later_lt cell_set_off cell_set_block keptT_cell keptT_lt

def cutL (l : List Ent) : List Ent := (l.take 30).map cutE
theorem cutE_len (x : Ent) : (cutE x).fs.length ≤ 20 := by unfold cutE; simp; omega
theorem puts_step (l : List Ent) {k : Nat} (hk : k < l.length) : putsE [] ((l.take (k + 1)).map cutE) = putE (putsE [] ((l.take k).map cutE)) (cleanE (cutE (entAt l k))) := by
  rw [List.take_succ_eq_append_getElem hk, List.map_append, entAt_eq hk]
  exact putsE_snoc _ _ _
theorem puts_room (l : List Ent) {k : Nat} (hk : k < 400) (x : Ent) : fullB (putsE [] ((l.take k).map cutE)) (cutE x) = false := by
  have h1 := len_putsE [] ((l.take k).map cutE)
  have h2 : ((l.take k).map cutE).length ≤ k := by simp; omega
  simp only [List.length_nil] at h1
  unfold fullB
  rw [show decide (400 ≤ (putsE [] ((l.take k).map cutE)).length) = false from decide_eq_false (by omega)]; simp
/-- What a table of cut entries holds. -/
theorem cut_mem {l : List Ent} {e : Ent} (h : e ∈ putsE [] (cutL l)) : e.g.length ≤ 30 := by
  obtain ⟨j, hj, rfl, _⟩ := puts_last _ _ h
  rw [clean_g, entAt_eq hj]
  obtain ⟨y, _, hy⟩ := List.mem_map.1 (show _ ∈ (l.take 30).map cutE from List.getElem_mem hj)
  rw [← hy]
  exact cutT_len _
theorem tabW_len {W w : World} {tb : Nat} {l : List Ent} (h : TabW W w tb l) : Calls Try.prog 14 #[.pointer (some ⟨tb, 0, none⟩)] w fun e w' => e = .returned (.int .i64 l.length) ∧ w = w' := by
  obtain ⟨R, _, h2, _⟩ := h; exact len_at h2
theorem tabW_groups {W w : World} {tb : Nat} {l : List Ent} (h : TabW W w tb l) : Calls Try.prog 16 #[.pointer (some ⟨tb, 0, none⟩)] w (NewTexts w (groupsE l)) := by
  obtain ⟨R, _, h2, _⟩ := h; exact groups_at h2
theorem tabW_kids {W w : World} {tb : Nat} {l : List Ent} (h : TabW W w tb l) (g : Str) : Calls Try.prog 11 #[.pointer (some ⟨tb, 0, none⟩), .string (bs g)] w (NewEnts w (kidsE l g)) := by
  obtain ⟨R, _, h2, _⟩ := h; exact kids_at h2 g
theorem cut_clean {l : List Ent} {e : Ent} (h : e ∈ putsE [] (cutL l)) : cleanE e = e := by
  obtain ⟨j, hj, rfl, _⟩ := puts_last _ _ h
  exact clean_clean _
theorem cut_ord (l : List Ent) : OrdE (putsE [] (cutL l)) := ord_putsE List.Pairwise.nil _
theorem cut_few (l : List Ent) : (putsE [] (cutL l)).length ≤ 30 := by
  have h1 := len_putsE [] (cutL l)
  have h2 : (cutL l).length ≤ 30 := by unfold cutL; simp; omega
  simp only [List.length_nil] at h1; omega
theorem TabW.move {W w : World} {tb : Nat} {l : List Ent} (h : TabW W w tb l) (hs : ∀ e ∈ l, e.g.length ≤ 1000000) (x y : Int) :
    Calls Try.prog 15 #[.pointer (some ⟨tb, 0, none⟩), .int .u64 x, .int .u64 y] w fun e w' => ∃ v, e = .returned v ∧ EntsIn (fun b => w.heap.size ≤ b) ((l.filter (inE x y)).map cleanE) w' v ∧ TabW W w' tb (stayE (inE x y) l) := by
  obtain ⟨R, h1, h2, h3⟩ := h
  refine (move_at h2 hs x y).mono ?_
  rintro e w' ⟨v, rfl, q1, q2, q3⟩
  exact ⟨v, rfl, q1, R, h1, q2, h3.trans (q3.toBelow h3.size fun b hb hR => by have := h1 b hR; omega)⟩
theorem inB_same (x a : Int) : inB x a a = true := by unfold inB; simp
theorem inB_turn {x a b : Int} (hx : isPlace x) (ha : isPlace a) (hb : isPlace b) (hab : a ≠ b) (h : inB x a b = false) : inB x b a = true := by
  unfold inB dist isPlace at *
  simp only [Bool.or_eq_false_iff, Bool.and_eq_false_iff, beq_eq_false_iff_ne, bne_eq_false_iff_eq, decide_eq_false_iff_not, Bool.or_eq_true, Bool.and_eq_true, bne_iff_ne, decide_eq_true_eq, beq_iff_eq] at *
  omega
theorem stay_all {p : Ent → Bool} {l : List Ent} (h : ∀ e ∈ l, p e = true) : stayE p l = [] := by
  unfold stayE
  rw [List.filter_eq_nil_iff]
  intro e he
  simp [h e he]
theorem keys_two {a b : Int} (ha : isPlace a) (hb : isPlace b) (hab : a ≠ b) (l : List Ent) : ∀ e ∈ stayE (inE a b) l, inE b a e = true := fun e he => by
  have h := (List.mem_filter.1 he).2
  have h2 : inE a b e = false := by simpa using h
  exact inB_turn (keyH_place _) ha hb hab h2
theorem part_len (p : Ent → Bool) (l : List Ent) : (l.filter p).length + (stayE p l).length = l.length := by
  have h := List.length_eq_countP_add_countP (p := p) (l := l)
  unfold stayE
  rw [← List.countP_eq_length_filter, ← List.countP_eq_length_filter]
  have e : (l.countP fun e => !p e) = l.countP fun a => decide ¬ p a = true := by
    congr 1; funext e; cases p e <;> rfl
  rw [e]; omega
set_option maxRecDepth 100000 in
set_option maxHeartbeats 16000000 in
theorem tableKeys_main (W : World) (v : Value) (l : List Ent) (hE : EntsIn (fun _ => True) l W v) (a b : Int) (ha : isPlace a) (hb : isPlace b) :
    Calls Try.prog 6 #[v, .int .u64 a, .int .u64 b] W fun e W' => e = .returned (.bool true) ∧ Below W.heap.size W W' := by
  obtain ⟨a0, c0, rfl, _⟩ := hE.slice
  have HE := Lib.hid hE
  clear hE
  go_enter Try.func6, Try.ntmps6
  go_wp2_with fail
  obtain ⟨w1, hw1⟩ : ∃ z, z = W.alloc (.cells #[.slice none 0 0] 24) := ⟨_, rfl⟩
  obtain ⟨X, hX⟩ : ∃ z, z = W.heap.size := ⟨_, rfl⟩
  have T1 : Hid (TabW W w1 X (putsE [] ((l.take 0).map cutE))) := show TabW _ _ _ _ by rw [hw1, hX]; exact tabW_new W
  rw [← hw1]
  try rw [← hX]
  clear hw1 hX
  go_loopw [8] (fun i wr => ∃ k : Nat, k ≤ l.length ∧ k ≤ 30 ∧ i = .int .i64 k ∧ Hid (TabW W wr X (putsE [] ((l.take k).map cutE)))) (fun i _ => l.length - (intOf i).toNat)
  case atStart => exact ⟨0, Nat.zero_le _, Nat.zero_le _, rfl, T1.out⟩
  case round =>
    obtain ⟨k, hk, hk30, rfl, hT⟩ := hrel
    by_cases hlt : k < l.length
    · by_cases hl30 : k < 30
      · obtain ⟨b, off, fa, fc, rfl, _, hbz, d0, d1, d2, d3, d4, dS⟩ := (HE.out.below hT.out.bel).at k hlt
        have hsu := puts_step l hlt
        have hroom := puts_room l (k := k) (by omega) (entAt l k)
        obtain ⟨E, hEe⟩ : ∃ z, z = entAt l k := ⟨_, rfl⟩
        rw [← hEe] at d0 d1 d2 d3 d4 dS hsu hroom
        obtain ⟨eg', ec, efs, ea, et⟩ := E
        dsimp only at d0 d1 d2 d3 d4 dS
        have DS := Lib.hid dS.slAt
        have HSU := Lib.hid hsu
        have HRM := Lib.hid hroom
        clear hEe dS hsu hroom
        go_wp2_with fail
        refine (cut_any _ ⟨eg', ec, efs, ea, et⟩ (.slice fa efs.length fc) DS.out).mono ?_
        rintro e w5 ⟨v5, rfl, hs5, hb5⟩
        have T5 := Lib.hid (hT.out.later hb5)
        have S5 := Lib.hid hs5
        obtain ⟨f5, q5, rfl, _⟩ := hs5.slice
        obtain ⟨x5, hx5⟩ : ∃ z, z = cutE ⟨eg', ec, efs, ea, et⟩ := ⟨_, rfl⟩
        have hx16 : x5.fs.length ≤ 20 := by rw [hx5]; exact cutE_len _
        rw [← hx5] at S5 HRM HSU ⊢
        obtain ⟨g5, c5, fs5, any5, t5⟩ := x5
        dsimp only at S5 hx16
        have CP := Lib.hid (tabW_put T5.out ⟨g5, c5, fs5, any5, t5⟩ _ (S5.out.base (Nat.zero_le _)) (show fs5.length ≤ _ by omega) HRM.out)
        rw [← HSU.out] at CP
        unfold EntV at CP ⊢
        dsimp only at CP ⊢
        rw [show sV g5 = .string (bs g5) from rfl] at CP ⊢
        clear hs5 hb5 hx5 d0 d1 d2 d3 d4
        go_wp2_with fail
        refine CP.out.mono ?_
        rintro e w6 ⟨rfl, hT6⟩
        have T6 := Lib.hid hT6
        clear hT6 CP T5
        go_wp2_with fail
        go_roundw
        case rel => go_light; exact ⟨k + 1, by omega, by omega, by go_num, T6.out⟩
        case measure => go_light; simp [intOf]; omega
      · have hend : Hid (putsE [] ((l.take k).map cutE) = putsE [] (cutL l)) := show _ = _ by unfold cutL; rw [show k = 30 by omega]
        have T2 := Lib.hid hT.out
        rw [hend.out] at T2
        clear hT hend
        have hfew := cut_few l
        have hsm : ∀ e ∈ putsE [] (cutL l), e.g.length ≤ 1000000 := fun e he => by have := cut_mem he; omega
        obtain ⟨L, hL⟩ : ∃ z, z = putsE [] (cutL l) := ⟨_, rfl⟩
        rw [← hL] at T2 hfew hsm
        have HSM := Lib.hid hsm
        clear hL hsm
        have CL := Lib.hid (tabW_len T2.out)
        go_wp2_with fail
        refine CL.out.mono ?_
        rintro e w3 ⟨rfl, rfl⟩
        clear CL
        by_cases hab : a = b
        · have habb : (a == b) = true := by simpa using hab
          subst hab
          have hall : ∀ e ∈ L, inE a a e = true := fun e _ => inB_same _ _
          have hst : Hid (stayE (inE a a) L = []) := stay_all hall
          have hfl : Hid (((L.filter (inE a a)).map cleanE).length = L.length) := show _ = _ by rw [List.length_map, filter_all hall]
          clear hall
          go_wp2_with fail
          refine (awake13_any _).mono ?_
          rintro e w4 ⟨rfl, hb4⟩
          have T4 := Lib.hid (T2.out.later hb4)
          clear hb4 T2
          go_wp2_with fail
          refine (T4.out.move HSM.out a a).mono ?_
          rintro e w5 ⟨v5, rfl, hE5, hT5⟩
          rw [hst.out] at hT5
          obtain ⟨a5, c5, rfl, _⟩ := hE5.slice
          rw [hfl.out]
          have T5 := Lib.hid hT5
          have CL := Lib.hid (tabW_len hT5)
          clear hE5 hT5 T4
          go_wp2_with fail
          refine CL.out.mono ?_
          rintro e w6 ⟨rfl, rfl⟩
          go_wp2_with fail
          go_ret
          exact ⟨rfl, T5.out.bel⟩
        · have habb : (a == b) = false := by simpa using hab
          have hp2 := keys_two ha hb hab L
          have hst : Hid (stayE (inE b a) (stayE (inE a b) L) = []) := stay_all hp2
          have hf2 : Hid ((((stayE (inE a b) L).filter (inE b a)).map cleanE).length = (stayE (inE a b) L).length) := show _ = _ by rw [List.length_map, filter_all hp2]
          have hf1 : Hid (((L.filter (inE a b)).map cleanE).length = (L.filter (inE a b)).length) := show _ = _ by rw [List.length_map]
          have hpl := part_len (inE a b) L
          have HSM2 : Hid (∀ e ∈ stayE (inE a b) L, e.g.length ≤ 1000000) := fun e he => HSM.out e (List.mem_filter.1 he).1
          clear hp2 hab
          go_wp2_with fail
          refine (T2.out.move HSM.out a b).mono ?_
          rintro e w5 ⟨v5, rfl, hE5, hT5⟩
          obtain ⟨a5, c5, rfl, _⟩ := hE5.slice
          rw [hf1.out]
          have T5 := Lib.hid hT5
          clear hE5 hT5 T2
          go_wp2_with fail
          refine (T5.out.move HSM2.out b a).mono ?_
          rintro e w6 ⟨v6, rfl, hE6, hT6⟩
          rw [hst.out] at hT6
          obtain ⟨a6, c6, rfl, _⟩ := hE6.slice
          rw [hf2.out]
          have T6 := Lib.hid hT6
          clear hE6 hT6 T5
          go_wp2_with fail
          refine (awake13_any _).mono ?_
          rintro e w7 ⟨rfl, hb7⟩
          have T7 := Lib.hid (T6.out.later hb7)
          have CL := Lib.hid (tabW_len T7.out)
          have CG := Lib.hid (tabW_groups T7.out)
          obtain ⟨n1, hn1⟩ : ∃ z, z = (L.filter (inE a b)).length := ⟨_, rfl⟩
          obtain ⟨n2, hn2⟩ : ∃ z, z = (stayE (inE a b) L).length := ⟨_, rfl⟩
          rw [← hn1, ← hn2] at hpl ⊢
          have hsum : (((n1 : Int) + (n2 : Int)) == (L.length : Int)) = true := by rw [beq_iff_eq]; omega
          clear hb7 T6 hn1 hn2
          go_wp2_with fail
          refine CL.out.mono ?_
          rintro e w8 ⟨rfl, rfl⟩
          go_wp2_with fail
          refine CG.out.mono ?_
          rintro e w9 ⟨v9, rfl, hS9, hb9⟩
          obtain ⟨a9, c9, rfl, _⟩ := hS9.slice
          rw [show (groupsE ([] : List Ent)).length = 0 from rfl]
          have B9 := Lib.hid (bel_below T7.out.bel hb9)
          clear hS9 hb9
          go_wp2_with fail
          go_ret
          exact ⟨rfl, B9.out⟩
    · have hend : Hid (putsE [] ((l.take k).map cutE) = putsE [] (cutL l)) := show _ = _ by unfold cutL; rw [List.take_of_length_le (by omega : l.length ≤ k), List.take_of_length_le (by omega : l.length ≤ 30)]
      have T2 := Lib.hid hT.out
      rw [hend.out] at T2
      clear hT hend
      have hfew := cut_few l
      have hsm : ∀ e ∈ putsE [] (cutL l), e.g.length ≤ 1000000 := fun e he => by have := cut_mem he; omega
      obtain ⟨L, hL⟩ : ∃ z, z = putsE [] (cutL l) := ⟨_, rfl⟩
      rw [← hL] at T2 hfew hsm
      have HSM := Lib.hid hsm
      clear hL hsm
      have CL := Lib.hid (tabW_len T2.out)
      go_wp2_with fail
      refine CL.out.mono ?_
      rintro e w3 ⟨rfl, rfl⟩
      clear CL
      by_cases hab : a = b
      · have habb : (a == b) = true := by simpa using hab
        subst hab
        have hall : ∀ e ∈ L, inE a a e = true := fun e _ => inB_same _ _
        have hst : Hid (stayE (inE a a) L = []) := stay_all hall
        have hfl : Hid (((L.filter (inE a a)).map cleanE).length = L.length) := show _ = _ by rw [List.length_map, filter_all hall]
        clear hall
        go_wp2_with fail
        refine (awake13_any _).mono ?_
        rintro e w4 ⟨rfl, hb4⟩
        have T4 := Lib.hid (T2.out.later hb4)
        clear hb4 T2
        go_wp2_with fail
        refine (T4.out.move HSM.out a a).mono ?_
        rintro e w5 ⟨v5, rfl, hE5, hT5⟩
        rw [hst.out] at hT5
        obtain ⟨a5, c5, rfl, _⟩ := hE5.slice
        rw [hfl.out]
        have T5 := Lib.hid hT5
        have CL := Lib.hid (tabW_len hT5)
        clear hE5 hT5 T4
        go_wp2_with fail
        refine CL.out.mono ?_
        rintro e w6 ⟨rfl, rfl⟩
        go_wp2_with fail
        go_ret
        exact ⟨rfl, T5.out.bel⟩
      · have habb : (a == b) = false := by simpa using hab
        have hp2 := keys_two ha hb hab L
        have hst : Hid (stayE (inE b a) (stayE (inE a b) L) = []) := stay_all hp2
        have hf2 : Hid ((((stayE (inE a b) L).filter (inE b a)).map cleanE).length = (stayE (inE a b) L).length) := show _ = _ by rw [List.length_map, filter_all hp2]
        have hf1 : Hid (((L.filter (inE a b)).map cleanE).length = (L.filter (inE a b)).length) := show _ = _ by rw [List.length_map]
        have hpl := part_len (inE a b) L
        have HSM2 : Hid (∀ e ∈ stayE (inE a b) L, e.g.length ≤ 1000000) := fun e he => HSM.out e (List.mem_filter.1 he).1
        clear hp2 hab
        go_wp2_with fail
        refine (T2.out.move HSM.out a b).mono ?_
        rintro e w5 ⟨v5, rfl, hE5, hT5⟩
        obtain ⟨a5, c5, rfl, _⟩ := hE5.slice
        rw [hf1.out]
        have T5 := Lib.hid hT5
        clear hE5 hT5 T2
        go_wp2_with fail
        refine (T5.out.move HSM2.out b a).mono ?_
        rintro e w6 ⟨v6, rfl, hE6, hT6⟩
        rw [hst.out] at hT6
        obtain ⟨a6, c6, rfl, _⟩ := hE6.slice
        rw [hf2.out]
        have T6 := Lib.hid hT6
        clear hE6 hT6 T5
        go_wp2_with fail
        refine (awake13_any _).mono ?_
        rintro e w7 ⟨rfl, hb7⟩
        have T7 := Lib.hid (T6.out.later hb7)
        have CL := Lib.hid (tabW_len T7.out)
        have CG := Lib.hid (tabW_groups T7.out)
        obtain ⟨n1, hn1⟩ : ∃ z, z = (L.filter (inE a b)).length := ⟨_, rfl⟩
        obtain ⟨n2, hn2⟩ : ∃ z, z = (stayE (inE a b) L).length := ⟨_, rfl⟩
        rw [← hn1, ← hn2] at hpl ⊢
        have hsum : (((n1 : Int) + (n2 : Int)) == (L.length : Int)) = true := by rw [beq_iff_eq]; omega
        clear hb7 T6 hn1 hn2
        go_wp2_with fail
        refine CL.out.mono ?_
        rintro e w8 ⟨rfl, rfl⟩
        go_wp2_with fail
        refine CG.out.mono ?_
        rintro e w9 ⟨v9, rfl, hS9, hb9⟩
        obtain ⟨a9, c9, rfl, _⟩ := hS9.slice
        rw [show (groupsE ([] : List Ent)).length = 0 from rfl]
        have B9 := Lib.hid (bel_below T7.out.bel hb9)
        clear hS9 hb9
        go_wp2_with fail
        go_ret
        exact ⟨rfl, B9.out⟩
set_option maxRecDepth 100000 in
theorem tableKeys_walk {H : Type} (enc : TypeId × Value → H) (W : World) (v0 : Value) (d0 : DataW H) (p0 : List MemPlace) {r0 : Reach} {b0 : Nat} (ok0 : Value.okWide Try.prog W r0 b0 22 v0) (h0 : DataW.Trod enc Try.prog W 0 (fun _ => true) true 22 v0 d0 p0)
    (hlt0 : ∀ x ∈ p0, x.block < W.heap.size) (sz0 : ∀ n ∈ d0.weights Try.prog 22, n ≤ reachBytes) (a1 : Int) (w1 : (Lit.int .u64 a1).wf = true) (a2 : Int) (w2 : (Lit.int .u64 a2).wf = true) :
    Calls Try.prog 6 #[v0, .int .u64 a1, .int .u64 a2] W fun e W' => e = .returned (.bool true) ∧ Below W.heap.size W W' := by
  obtain ⟨l, hE, _⟩ := ents_open ok0 h0
  exact tableKeys_main W v0 l hE a1 a2 (placeOfT w1) (placeOfT w2)
end Go.Proofs.Ytacdgfkahppmdaa
