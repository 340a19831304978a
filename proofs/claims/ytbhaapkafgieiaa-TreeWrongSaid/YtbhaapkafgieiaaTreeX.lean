

/-
  TreeWrong walked.
-/
import Derived.Test.YtbhaapkafgieiaaTreeK
import Derived.Test.YtbhaapkafgieiaaTreeV
namespace Go.Proofs.Ytbhaapkafgieiaa
open Go.RowKit Go.Maps Go.Sort Go.WideShapes Go.ChangeShapes Go.Deep
set_option linter.unusedVariables false
set_option linter.unusedSimpArgs false
attribute [local go_sem] later_cell later_frozen later_lt cell_set_off cell_set_block

/-- A new map is a tree of nobody's tellings. -/
theorem treeAt_new (w : World) (r : Int) (hr : okInt r) : TreeAt (w.alloc (.map #[] 0)) w.heap.size ⟨r, []⟩ :=
  ⟨mapX_new (P := Try.prog) (k := 3) w, (fun p hp => by cases hp), hr, by simp⟩
/-- One telling more. -/
theorem treeAt_put (w : World) (mb : Nat) (t : TS) (h : TreeAt w mb t) {n m : Int} (hn : okInt n) (hm : okInt m) (hu : t.up n = none) (hs : t.ups.length < 100000) :
    ∃ w', (Instr.mapUpdate 23 (.map (some mb)) (.int .i64 n) (.int .i64 m)).run Try.prog w = .ok () w' ∧ TreeAt w' mb (t.add n m) ∧ w.grownBy w' (some mb) := by
  obtain ⟨w', hrun, hm', ht⟩ := h.map.store keyInt Try.underlying3 Try.underlying23 (by simp only [maxLen]; omega) n hn (.int .i64 m)
  refine ⟨w', hrun, ⟨?_, ?_, h.root, ?_⟩, ht.grown⟩
  · rw [hu] at hm'
    have e1 : (t.add n m).ups.length = t.ups.length + 1 := by simp [TS.add]
    rw [e1]
    have e2 : (fun i => ((t.add n m).up i).map (Value.int .i64)) = setX (fun i => (t.up i).map (Value.int .i64)) n (.int .i64 m) := by
      funext i
      show (upL (t.ups ++ [(n, m)]) i).map _ = _
      rw [upL_snoc]
      unfold setX
      by_cases e : i = n
      · subst e
        rw [show upL t.ups i = none from hu]; simp
      · rw [if_neg e, if_neg e]
        show Option.map _ _ = Option.map _ (upL t.ups i)
        cases upL t.ups i <;> simp
    rw [e2]
    simpa using hm'
  · intro p hp
    have hp' : p ∈ t.ups ++ [(n, m)] := hp
    rcases List.mem_append.1 hp' with hp' | hp'
    · exact h.ok p hp'
    · simp at hp'; subst hp'; exact ⟨hn, hm⟩
  · show (t.ups ++ [(n, m)]).length ≤ _
    simp; omega
/-- A root alone: the owner, or nobody. -/
theorem check_wrong (w : World) (mb : Nat) (r o : Int) (h : TreeAt w mb ⟨r, []⟩) (aa ia : Option Addr) (n ac m ic : Nat) (nm : ByteArray) (hnm : nm.size ≤ 1000000) (ho : 0 ≤ o)
    (CO : ∀ wr, Below w.heap.size w wr → Calls Try.prog 20 #[.agg #[.slice aa n ac, .slice ia m ic], .int .u64 (keyH nm)] wr fun e w' => e = .returned (.int .i64 o) ∧ Below wr.heap.size wr w') :
    ∃ cd : Option Int, (cd = none ↔ (r = o ∨ r = -1)) ∧ Calls Try.prog 22 #[.agg #[.int .i64 r, .map (some mb)], .agg #[.slice aa n ac, .slice ia m ic], .string nm] w (ChkPost w cd) := by
  by_cases h1 : r = -1
  · refine ⟨none, ⟨fun _ => Or.inr h1, fun _ => rfl⟩, ?_⟩
    have C := check_none w mb ⟨r, []⟩ h aa ia n ac m ic nm h1
    simpa using C
  · by_cases h2 : r = o
    · refine ⟨none, ⟨fun _ => Or.inl h2, fun _ => rfl⟩, ?_⟩
      exact check_deep w mb ⟨r, []⟩ h aa ia n ac m ic nm hnm h1 (by rw [← h2] at CO; exact CO) rfl none (fun _ => rfl) (fun ⟨x, hx, _⟩ => by simp [TS.up, upL] at hx)
    · refine ⟨some 11, ⟨(fun h => by cases h), (fun h => by rcases h with h | h <;> contradiction)⟩, ?_⟩
      exact check_root w mb ⟨r, []⟩ h aa ia n ac m ic nm hnm h1 o CO rfl (fun e => h2 e.symm)
/-- Who comes round to itself has no depth. -/
theorem round_deep (o : Int) (ho : o < 32) : ∃ x, (((⟨o, []⟩ : TS).add 50 51).add 51 50).up x ≠ none ∧ depthR (((⟨o, []⟩ : TS).add 50 51).add 51 50) x < 0 := by
  obtain ⟨t, ht⟩ : ∃ z, z = (((⟨o, []⟩ : TS).add 50 51).add 51 50) := ⟨_, rfl⟩
  rw [← ht]
  have h50 : t.up 50 = some 51 := by rw [ht]; simp [TS.add, TS.up, upL]
  have h51 : t.up 51 = some 50 := by rw [ht]; simp [TS.add, TS.up, upL]
  have hr : t.root = o := by rw [ht]; rfl
  have key : ∀ k d, depthL t k d 50 = -1 ∧ depthL t k d 51 = -1 := by
    intro k
    induction k with
    | zero => intro d; exact ⟨rfl, rfl⟩
    | succ k ih =>
      intro d
      constructor
      · unfold depthL; rw [if_neg (by rw [hr]; omega), h50]; exact (ih _).2
      · unfold depthL; rw [if_neg (by rw [hr]; omega), h51]; exact (ih _).1
  refine ⟨50, by rw [h50]; simp, ?_⟩
  unfold depthR
  rw [(key _ _).1]
  split <;> omega
set_option maxRecDepth 100000 in
set_option maxHeartbeats 16000000 in
theorem treeWrong_main (W : World) (nm : ByteArray) (root : Int) (hroot : okInt root) :
    Calls Try.prog 6 #[.string nm, .int .i64 root] W fun e w' => e = .returned (.bool true) ∧ Below W.heap.size W w' := by
  have hmk : ∀ (w : World), (Instr.makeMap 23 none).run Try.prog w = .ok (.map (some w.heap.size)) (w.alloc (.map #[] 0)) := fun w => run_makeMap 23 w
  go_enter Try.func6, Try.ntmps6
  go_wp2_with fail
  refine (base_any _).mono ?_
  rintro e w1 ⟨v1, rfl, hs1, hB1⟩
  go_wp2_with fail
  refine (new_any w1 v1 ids0 (hs1.base (Nat.zero_le _)) (by unfold ids0 isPlace; simp)).mono ?_
  intro e w2 hp
  unfold AskPost at hp
  rw [show fourB ids0 = true from by unfold fourB; rw [set0]; rfl, if_pos rfl] at hp
  obtain ⟨rb, mb, g, rfl, R2, hB2⟩ := hp
  rw [set0, f0_eq] at R2
  have B2 := Lib.hid (bel_below hB1 hB2)
  have H2 := Lib.hid R2
  clear hs1 hB1 R2 hB2
  by_cases hn : 60 < nm.size
  · have hnI : (60 : Int) < ((nm.size : Nat) : Int) := by omega
    go_wp2_with fail
    refine (awake20_any _).mono ?_
    rintro e w3 ⟨rfl, hb3⟩
    go_wp2_with fail
    go_ret
    exact ⟨rfl, bel_below B2.out hb3⟩
  · have hnI : ¬ (60 : Int) < ((nm.size : Nat) : Int) := by omega
    go_wp2_with fail
    refine (of_at H2.out inv0).mono ?_
    rintro e w3 ⟨av, iv, rfl, hav, hiv, hb3⟩
    rw [circ0.1] at hav hiv
    have CO : ∀ wr, Below w3.heap.size w3 wr → Calls Try.prog 20 #[.agg #[av, iv], .int .u64 (keyH nm)] wr fun e w' => e = .returned (.int .i64 (own F0 (keyH nm))) ∧ Below wr.heap.size wr w' := fun wr hb => by
      have C := cowner_at wr [0, 1, 2, 3] ([0, 1, 2, 3].map (idR F0)) _ _ ((hav.base (Nat.zero_le _)).below hb) ((hiv.base (Nat.zero_le _)).below hb) rfl (by simp) (by rw [circ0.2.1]; exact up0) (keyH nm)
      rw [← show own F0 (keyH nm) = cOwner [0, 1, 2, 3] ([0, 1, 2, 3].map (idR F0)) (keyH nm) by show cOwner (circ F0) ((circ F0).map (idR F0)) _ = _; rw [circ0.1]] at C
      exact C
    have hol := livesR_dom inv0.dom (owner_lives inv0 (keyH nm))
    obtain ⟨o, ho⟩ : ∃ z, z = own F0 (keyH nm) := ⟨_, rfl⟩
    rw [← ho] at CO
    have HOD : Hid (0 ≤ o ∧ o < 32) := show _ ∧ _ by rw [ho]; exact hol
    obtain ⟨aa, ac, rfl, _⟩ := hav.slice
    obtain ⟨ia, ic, rfl, _⟩ := hiv.slice
    have CO := Lib.hid CO
    have B3 := Lib.hid (bel_below B2.out hb3)
    clear hav hiv hb3 ho hol B2
    go_upto_region 5 with (fail)
    obtain ⟨w4, hw4⟩ : ∃ z, z = w3.alloc (.cells #[.slice aa 4 ac, .slice ia 4 ic] 49) := ⟨_, rfl⟩
    obtain ⟨Y, hY⟩ : ∃ z, z = w3.heap.size := ⟨_, rfl⟩
    have b34 : Below w3.heap.size w3 w4 := by rw [hw4]; exact bel_alloc (Below.refl _ _) _
    have y0 : w4.cell? ⟨Y, 0, none⟩ = some (.slice aa 4 ac) := by rw [hw4, hY]; simp [go_sem]
    have y1 : w4.cell? ⟨Y, 1, none⟩ = some (.slice ia 4 ic) := by rw [hw4, hY]; simp [go_sem]
    have yz : Y < w4.heap.size := by rw [hw4, hY]; simp
    have B4 := Lib.hid (bel_below B3.out b34)
    have CO4 : Hid (∀ wr, Below w4.heap.size w4 wr → Calls Try.prog 20 #[.agg #[.slice aa 4 ac, .slice ia 4 ic], .int .u64 (keyH nm)] wr fun e w' => e = .returned (.int .i64 o) ∧ Below wr.heap.size wr w') := fun wr hb => CO.out wr (bel_below b34 hb)
    try rw [show ([0, 1, 2, 3] : List Int).length = 4 from rfl]
    try rw [← hw4]
    try rw [← hY]
    clear hw4 hY b34 CO B3
    refine wp_region_heads [0, 1] 4 (fun w' => ∃ y : Later w4, w' = y.world) (by kernel_rfl) (by kernel_rfl) ⟨⟨{ w4 with drawn := w4.drawn + 1 }, (RowKit.Below.refl _ _).drew⟩, rfl⟩ ?_ ?_
    · intro d v c a w h
      cases d <;> exact h
    simp only [headOps]
    repeat (refine wpTame_step (fun K hK => ?_); go_simp; refine hK _ ?_; clear hK K)
    refine wpTame_nil ?_
    refine wpAnyC_step (f := 2) [2] (by kernel_rfl) rfl rfl (fun i hi => ?_)
    simp only [List.mem_cons, List.not_mem_nil, or_false] at hi
    subst hi
    refine ⟨_, rfl, fun R hR => ?_⟩
    go_wp2_with fail
    refine (key_any nm _ (by omega)).mono ?_
    rintro e wc ⟨rfl, hbc⟩
    have BC := Lib.hid ((bel_drew (RowKit.Below.refl _ _)).trans (hbc.mono (by simp)) : RowKit.Below w4.heap.size w4 wc)
    clear hbc
    go_wp2_with fail
    refine hR _ _ ⟨⟨wc, (BC).out⟩, rfl⟩ ?_
    clear hR R
    refine wpAnyC_step (f := 1) [3] (by kernel_rfl) rfl rfl (fun i hi => ?_)
    simp only [List.mem_cons, List.not_mem_nil, or_false] at hi
    subst hi
    refine ⟨_, rfl, fun R hR => ?_⟩
    go_wp2_with fail
    refine (CO4.out wc BC.out).mono ?_
    rintro e wd ⟨rfl, hbd⟩
    have BD := Lib.hid (bel_below BC.out hbd)
    clear hbd
    go_wp2_with fail
    refine hR _ _ ⟨⟨wd, (BD).out⟩, rfl⟩ ?_
    clear hR R
    refine wpAnyC_end (k := 4) (by decide) rfl rfl (by kernel_rfl) ?_
    have y0 := (BD.out.cell (p := ⟨Y, 0, none⟩) yz).trans y0
    have y1 := (BD.out.cell (p := ⟨Y, 1, none⟩) yz).trans y1
    have yz := Nat.lt_of_lt_of_le yz BD.out.size
    have CO5 : Hid (∀ wr, Below wd.heap.size wd wr → Calls Try.prog 20 #[.agg #[.slice aa 4 ac, .slice ia 4 ic], .int .u64 (keyH nm)] wr fun e w' => e = .returned (.int .i64 o) ∧ Below wr.heap.size wr w') := fun wr hb => CO4.out wr (bel_below BD.out hb)
    clear CO4
    have BD4 := Lib.hid (bel_below B4.out BD.out)
    go_wp2_with fail
    obtain ⟨w5, hw5⟩ : ∃ z, z = wd.alloc (.map #[] 0) := ⟨_, rfl⟩
    have b5 : Below wd.heap.size wd w5 := by rw [hw5]; exact bel_alloc (Below.refl _ _) _
    have T5 : TreeAt w5 wd.heap.size ⟨root, []⟩ := by rw [hw5]; exact treeAt_new wd root hroot
    obtain ⟨cd, hcd, CK⟩ := check_wrong w5 wd.heap.size root o T5 aa ia 4 ac 4 ic nm (by omega) HOD.out.1 (fun wr hb => CO5.out wr (bel_below b5 hb))
    rw [← hw5]
    refine CK.mono ?_
    rintro e w6 ⟨hE, hb6⟩
    have B6 : Hid (Below wd.heap.size wd w6) := bel_below b5 hb6
    have HCD := Lib.hid hcd
    obtain ⟨v9, rfl, hv9⟩ : ∃ v, e = .returned v ∧ ((cd = none ∧ v = .nilIface) ∨ (cd ≠ none ∧ ∃ b : Nat, v = .iface 91 (.pointer (some ⟨b, 0, none⟩)))) := by
      cases cd with
      | none => exact ⟨_, hE, Or.inl ⟨rfl, rfl⟩⟩
      | some k =>
        obtain ⟨v, he, b, hb, _⟩ := hE
        exact ⟨v, he, Or.inr ⟨by simp, b, hb⟩⟩
    have y0 := (B6.out.cell (p := ⟨Y, 0, none⟩) yz).trans y0
    have y1 := (B6.out.cell (p := ⟨Y, 1, none⟩) yz).trans y1
    have yz := Nat.lt_of_lt_of_le yz B6.out.size
    clear hE hb6 hcd CK T5 b5 hw5
    have oko : okInt o := okInt_dom (by have := HOD.out.1; omega) (by have := HOD.out.2; omega)
    have HON : Hid (o ≠ -1) := show _ ≠ _ by have := HOD.out.1; omega
    have hY : Hid (∀ w', Below w6.heap.size w6 w' → w'.cell? ⟨Y, 0, none⟩ = some (.slice aa 4 ac) ∧ w'.cell? ⟨Y, 1, none⟩ = some (.slice ia 4 ic) ∧ Y < w'.heap.size) := fun w' hb => ⟨(hb.cell (p := ⟨Y, 0, none⟩) yz).trans y0, (hb.cell (p := ⟨Y, 1, none⟩) yz).trans y1, Nat.lt_of_lt_of_le yz hb.size⟩
    have CO6 : Hid (∀ wr, Below w6.heap.size w6 wr → Calls Try.prog 20 #[.agg #[.slice aa 4 ac, .slice ia 4 ic], .int .u64 (keyH nm)] wr fun e w' => e = .returned (.int .i64 o) ∧ Below wr.heap.size wr w') := fun wr hb => CO5.out wr (bel_below B6.out hb)
    have B06 : Hid (Below W.heap.size W w6) := bel_below BD4.out B6.out
    have CKR : Hid (∃ wa wb, (Instr.mapUpdate 23 (.map (some w6.heap.size)) (.int .i64 50) (.int .i64 51)).run Try.prog (w6.alloc (.map #[] 0)) = .ok () wa ∧ (Instr.mapUpdate 23 (.map (some w6.heap.size)) (.int .i64 51) (.int .i64 50)).run Try.prog wa = .ok () wb ∧ Below w6.heap.size w6 wb ∧
        Calls Try.prog 22 #[.agg #[.int .i64 o, .map (some w6.heap.size)], .agg #[.slice aa 4 ac, .slice ia 4 ic], .string nm] wb (ChkPost wb (some 13))) := by
      obtain ⟨wa, ra, Ta, ga⟩ := treeAt_put (w6.alloc (.map #[] 0)) w6.heap.size ⟨o, []⟩ (treeAt_new w6 o oko) (n := 50) (m := 51) (show (Lit.int .i64 50).wf = true by decide) (show (Lit.int .i64 51).wf = true by decide) rfl (by simp)
      obtain ⟨wb, rb2, Tb, gb⟩ := treeAt_put wa w6.heap.size _ Ta (n := 51) (m := 50) (show (Lit.int .i64 51).wf = true by decide) (show (Lit.int .i64 50).wf = true by decide) (by simp [TS.add, TS.up, upL]) (by simp [TS.add])
      have hb : Below w6.heap.size w6 wb := by
        have h1 := (bel_alloc (Below.refl w6.heap.size w6) (.map #[] 0)).grown ga (by simp) (fun k e => by cases e; exact Nat.le_refl _)
        exact h1.grown gb h1.size (fun k e => by cases e; exact Nat.le_refl _)
      refine ⟨wa, wb, ra, rb2, hb, ?_⟩
      have ho32 := HOD.out.2
      exact check_deep wb w6.heap.size _ Tb aa ia 4 ac 4 ic nm (by omega) (show o ≠ -1 by have := HOD.out.1; omega) (fun wr hb2 => CO6.out wr (bel_below hb hb2)) (by
        have h1 : ¬ o = 50 := by omega
        have h2 : ¬ o = 51 := by omega
        show upL ([] ++ [(50, 51)] ++ [(51, 50)]) o = none
        simp [upL, h1, h2]) (some 13) (fun h => by
          obtain ⟨x, h1, h2⟩ := round_deep o ho32
          have := h x (Option.isSome_iff_ne_none.2 h1)
          omega) (fun _ => rfl)
    clear CO5 BD BD4 B6 y0 y1 yz HOD
    obtain ⟨wa, wb, ra, rb2, b6b, CKR⟩ := CKR.out
    have CKR := Lib.hid CKR
    obtain ⟨y0, y1, yz⟩ := hY.out wb b6b
    go_wp2_with fail
    refine CKR.out.mono ?_
    rintro e w7 ⟨⟨vR, rfl, hR⟩, hb7⟩
    have RE := Lib.hid hR
    have B7 := Lib.hid (bel_below b6b hb7)
    clear hR hb7 b6b ra rb2 CKR y0 y1 yz
    obtain ⟨bR, rfl, _⟩ := RE.out
    -- the root tells
    have CKT : Hid (∃ wa, (Instr.mapUpdate 23 (.map (some w7.heap.size)) (.int .i64 o) (.int .i64 50)).run Try.prog (w7.alloc (.map #[] 0)) = .ok () wa ∧ Below w7.heap.size w7 wa ∧
        Calls Try.prog 22 #[.agg #[.int .i64 o, .map (some w7.heap.size)], .agg #[.slice aa 4 ac, .slice ia 4 ic], .string nm] wa (ChkPost wa (some 11))) := by
      obtain ⟨wa, ra, Ta, ga⟩ := treeAt_put (w7.alloc (.map #[] 0)) w7.heap.size ⟨o, []⟩ (treeAt_new w7 o oko) (n := o) (m := 50) oko (show (Lit.int .i64 50).wf = true by decide) rfl (by simp)
      have hb : Below w7.heap.size w7 wa := (bel_alloc (Below.refl w7.heap.size w7) (.map #[] 0)).grown ga (by simp) (fun k e => by cases e; exact Nat.le_refl _)
      exact ⟨wa, ra, hb, check_tells wa w7.heap.size _ Ta aa ia 4 ac 4 ic nm (show o ≠ -1 from HON.out) 50 (by show upL ([] ++ [(o, 50)]) o = _; simp [upL])⟩
    obtain ⟨wt, rt, bt, CKT⟩ := CKT.out
    have CKT := Lib.hid CKT
    obtain ⟨y0, y1, yz⟩ := hY.out wt (bel_below B7.out bt)
    go_wp2_with fail
    refine CKT.out.mono ?_
    rintro e w8 ⟨⟨vT, rfl, hT⟩, hb8⟩
    have TE := Lib.hid hT
    have B78 := Lib.hid (bel_below bt hb8)
    have B8 := Lib.hid (bel_below B7.out B78.out)
    have RE8 := Lib.hid (RE.out.below B78.out)
    clear hT hb8 bt rt CKT y0 y1 yz RE B78
    obtain ⟨bT, rfl, _⟩ := TE.out
    -- nobody's tree
    have CKN := Lib.hid (check_none (w8.alloc (.map #[] 0)) w8.heap.size ⟨-1, []⟩ (treeAt_new w8 (-1) (okInt_dom (by omega) (by omega))) aa ia 4 ac 4 ic nm rfl)
    have bn : Below w8.heap.size w8 (w8.alloc (.map #[] 0)) := bel_alloc (Below.refl _ _) _
    obtain ⟨y0, y1, yz⟩ := hY.out _ (bel_below B8.out bn)
    go_wp2_with fail
    refine CKN.out.mono ?_
    rintro e w9 ⟨hE9, hb9⟩
    have e9 : e = .returned .nilIface := hE9
    subst e9
    have B89 := Lib.hid (bel_below bn hb9)
    have B9 := Lib.hid (bel_below B8.out B89.out)
    have RE9 := Lib.hid (RE8.out.below B89.out)
    have TE9 := Lib.hid (TE.out.below B89.out)
    clear hE9 hb9 bn CKN y0 y1 yz RE8 TE B89
    -- somebody tells, and nobody is root
    have CKS : Hid (∃ wa, (Instr.mapUpdate 23 (.map (some w9.heap.size)) (.int .i64 1) (.int .i64 2)).run Try.prog (w9.alloc (.map #[] 0)) = .ok () wa ∧ Below w9.heap.size w9 wa ∧
        Calls Try.prog 22 #[.agg #[.int .i64 (-1), .map (some w9.heap.size)], .agg #[.slice aa 4 ac, .slice ia 4 ic], .string nm] wa (ChkPost wa (some 11))) := by
      obtain ⟨wa, ra, Ta, ga⟩ := treeAt_put (w9.alloc (.map #[] 0)) w9.heap.size ⟨-1, []⟩ (treeAt_new w9 (-1) (okInt_dom (by omega) (by omega))) (n := 1) (m := 2) (show (Lit.int .i64 1).wf = true by decide) (show (Lit.int .i64 2).wf = true by decide) rfl (by simp)
      have hb : Below w9.heap.size w9 wa := (bel_alloc (Below.refl w9.heap.size w9) (.map #[] 0)).grown ga (by simp) (fun k e => by cases e; exact Nat.le_refl _)
      exact ⟨wa, ra, hb, check_none wa w9.heap.size _ Ta aa ia 4 ac 4 ic nm rfl⟩
    obtain ⟨ws, rs, bs, CKS⟩ := CKS.out
    have CKS := Lib.hid CKS
    obtain ⟨y0, y1, yz⟩ := hY.out ws (bel_below B9.out bs)
    go_wp2_with fail
    refine CKS.out.mono ?_
    rintro e w10 ⟨⟨vS, rfl, hS⟩, hb10⟩
    have SE := Lib.hid hS
    have B910 := Lib.hid (bel_below bs hb10)
    have B10 := Lib.hid (bel_below B06.out (bel_below B9.out B910.out))
    have RE10 := Lib.hid (RE9.out.below B910.out)
    have TE10 := Lib.hid (TE9.out.below B910.out)
    clear hS hb10 bs rs CKS y0 y1 yz RE9 TE9 B910 B9 B8 B7 hY CO6
    obtain ⟨bS, rfl, _⟩ := SE.out
    go_wp2_with fail
    refine (awake20_any _).mono ?_
    rintro e w11 ⟨rfl, hb11⟩
    have IR := Lib.hid (is_errV (Or.inr (RE10.out.below hb11)))
    have IT := Lib.hid (is_errV (Or.inr (TE10.out.below hb11)))
    have IS := Lib.hid (is_errV (Or.inr (SE.out.below hb11)))
    have B11 := Lib.hid (bel_below B10.out hb11)
    clear hb11 RE10 TE10 SE B10
    rcases hv9 with ⟨hcn, rfl⟩ | ⟨hcn, b9, rfl⟩
    · have hr := HCD.out.1 hcn
      by_cases hro : root = o
      · have hrob : (root == o) = true := by simpa using hro
        clear hr hcn hro
        go_wp2_with fail
        refine IR.out.mono ?_
        rintro e w12 ⟨rfl, rfl⟩
        go_wp2_with fail
        refine IT.out.mono ?_
        rintro e w12 ⟨rfl, rfl⟩
        go_wp2_with fail
        refine IS.out.mono ?_
        rintro e w12 ⟨rfl, rfl⟩
        go_wp2_with fail
        go_ret
        exact ⟨rfl, B11.out⟩
      · have hrob : (root == o) = false := by simpa using hro
        have hr1 : (root == -1) = true := by simpa using hr.resolve_left hro
        clear hr hcn hro
        go_wp2_with fail
        refine IR.out.mono ?_
        rintro e w12 ⟨rfl, rfl⟩
        go_wp2_with fail
        refine IT.out.mono ?_
        rintro e w12 ⟨rfl, rfl⟩
        go_wp2_with fail
        refine IS.out.mono ?_
        rintro e w12 ⟨rfl, rfl⟩
        go_wp2_with fail
        go_ret
        exact ⟨rfl, B11.out⟩
    · have hr : ¬ (root = o ∨ root = -1) := fun h => hcn (HCD.out.2 h)
      have hrob : (root == o) = false := by simpa using fun h => hr (Or.inl h)
      have hr1 : (root == -1) = false := by simpa using fun h => hr (Or.inr h)
      clear hr hcn
      go_wp2_with fail
      refine IR.out.mono ?_
      rintro e w12 ⟨rfl, rfl⟩
      go_wp2_with fail
      refine IT.out.mono ?_
      rintro e w12 ⟨rfl, rfl⟩
      go_wp2_with fail
      refine IS.out.mono ?_
      rintro e w12 ⟨rfl, rfl⟩
      go_wp2_with fail
      go_ret
      exact ⟨rfl, B11.out⟩
set_option maxRecDepth 100000 in
theorem treeWrong_walk (W : World) (a0 : ByteArray) (y0 : a0.size ≤ 140737488351232) (n1 : Int) (y1 : okInt n1) :
    Calls Try.prog 6 #[.string a0, .int .i64 n1] W fun e W' => e = .returned (.bool true) ∧ Below W.heap.size W W' := treeWrong_main W a0 n1 y1
end Go.Proofs.Ytbhaapkafgieiaa
