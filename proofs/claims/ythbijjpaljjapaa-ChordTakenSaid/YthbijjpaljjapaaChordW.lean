
/-
  ChordTaken: a place that one who lives has is nobody else's.
-/
import Derived.Test.YthbijjpaljjapaaErrIs
import Derived.Test.YthbijjpaljjapaaChordT
namespace Go.Proofs.Ythbijjpaljjapaa
open Go.RowKit Go.Maps Go.Sort Go.WideShapes Go.ChangeShapes Go.Deep
set_option linter.unusedVariables false
set_option linter.unusedSimpArgs false
attribute [local go_sem] later_cell later_frozen later_lt cell_set_off cell_set_block

/-! ### Five members at most -/
/-- All who were there live, and know three. -/
structure Full (f : RS) (p : Int → Prop) : Prop where
  used : ∀ x, (f x).isSome = true → p x
  live : ∀ x, p x → livesR f x = true
  three : ∀ x, livesR f x = true → (succR f x).length = 3
theorem full_base : Full F0 (fun x => 0 ≤ x ∧ x < 4) := by
  rw [← f0_eq]
  exact {
    used := fun x hx => by
      obtain ⟨m, hm⟩ := Option.isSome_iff_exists.1 hx
      obtain ⟨i, hi, rfl, _⟩ := newF_inv 4 x m hm
      exact four0.at i
    live := fun x hx => (four0.lives_iff x).2 hx
    three := fun x hx => by
      obtain ⟨h0, h4⟩ := (four0.lives_iff x).1 hx
      obtain ⟨j, hj, rfl, _⟩ := four0.onto h0 h4
      rw [four0.succ_at]; rfl }
theorem follow_three {s : Int} {l : List Int} (h : l.length = 3) : (followL s l).length = 3 := by unfold followL; rw [List.length_take, List.length_cons]; omega
theorem full_stab {f : RS} {p : Int → Prop} (I : Inv f) (h : Full f p) {n : Int} (hn : livesR f n = true) : Full (stabR f n) p where
  used := fun x hx => by
    refine h.used x ?_
    unfold stabR stab1 at hx
    rw [isSome_set, isSome_set] at hx
    split at hx
    · rename_i e; rw [e]; exact live_isSome (stabT_facts I hn).1
    · split at hx
      · rename_i e; rw [e]; exact live_isSome hn
      · exact hx
  live := fun x hx => by rw [livesR_stab]; exact h.live x hx
  three := fun x hx => by
    rw [livesR_stab] at hx
    rw [succR_stab]
    split
    · exact follow_three (h.three _ (stabT_facts I hn).1)
    · exact h.three x hx
theorem full_looks {f : RS} {p : Int → Prop} (I : Inv f) (h : Full f p) {l : List Int} (hl : ∀ x ∈ l, livesR f x = true) : Full (looksR f l) p := by
  induction l generalizing f with
  | nil => exact h
  | cons n l ih => exact ih (inv_stab I (hl n (by simp))) (full_stab I h (hl n (by simp))) fun x hx => by rw [livesR_stab]; exact hl x (List.mem_cons_of_mem _ hx)
theorem full_round {f : RS} {p : Int → Prop} (I : Inv f) (h : Full f p) : Full (roundR f) p := full_looks I h fun x hx => (mem_liveL I.dom).1 hx
theorem full_join {f : RS} {p : Int → Prop} (I : Inv f) (h : Full f p) {n id z : Int} (hn : f n = none) (hz : livesR f z = true) : Full (setM f n ⟨true, id, z, succR f z⟩) (fun x => p x ∨ x = n) where
  used := fun x hx => by
    rw [isSome_set] at hx
    split at hx
    · rename_i e; exact Or.inr e
    · exact Or.inl (h.used x hx)
  live := fun x hx => by
    rw [livesR_set]
    split
    · rfl
    · rename_i e; exact h.live x (hx.resolve_right e)
  three := fun x hx => by
    rw [succR_set]
    rw [livesR_set] at hx
    split
    · exact h.three z hz
    · rename_i e; rw [if_neg e] at hx; exact h.three x hx
/-- Of five the fifth may go. -/
theorem fifth_goes {f : RS} {n : Int} (I : Inv f) (h4 : 4 ≤ n) (h : Full f (fun x => (0 ≤ x ∧ x < 4) ∨ x = n)) : failC f n = 0 := by
  unfold failC
  have hn : livesR f n = true := h.live n (Or.inr rfl)
  rw [if_neg (by simp [hn]), if_neg (by omega), if_neg]
  intro ha
  obtain ⟨k, hk, e⟩ := List.any_eq_true.1 ha
  have hkl := (mem_liveL (dom_dies I.dom hn)).1 hk
  rw [lives_dies] at hkl
  split at hkl
  · cases hkl
  rename_i hkn
  have e' : headR (diesR f n) k = -1 := by simpa using e
  unfold headR at e'
  rw [succ_dies] at e'
  have h3 := h.three k hkl
  have hno : ∀ x ∈ succR f k, livesR (diesR f n) x = false := by
    rcases headL_or (diesR f n) (succR f k) with hh | hh
    · rw [e', livesR_neg (dom_dies I.dom hn)] at hh; cases hh.1
    · exact hh.2
  have hall : ∀ x ∈ succR f k, x = n := fun x hx => by
    have h1 := hno x hx
    rw [lives_dies] at h1
    split at h1
    · assumption
    · rw [h.live x (h.used x (succR_mem I x hx))] at h1; cases h1
  have hs := I.skip k hkl
  have hf : (succR f k).filter (livesR f) = succR f k := List.filter_eq_self.2 fun x hx => by rw [hall x hx]; exact hn
  rw [hf] at hs
  match hl : succR f k, h3 with
  | [a, b, c], _ =>
    rw [hl] at hs hall
    have ha := hall a (by simp)
    have hb := hall b (by simp)
    rw [ha, hb] at hs
    exact I.apart hs.2.1 rfl
theorem join_free {f : RS} (I : Inv f) {n id via : Int} (h0 : 0 ≤ n) (h1 : n < 32) (hn : f n = none) (hv : livesR f via = true) (hid : isPlace id) :
    ((∃ x, livesR f x = true ∧ idR f x = id) ∧ joinC f n id via = 8) ∨ ((∀ x, livesR f x = true → idR f x ≠ id) ∧ joinC f n id via = 0) := by
  by_cases h : ∃ x, livesR f x = true ∧ idR f x = id
  · refine Or.inl ⟨h, ?_⟩
    obtain ⟨x, hx, e⟩ := h
    unfold joinC
    rw [if_neg (by omega), if_neg (by simp [hn]), if_neg (by simp [hv]), if_pos (List.any_eq_true.2 ⟨x, (mem_liveL I.dom).2 hx, by simpa using e⟩)]
  · have hno : ∀ x, livesR f x = true → idR f x ≠ id := fun x hx e => h ⟨x, hx, e⟩
    refine Or.inr ⟨hno, ?_⟩
    have h5 := (joinC_cases I (n := n) (via := via) hid).1
    unfold joinC at h5 ⊢
    rw [if_neg (by omega), if_neg (by simp [hn]), if_neg (by simp [hv]), if_neg (fun ha => by
      obtain ⟨x, hx, e⟩ := List.any_eq_true.1 ha
      exact hno x ((mem_liveL I.dom).1 hx) (by simpa using e))] at h5 ⊢
    split at h5
    · rfl
    · exact absurd rfl h5
theorem isSome_looks {f : RS} (I : Inv f) {l : List Int} (hl : ∀ x ∈ l, livesR f x = true) (j : Int) : (looksR f l j).isSome = (f j).isSome := by
  induction l generalizing f with
  | nil => rfl
  | cons n l ih =>
    show (looksR (stabR f n) l j).isSome = _
    rw [ih (inv_stab I (hl n (by simp))) fun x hx => by rw [livesR_stab]; exact hl x (List.mem_cons_of_mem _ hx)]
    unfold stabR stab1
    rw [isSome_set, isSome_set]
    have hn := hl n (by simp)
    split
    · rename_i e; rw [e, live_isSome (stabT_facts I hn).1]
    · split
      · rename_i e; rw [e, live_isSome hn]
      · rfl
theorem isSome_round {f : RS} (I : Inv f) (j : Int) : (roundR f j).isSome = (f j).isSome := isSome_looks I (fun x hx => (mem_liveL I.dom).1 hx) j
theorem lives_roundR (f : RS) (j : Int) : livesR (roundR f) j = livesR f j := by rw [roundR_eq, lives_looks]
theorem id_roundR (f : RS) (j : Int) : idR (roundR f) j = idR f j := by rw [roundR_eq, id_looks]
theorem f0_none {n : Int} (h : 4 ≤ n) : F0 n = none := by
  cases e : F0 n with
  | none => rfl
  | some m => have := full_base.used n (by rw [e]; rfl); omega
structure TakenB (n m id : Int) : Prop where
  j1 : joinC F0 n id 0 = 0
  j2 : joinC (joinR F0 n id 0) m id 1 = 8
  fl : failC (roundR (joinR F0 n id 0)) n = 0
  j3 : joinC (roundR (failR (roundR (joinR F0 n id 0)) n)) m id 2 = 0
  lm : livesR (joinR (roundR (failR (roundR (joinR F0 n id 0)) n)) m id 2) m = true
  ln : livesR (joinR (roundR (failR (roundR (joinR F0 n id 0)) n)) m id 2) n = false
theorem taken_cases {n m id : Int} (n4 : 4 ≤ n) (n31 : n < 32) (m4 : 4 ≤ m) (m31 : m < 32) (hnm : n ≠ m) (hid : isPlace id) :
    (joinC F0 n id 0 = 8 ∧ joinC F0 m id 1 = 8) ∨ TakenB n m id := by
  have hb : ∀ b : Int, 0 ≤ b → b < 4 → livesR F0 b = true := fun b h0 h4 => full_base.live b ⟨h0, h4⟩
  rcases join_free inv0 (by omega) n31 (f0_none n4) (hb 0 (by omega) (by omega)) hid with ⟨hx, h8⟩ | ⟨hno, h0⟩
  · left
    refine ⟨h8, ?_⟩
    rcases join_free inv0 (by omega) m31 (f0_none m4) (hb 1 (by omega) (by omega)) hid with ⟨_, h⟩ | ⟨hno, _⟩
    · exact h
    · obtain ⟨x, hx, e⟩ := hx; exact absurd e (hno x hx)
  · right
    have I1 : Inv (joinR F0 n id 0) := inv_joinR inv0 hid
    obtain ⟨_, _, hn, _, _, z, _, hz, _, e1⟩ := (joinC_cases inv0 hid).2 h0
    have U1 : Full (joinR F0 n id 0) (fun x => (0 ≤ x ∧ x < 4) ∨ x = n) := by rw [e1]; exact full_join inv0 full_base hn hz
    have l1 : livesR (joinR F0 n id 0) n = true := U1.live n (Or.inr rfl)
    have m1 : joinR F0 n id 0 m = none := by rw [e1, setM_ne _ _ (Ne.symm hnm)]; exact f0_none m4
    have i1 : idR (joinR F0 n id 0) n = id := by rw [e1, idR_set, if_pos rfl]
    have h2 : joinC (joinR F0 n id 0) m id 1 = 8 := by
      rcases join_free I1 (by omega) m31 m1 (U1.live 1 (Or.inl (by omega))) hid with ⟨_, h⟩ | ⟨hno, _⟩
      · exact h
      · exact absurd i1 (hno n l1)
    have I2 := inv_round I1
    have hfl := fifth_goes I2 n4 (full_round I1 U1)
    have e3 : failR (roundR (joinR F0 n id 0)) n = diesR (roundR (joinR F0 n id 0)) n := by unfold failR; rw [if_pos hfl]
    have I3 := inv_failR I2 n
    have I4 := inv_round I3
    have m4' : roundR (failR (roundR (joinR F0 n id 0)) n) m = none := by
      have := isSome_round I3 m
      rw [e3] at this ⊢
      unfold diesR at this ⊢
      rw [setM_ne _ _ (Ne.symm hnm), isSome_round I1 m, m1] at this
      simpa using this
    have hl4 : ∀ x, livesR (roundR (failR (roundR (joinR F0 n id 0)) n)) x = if x = n then false else livesR (joinR F0 n id 0) x := fun x => by
      rw [lives_roundR, e3, lives_dies, lives_roundR]
    have hi4 : ∀ x, idR (roundR (failR (roundR (joinR F0 n id 0)) n)) x = idR (joinR F0 n id 0) x := fun x => by
      rw [id_roundR, e3, id_dies, id_roundR]
    have h5 : joinC (roundR (failR (roundR (joinR F0 n id 0)) n)) m id 2 = 0 := by
      rcases join_free I4 (by omega) m31 m4' (by rw [hl4, if_neg (show ¬ ((2 : Int) = n) by omega)]; exact U1.live 2 (Or.inl (by omega))) hid with ⟨⟨x, hx, e⟩, _⟩ | ⟨_, h⟩
      · exfalso
        rw [hl4] at hx
        split at hx
        · cases hx
        rename_i hxn
        rw [hi4, e1, idR_set, if_neg hxn] at e
        rw [e1, livesR_set, if_neg hxn] at hx
        exact hno x hx e
      · exact h
    obtain ⟨_, _, _, _, _, z5, _, hz5, _, e5⟩ := (joinC_cases I4 hid).2 h5
    exact ⟨h0, h2, hfl, h5, by rw [e5, livesR_set, if_pos rfl], by rw [e5, livesR_set, if_neg hnm, hl4, if_pos rfl]⟩

theorem code_err {B : Nat} {w : World} {v : Value} {c : Int} (h : CodeIs B w v c) (hc : c ≠ 0) : ∃ b : Nat, v = .iface 89 (.pointer (some ⟨b, 0, none⟩)) ∧ B ≤ b ∧ b < w.heap.size ∧ w.cell? ⟨b, 2, none⟩ = some (.iface 50 (.int .i64 c)) := by
  rcases h with ⟨h, _⟩ | ⟨_, h⟩
  · exact absurd h hc
  · exact h
theorem code_nil {B : Nat} {w : World} {v : Value} {c : Int} (h : CodeIs B w v c) (hc : c = 0) : v = .nilIface := by
  rcases h with ⟨_, h⟩ | ⟨h, _⟩
  · exact h
  · exact absurd hc h
set_option maxRecDepth 100000 in
set_option maxHeartbeats 8000000 in
theorem chordTaken_yes (w : World) (n m id : Int) (n4 : 4 ≤ n) (n31 : n < 32) (m4 : 4 ≤ m) (m31 : m < 32) (hnm : n ≠ m) (hid : isPlace id) :
    Calls Try.prog 7 #[.int .i64 n, .int .i64 m, .int .u64 id] w (OneYes w) := by
  have okn : okInt n := okInt_dom (by omega) (by omega)
  have okm : okInt m := okInt_dom (by omega) (by omega)
  have hnmb : (n == m) = false := by simpa using hnm
  have hcases := Lib.hid (taken_cases n4 n31 m4 m31 hnm hid)
  clear hnm
  go_enter Try.func7, Try.ntmps7
  go_wp2_with fail
  refine (base_any _).mono ?_
  rintro e w1 ⟨v1, rfl, hs1, hB1⟩
  have S1 := Lib.hid hs1
  have B1 := Lib.hid hB1
  clear hs1 hB1
  go_wp2_with fail
  refine (new_any w1 v1 ids0 (S1.out.base (Nat.zero_le _)) (by unfold ids0 isPlace; simp)).mono ?_
  intro e w2 hp
  unfold AskPost at hp
  rw [show fourB ids0 = true from by unfold fourB; rw [set0]; rfl, if_pos rfl] at hp
  obtain ⟨rb, mb, g, rfl, R2, hB2⟩ := hp
  rw [set0, f0_eq] at R2
  have B2 := Lib.hid (bel_below B1.out hB2)
  have H2 : Hid (RAt (fun b => w.heap.size ≤ b) w2 rb mb g F0) := R2.same (Nat.le_refl _) (fun _ _ _ => rfl) (fun b _ hS => by have := B1.out.size; omega) (fun b hb => by have := B1.out.size; have := hB2.size; omega)
  clear R2 hB2 S1 B1
  go_wp2_with fail
  rcases hcases.out with ⟨c1, c2⟩ | hT
  · refine (join_at H2.out inv0.heads n id 0 okn (okInt_dom (by omega) (by omega)) hid).mono ?_
    intro e w3 hp
    unfold JoinPost at hp
    rw [c1, if_neg (by decide)] at hp
    obtain ⟨v3, rfl, ⟨b3, rfl, _, hb3, hc3⟩, hB3⟩ := hp
    have B3 := Lib.hid (bel_below B2.out hB3)
    have H3 := Lib.hid (H2.out.below hB3)
    clear hB3
    go_wp2_with fail
    refine (join_at H3.out inv0.heads m id 1 okm (okInt_dom (by omega) (by omega)) hid).mono ?_
    intro e w4 hp
    unfold JoinPost at hp
    rw [c2, if_neg (by decide)] at hp
    obtain ⟨v4, rfl, ⟨b4, rfl, _, hb4, hc4⟩, hB4⟩ := hp
    have hc34 := (hB4.cell (p := ⟨b3, 2, none⟩) hb3).trans hc3
    have hb34 := Nat.lt_of_lt_of_le hb3 hB4.size
    have B4 := Lib.hid (bel_below B3.out hB4)
    clear hB4 hc3 hb3 c1 c2
    go_wp2_with fail
    refine (awake_any _).mono ?_
    rintro e w5 ⟨rfl, hB5⟩
    have hc35 := (hB5.cell (p := ⟨b3, 2, none⟩) hb34).trans hc34
    have hc45 := (hB5.cell (p := ⟨b4, 2, none⟩) hb4).trans hc4
    have B5 := Lib.hid (bel_below B4.out hB5)
    clear hB5 hc34 hc4 hb34 hb4
    go_wp2_with fail
    refine (is_code b3 8 8 _ hc35).mono ?_
    rintro e w6 ⟨rfl, rfl⟩
    go_wp2_with fail
    refine (is_code b4 8 8 _ hc45).mono ?_
    rintro e w6 ⟨rfl, rfl⟩
    go_wp2_with fail
    go_ret
    exact ⟨rfl, B5.out⟩
  · have HT := Lib.hid hT
    clear hT hcases
    refine (join_act H2.out inv0.heads n id 0 okn (okInt_dom (by omega) (by omega)) hid).mono ?_
    rintro e w3 ⟨v3, rfl, hv3, ⟨g3, hg3⟩, hk3⟩
    have hv3' := code_nil hv3 HT.out.j1
    subst hv3'
    have I3 := Lib.hid (inv_joinR inv0 (n := n) (via := 0) hid)
    have B3 := Lib.hid (kept_below B2.out hk3)
    have H3 := Lib.hid hg3
    clear hg3 hk3 hv3
    go_wp2_with fail
    refine (join_at H3.out I3.out.heads m id 1 okm (okInt_dom (by omega) (by omega)) hid).mono ?_
    intro e w4 hp
    unfold JoinPost at hp
    rw [HT.out.j2, if_neg (by decide)] at hp
    obtain ⟨v4, rfl, ⟨b4, rfl, hb34, hb4, hc4⟩, hB4⟩ := hp
    have H4 := Lib.hid (H3.out.now hB4)
    have B4 := Lib.hid (bel_below B3.out hB4)
    have K4 := Lib.hid (Kept.refl (Now (fun b => w.heap.size ≤ b) w3 w4) w4)
    have hz34 := hB4.size
    clear hB4 H3
    go_wp2_with fail
    refine (round_at H4.out I3.out.heads).mono ?_
    rintro e w5 ⟨rfl, hg5, hk5⟩
    have I5 := Lib.hid (inv_round I3.out)
    have H5 := Lib.hid hg5
    have K5 := Lib.hid (K4.out.trans hk5)
    clear hg5 hk5
    go_wp2_with fail
    refine (fail_act H5.out n okn).mono ?_
    rintro e w6 ⟨v6, rfl, hv6, ⟨g6, hg6⟩, hk6⟩
    have hv6' := code_nil hv6 HT.out.fl
    subst hv6'
    have I6 := Lib.hid (inv_failR I5.out n)
    have H6 := Lib.hid hg6
    have K6 := Lib.hid (K5.out.trans hk6)
    clear hg6 hk6 hv6
    go_wp2_with fail
    refine (round_at H6.out I6.out.heads).mono ?_
    rintro e w7 ⟨rfl, hg7, hk7⟩
    have I7 := Lib.hid (inv_round I6.out)
    have H7 := Lib.hid hg7
    have K7 := Lib.hid (K6.out.trans hk7)
    clear hg7 hk7
    go_wp2_with fail
    refine (join_act H7.out I7.out.heads m id 2 okm (okInt_dom (by omega) (by omega)) hid).mono ?_
    rintro e w8 ⟨v8, rfl, hv8, ⟨g8, hg8⟩, hk8⟩
    have hv8' := code_nil hv8 HT.out.j3
    subst hv8'
    have H8 := Lib.hid hg8
    have K8 := Lib.hid (K7.out.trans hk8)
    have hc8 : w8.cell? ⟨b4, 2, none⟩ = some (.iface 50 (.int .i64 8)) := (World.cell?_of_block (K8.out.block b4 hb4 (by simp only [Now]; omega))).trans hc4
    have hb8 := Nat.lt_of_lt_of_le hb4 K8.out.size
    have B8 := Lib.hid (B4.out.trans (K8.out.toBelow B4.out.size (fun b hb => by have := B3.out.size; simp only [Now]; omega)))
    clear hg8 hk8 hv8 hc4 hb4
    have CL1 := Lib.hid (fun w' (hb : RowKit.Below w8.heap.size w8 w') => lives_at (H8.out.below hb) m okm)
    have CL2 := Lib.hid (fun w' (hb : RowKit.Below w8.heap.size w8 w') => lives_at (H8.out.below hb) n okn)
    rw [HT.out.lm] at CL1
    rw [HT.out.ln] at CL2
    go_wp2_with fail
    refine (awake_any _).mono ?_
    rintro e w9 ⟨rfl, hB9⟩
    have hc9 := (hB9.cell (p := ⟨b4, 2, none⟩) hb8).trans hc8
    have HB9 := Lib.hid hB9
    clear hB9 hc8 hb8
    go_wp2_with fail
    refine (is_code b4 8 8 _ hc9).mono ?_
    rintro e w6 ⟨rfl, rfl⟩
    go_wp2_with fail
    refine (CL1.out _ HB9.out).mono ?_
    rintro e w6 ⟨rfl, rfl⟩
    go_wp2_with fail
    refine (CL2.out _ HB9.out).mono ?_
    rintro e w6 ⟨rfl, rfl⟩
    go_wp2_with fail
    go_ret
    exact ⟨rfl, bel_below B8.out HB9.out⟩
set_option maxRecDepth 100000 in
set_option maxHeartbeats 8000000 in
theorem chordTaken_no (w : World) (n m id : Int) (hn : okInt n) (hm : okInt m) (h : ¬ (4 ≤ n ∧ n < 32 ∧ 4 ≤ m ∧ m < 32 ∧ n ≠ m)) :
    Calls Try.prog 7 #[.int .i64 n, .int .i64 m, .int .u64 id] w (OneYes w) := by
  have hc : n < 4 ∨ (4 ≤ n ∧ 31 < n) ∨ (4 ≤ n ∧ n ≤ 31 ∧ m < 4) ∨ (4 ≤ n ∧ n ≤ 31 ∧ 4 ≤ m ∧ 31 < m) ∨ (4 ≤ n ∧ n ≤ 31 ∧ 4 ≤ m ∧ m ≤ 31 ∧ n = m) := by omega
  clear h
  rcases hc with h1 | ⟨h1, h2⟩ | ⟨h1, h2, h3⟩ | ⟨h1, h2, h3, h4⟩ | ⟨h1, h2, h3, h4, rfl⟩
  all_goals
    go_enter Try.func7, Try.ntmps7
    go_wp2_with fail
    refine (base_any _).mono ?_
    rintro e w1 ⟨v1, rfl, hs1, hB1⟩
    have S1 := Lib.hid hs1
    have B1 := Lib.hid hB1
    clear hs1 hB1
    go_wp2_with fail
    refine (new_any w1 v1 ids0 (S1.out.base (Nat.zero_le _)) (by unfold ids0 isPlace; simp)).mono ?_
    intro e w2 hp
    unfold AskPost at hp
    rw [show fourB ids0 = true from by unfold fourB; rw [set0]; rfl, if_pos rfl] at hp
    obtain ⟨rb, mb, g, rfl, R2, hB2⟩ := hp
    rw [set0, f0_eq] at R2
    have B2 := Lib.hid (bel_below B1.out hB2)
    have H2 : Hid (RAt (fun b => w.heap.size ≤ b) w2 rb mb g F0) := R2.same (Nat.le_refl _) (fun _ _ _ => rfl) (fun b _ hS => by have := B1.out.size; omega) (fun b hb => by have := B1.out.size; have := hB2.size; omega)
    clear R2 hB2 S1 B1
    go_wp2_with fail
    refine (awake_any _).mono ?_
    rintro e w9 ⟨rfl, hB9⟩
    go_wp2_with fail
    go_ret
    exact ⟨rfl, bel_below B2.out hB9⟩
theorem chordTaken_walk (W : World) (n : Int) (wn : (Lit.int .i64 n).wf = true) (m : Int) (wm : (Lit.int .i64 m).wf = true) (id : Int) (wid : (Lit.int .u64 id).wf = true) :
    Calls Try.prog 7 #[.int .i64 n, .int .i64 m, .int .u64 id] W fun e W' => e = .returned (.bool true) ∧ RowKit.Below W.heap.size W W' := by
  by_cases h : 4 ≤ n ∧ n < 32 ∧ 4 ≤ m ∧ m < 32 ∧ n ≠ m
  · obtain ⟨h1, h2, h3, h4, h5⟩ := h
    exact chordTaken_yes W n m id h1 h2 h3 h4 h5 (placeOf wid)
  · exact chordTaken_no W n m id wn wm h
end Go.Proofs.Ythbijjpaljjapaa
