

/-
  A table of the call's own; the statements' own look at tables: awake.
-/
import Derived.Test.YtacdgfkahppmdaaTabG
namespace Go.Proofs.Ytacdgfkahppmdaa
open Go.RowKit Go.Maps Go.Sort Go.WideShapes Go.ChangeShapes Go.Deep
set_option linter.unusedVariables false
set_option linter.unusedSimpArgs false
attribute [local go_sem] later_cell later_frozen later_lt cell_set_off cell_set_block keptT_cell keptT_lt

/-- Put, where there is room. -/
theorem put_ok {R : Nat → Prop} {w : World} {tb : Nat} {l : List Ent} (h : TabAt 30 R w tb l) (x : Ent) (fv : Value) (hf : SlS 0 x.fs w fv) (hl : x.fs.length ≤ 1000000) (hn : fullB l x = false) :
    Calls Try.prog 9 #[.pointer (some ⟨tb, 0, none⟩), EntV x fv] w fun e w' => e = .returned .nilIface ∧ (∃ R', (∀ b, R' b → R b ∨ w.heap.size ≤ b) ∧ TabAt 30 R' w' tb (putE l (cleanE x))) ∧ Kept R w w' :=
  (put_at h x fv hf hl).mono fun e w' hp => by
    obtain ⟨h1, h2⟩ := hp
    rw [if_neg (by rw [hn]; simp)] at h1
    exact ⟨h1.1, h1.2, h2⟩
/-- A table of the call's own. -/
def TabW (W w : World) (tb : Nat) (l : List Ent) : Prop := ∃ R, (∀ b, R b → W.heap.size ≤ b) ∧ TabAt 30 R w tb l ∧ Below W.heap.size W w
section
variable {W w w' : World} {tb : Nat} {l : List Ent}
theorem TabW.bel (h : TabW W w tb l) : Below W.heap.size W w := by obtain ⟨R, _, _, h⟩ := h; exact h
theorem TabW.ord (h : TabW W w tb l) : OrdE l := by obtain ⟨R, _, h, _⟩ := h; exact h.ord
theorem TabW.later (h : TabW W w tb l) (hb : Below w.heap.size w w') : TabW W w' tb l := by
  obtain ⟨R, h1, h2, h3⟩ := h
  exact ⟨R, h1, h2.below hb, bel_below h3 hb⟩
theorem tabW_new (W : World) : TabW W (W.alloc (.cells #[.slice none 0 0] 24)) W.heap.size [] :=
  ⟨_, (fun b hb => by subst hb; exact Nat.le_refl _), tab_new (by simp [go_sem]) (by simp [go_sem]) (by simp), bel_alloc (Below.refl _ _) _⟩
theorem tabW_put (h : TabW W w tb l) (x : Ent) (fv : Value) (hf : SlS 0 x.fs w fv) (hl : x.fs.length ≤ 1000000) (hn : fullB l x = false) :
    Calls Try.prog 9 #[.pointer (some ⟨tb, 0, none⟩), EntV x fv] w fun e w' => e = .returned .nilIface ∧ TabW W w' tb (putE l (cleanE x)) := by
  obtain ⟨R, h1, h2, h3⟩ := h
  refine (put_ok h2 x fv hf hl hn).mono ?_
  rintro e w' ⟨rfl, ⟨R', h4, h5⟩, h6⟩
  refine ⟨rfl, R', fun b hb => ?_, h5, h3.trans (h6.toBelow h3.size fun b hb hR => by have := h1 b hR; omega)⟩
  rcases h4 b hb with h | h
  · exact h1 b h
  · exact Nat.le_trans h3.size h
end
def e13a : Ent := ⟨[103], 2, [[98], [97]], false, 0⟩
def e13b : Ent := ⟨[103], 1, [], true, 0⟩
def c13a : Ent := ⟨[103], 2, [[97], [98]], false, 0⟩
theorem set13 : setS [[98], [97]] = [[97], [98]] := upS_uniq (setS_up _) (by unfold UpS; decide) fun x => by rw [mem_setS]; simp [or_comm]
theorem clean13a : cleanE e13a = c13a := by
  unfold cleanE e13a c13a
  rw [set13]; simp
theorem clean13b : cleanE e13b = e13b := by unfold cleanE e13b; simp
theorem put13a : putE [] (cleanE e13a) = [c13a] := by rw [clean13a]; rfl
theorem put13b : putE [c13a] (cleanE e13b) = [e13b, c13a] := by
  rw [clean13b]
  refine ordE_uniq (ord_putE (by simp [OrdE]) _) (by unfold OrdE; simp [klt, e13b, c13a]) fun x => ?_
  rw [mem_putE (by simp [OrdE])]
  simp [e13b, c13a]
  constructor
  · rintro (h | ⟨h, _⟩)
    · exact Or.inl h
    · exact Or.inr h
  · rintro (h | h)
    · exact Or.inl h
    · refine Or.inr ⟨h, ?_⟩
      rw [h]; simp
theorem kids13 : kidsE [e13b, c13a] [103] = [e13b, c13a] := by
  have h1 : cleanE c13a = c13a := by rw [← clean13a, clean_clean]
  unfold kidsE
  simp [e13b, c13a] at *
  exact ⟨by simpa [e13b] using clean13b, by simpa [c13a] using h1⟩
theorem full13a : fullB [] e13a = false := rfl
theorem full13b : fullB [c13a] e13b = false := by unfold fullB; simp
set_option maxRecDepth 100000 in
set_option maxHeartbeats 4000000 in
theorem awake13_any (w : World) : Calls Try.prog 12 #[] w fun e w' => e = .returned (.bool true) ∧ Below w.heap.size w w' := by
  go_enter Try.func12, Try.ntmps12
  go_wp2_with fail
  obtain ⟨w2, hw2⟩ : ∃ z, z = (w.alloc (.cells #[.slice none 0 0] 24)).alloc (.cells #[.string { data := #[98] }, .string { data := #[97] }] 9) := ⟨_, rfl⟩
  obtain ⟨X, hX⟩ : ∃ z, z = w.heap.size := ⟨_, rfl⟩
  have es : (w.alloc (.cells #[.slice none 0 0] 24)).heap.size = w.heap.size + 1 := by simp
  have T2 : TabW w w2 X [] := by rw [hw2, hX]; exact (tabW_new w).later (bel_alloc (Below.refl _ _) _)
  have S2 : SlS 0 [[98], [97]] w2 (.slice (some ⟨X + 1, 0, none⟩) 2 2) := by
    rw [hw2, hX, ← es]
    exact (OwnS.of_row (own_lit (w.alloc (.cells #[.slice none 0 0] 24)) [sV [98], sV [97]] 9 0 _ 2 rfl rfl (Nat.zero_le _) (by simp [maxLen]))).slAt
  rw [← hw2]
  try rw [es]
  try rw [← hX]
  clear hw2 hX es
  refine (show Calls Try.prog 9 #[.pointer (some ⟨X, 0, none⟩), .agg #[.string { data := #[103] }, .int .i64 2, .slice (some ⟨X + 1, 0, none⟩) 2 2, .bool false, .int .i64 0]] w2 _ from tabW_put T2 e13a _ S2 (by simp [e13a]) full13a).mono ?_
  rintro e w3 ⟨rfl, T3⟩
  rw [put13a] at T3
  have T3 := Lib.hid T3
  clear T2 S2
  go_wp2_with fail
  refine (show Calls Try.prog 9 #[.pointer (some ⟨X, 0, none⟩), .agg #[.string { data := #[103] }, .int .i64 1, .slice none 0 0, .bool true, .int .i64 0]] w3 _ from tabW_put T3.out e13b _ ⟨none, 0, rfl, Nat.le_refl _, Nat.zero_le _, fun _ => rfl, Or.inl rfl⟩ (by simp [e13b]) full13b).mono ?_
  rintro e w4 ⟨rfl, T4⟩
  rw [put13b] at T4
  have T4 := Lib.hid T4
  clear T3
  go_wp2_with fail
  obtain ⟨R, hR, hT, hB⟩ := T4.out
  have CK := kids_at hT [103]
  rw [kids13] at CK
  refine (show Calls Try.prog _ #[.pointer (some ⟨X, 0, none⟩), .string { data := #[103] }] w4 _ from CK).mono ?_
  rintro e w5 ⟨v5, rfl, hE5, hb5⟩
  obtain ⟨a5, c5, rfl, _⟩ := hE5.slice
  have HE5 := Lib.hid hE5
  have T5 := Lib.hid (T4.out.later hb5)
  obtain ⟨b0, o0, fa0, fc0, rfl, _, z0, p0, p1, p2, p3, p4, pS⟩ := hE5.at 0 (by simp)
  obtain ⟨b1, o1, fa1, fc1, e1, _, z1, q0, q1, q2, q3, q4, qS⟩ := hE5.at 1 (by simp)
  injection e1 with e1
  injection e1 with e1 e2
  subst e1 e2
  have QS : Hid (SlS 0 [[97], [98]] w5 (.slice fa1 2 fc1)) := qS.slAt
  rw [show ([e13b, c13a] : List Ent).length = 2 from rfl]
  have r3 : w5.cell? ⟨b0, o0 + 3, none⟩ = some (.bool true) := by have := p3; simp only [Nat.zero_mul, Nat.add_zero] at this; exact this
  have r2 : w5.cell? ⟨b0, o0 + 5 + 2, none⟩ = some (.slice fa1 2 fc1) := by have := q2; simp only [Nat.one_mul] at this; exact this
  clear hE5 p0 p1 p2 p3 p4 q0 q1 q2 q3 q4 qS pS hT hB hb5 CK T4 T3
  go_wp2_with fail
  have hb6 : Below w5.heap.size w5 (w5.alloc (.cells #[.string { data := #[97] }, .string { data := #[98] }] 9)) := bel_alloc (Below.refl _ _) _
  have SN : SlS 0 [[97], [98]] (w5.alloc (.cells #[.string { data := #[97] }, .string { data := #[98] }] 9)) (.slice (some ⟨w5.heap.size, 0, none⟩) 2 2) :=
    (OwnS.of_row (own_lit w5 [sV [97], sV [98]] 9 0 _ 2 rfl rfl (Nat.zero_le _) (by simp [maxLen]))).slAt
  refine (texts_any _ _ _ [[97], [98]] [[97], [98]] (SlAt.below QS.out hb6) SN (by simp)).mono ?_
  rw [show decide (([[97], [98]] : List Str) = [[97], [98]]) = true from by simp]
  rintro e w7 ⟨rfl, hb7⟩
  have T7 := Lib.hid (T5.out.later (bel_below hb6 hb7))
  clear hb6 hb7 SN
  obtain ⟨R7, hR7, hT7, hB7⟩ := T7.out
  have CL := Lib.hid (len_at hT7)
  rw [show ([e13b, c13a] : List Ent).length = 2 from rfl] at CL
  have B7 := Lib.hid hB7
  clear r2 r3 hT7 hB7
  go_wp2_with fail
  refine CL.out.mono ?_
  rintro e w8 ⟨rfl, rfl⟩
  go_wp2_with fail
  go_ret
  exact ⟨rfl, B7.out⟩
end Go.Proofs.Ytacdgfkahppmdaa
