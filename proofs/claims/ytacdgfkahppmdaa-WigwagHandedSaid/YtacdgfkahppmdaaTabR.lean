
/-
  Several tables of the call's own, and other blocks that they leave alone; entries that are put back.
-/
import Derived.Test.YtacdgfkahppmdaaTabK
namespace Go.Proofs.Ytacdgfkahppmdaa
open Go.RowKit Go.Maps Go.Sort Go.WideShapes Go.ChangeShapes Go.Deep
set_option linter.unusedVariables false
set_option linter.unusedSimpArgs false

theorem sub_put {L l xs : List Ent} (hL : OrdE L) (hl : OrdE l) (h1 : ∀ e ∈ l, e ∈ L) (h2 : ∀ e ∈ xs, e ∈ L) (hc : ∀ e ∈ L, cleanE e = e) (e : Ent) : e ∈ putsE l xs ↔ e ∈ l ∨ e ∈ xs := by
  induction xs generalizing l with
  | nil => simp [putsE]
  | cons x xs ih =>
    have hx : x ∈ L := h2 x (by simp)
    have hcx := hc x hx
    have hone : ∀ e ∈ L, e.g = x.g ∧ e.c = x.c → e = x := fun e he hk => by
      obtain ⟨i, hi, rfl⟩ := List.getElem_of_mem he
      obtain ⟨j, hj, rfl⟩ := List.getElem_of_mem hx
      rcases Nat.lt_trichotomy i j with h | h | h
      · have := List.pairwise_iff_getElem.1 hL i j hi hj h
        rw [hk.1, hk.2] at this; exact absurd this (klt_irrefl _ _)
      · subst h; rfl
      · have := List.pairwise_iff_getElem.1 hL j i hj hi h
        rw [hk.1, hk.2] at this; exact absurd this (klt_irrefl _ _)
    have hm : ∀ e, e ∈ putE l x ↔ e ∈ l ∨ e = x := fun e => by
      rw [mem_putE hl]
      constructor
      · rintro (h | ⟨h, _⟩)
        · exact Or.inr h
        · exact Or.inl h
      · rintro (h | h)
        · by_cases hk : e.g = x.g ∧ e.c = x.c
          · exact Or.inl (hone e (h1 e h) hk)
          · exact Or.inr ⟨h, hk⟩
        · exact Or.inl h
    have := ih (ord_putE hl x) (fun e he => by
      rcases (hm e).1 he with h | h
      · exact h1 e h
      · rw [h]; exact hx) (fun e he => h2 e (List.mem_cons_of_mem _ he))
    unfold putsE at this ⊢
    rw [List.foldl_cons, hcx, this, hm]
    simp
    constructor
    · rintro ((h | h) | h)
      · exact Or.inl h
      · exact Or.inr (Or.inl h)
      · exact Or.inr (Or.inr h)
    · rintro (h | h | h)
      · exact Or.inl (Or.inl h)
      · exact Or.inl (Or.inr h)
      · exact Or.inr h
/-- What left is put back. -/
theorem put_back {L : List Ent} (hL : OrdE L) (hc : ∀ e ∈ L, cleanE e = e) (q r : Ent → Bool) : putsE (L.filter q) (L.filter r) = L.filter fun e => q e || r e := by
  refine ordE_uniq (ord_putsE (hL.sublist List.filter_sublist) _) (hL.sublist List.filter_sublist) fun e => ?_
  rw [sub_put hL (hL.sublist List.filter_sublist) (fun e h => (List.mem_filter.1 h).1) (fun e h => (List.mem_filter.1 h).1) hc, List.mem_filter, List.mem_filter, List.mem_filter, Bool.or_eq_true]
  constructor
  · rintro (⟨h, k⟩ | ⟨h, k⟩)
    · exact ⟨h, Or.inl k⟩
    · exact ⟨h, Or.inr k⟩
  · rintro ⟨h, k | k⟩
    · exact Or.inl ⟨h, k⟩
    · exact Or.inr ⟨h, k⟩
theorem map_clean {L : List Ent} (hc : ∀ e ∈ L, cleanE e = e) (p : Ent → Bool) : (L.filter p).map cleanE = L.filter p := by
  have : ∀ e ∈ L.filter p, cleanE e = e := fun e h => hc e (List.mem_filter.1 h).1
  generalize L.filter p = M at this
  induction M with
  | nil => rfl
  | cons x M ih => rw [List.map_cons, this x (by simp), ih fun e h => this e (List.mem_cons_of_mem _ h)]
/-- Some tables of the call's own, one behind the other; blocks of D are none of theirs. -/
def Fam (D : Nat → Prop) (W w : World) (X : Nat) (ls : List (List Ent)) : Prop :=
  ∃ R : Nat → Nat → Prop, (∀ i l, ls[i]? = some l → (∀ b, R i b → W.heap.size ≤ b) ∧ TabAt 30 (R i) w (X + i) l) ∧ (∀ i b, R i b → b < w.heap.size) ∧ (∀ i j b, i ≠ j → R i b → ¬ R j b) ∧ Below W.heap.size W w ∧ ∀ b, D b → b < w.heap.size ∧ ∀ i, ¬ R i b
section
variable {D : Nat → Prop} {W w w' : World} {X : Nat} {ls : List (List Ent)}
theorem Fam.bel (h : Fam D W w X ls) : Below W.heap.size W w := by obtain ⟨R, _, _, _, h, _⟩ := h; exact h
/-- Nothing that was there has turned; what is new is nobody's. -/
theorem Fam.later (h : Fam D W w X ls) (hb : Below w.heap.size w w') : Fam (fun b => D b ∨ (w.heap.size ≤ b ∧ b < w'.heap.size)) W w' X ls := by
  obtain ⟨R, h1, h0, h2, h3, h4⟩ := h
  refine ⟨R, fun i l hi => ⟨(h1 i l hi).1, (h1 i l hi).2.below hb⟩, fun i b hR => Nat.lt_of_lt_of_le (h0 i b hR) hb.size, h2, bel_below h3 hb, fun b hD => ?_⟩
  rcases hD with hD | ⟨hD, hD2⟩
  · exact ⟨Nat.lt_of_lt_of_le (h4 b hD).1 hb.size, (h4 b hD).2⟩
  · exact ⟨hD2, fun i hR => by have := h0 i b hR; omega⟩
theorem Fam.less {D' : Nat → Prop} (h : Fam D W w X ls) (hD : ∀ b, D' b → D b) : Fam D' W w X ls := by
  obtain ⟨R, h1, h0, h2, h3, h4⟩ := h
  exact ⟨R, h1, h0, h2, h3, fun b hb => h4 b (hD b hb)⟩
/-- Others' blocks, and new ones, have turned. -/
theorem Fam.other {S : Nat → Prop} (h : Fam D W w X ls) (hk : Kept S w w') (hS : ∀ b, S b → b < w.heap.size → D b) (hW : ∀ b, S b → W.heap.size ≤ b) : Fam (fun b => D b ∨ (w.heap.size ≤ b ∧ b < w'.heap.size)) W w' X ls := by
  obtain ⟨R, h1, h0, h2, h3, h4⟩ := h
  refine ⟨R, fun i l hi => ⟨(h1 i l hi).1, (h1 i l hi).2.kept hk fun b hR hs => (h4 b (hS b hs (h0 i b hR))).2 i hR⟩, fun i b hR => Nat.lt_of_lt_of_le (h0 i b hR) hk.size, h2, h3.trans (hk.toBelow h3.size fun b hb hs => by have := hW b hs; omega), fun b hD => ?_⟩
  rcases hD with hD | ⟨hD, hD2⟩
  · exact ⟨Nat.lt_of_lt_of_le (h4 b hD).1 hk.size, (h4 b hD).2⟩
  · exact ⟨hD2, fun i hR => by have := h0 i b hR; omega⟩
theorem Fam.nil (W : World) (X : Nat) : Fam (fun _ => False) W W X [] :=
  ⟨fun _ _ => False, (fun i l h => by simp at h), (fun i b h => h.elim), (fun i j b _ h => h.elim), Below.refl _ _, fun b h => h.elim⟩
/-- One table more. -/
theorem Fam.snoc (h : Fam D W w X ls) (hX : w.heap.size = X + ls.length) : Fam D W (w.alloc (.cells #[.slice none 0 0] 24)) X (ls ++ [[]]) := by
  obtain ⟨R, h1, h0, h2, h3, h4⟩ := h
  have hb : Below w.heap.size w (w.alloc (.cells #[.slice none 0 0] 24)) := bel_alloc (Below.refl _ _) _
  have hz : (w.alloc (.cells #[.slice none 0 0] 24)).heap.size = w.heap.size + 1 := by simp
  refine ⟨fun i => if i = ls.length then fun b => b = w.heap.size else R i, fun i l hi => ?_, fun i b hR => ?_, fun i j b hij hR hR2 => ?_, bel_below h3 hb, fun b hD => ⟨by rw [hz]; have := (h4 b hD).1; omega, fun i hR => ?_⟩⟩
  · by_cases e : i = ls.length
    · subst e
      simp at hi
      subst hi
      dsimp only
      rw [if_pos rfl]
      refine ⟨fun b hb => by subst hb; exact h3.size, ?_⟩
      have := tab_new (e := 30) (w := w.alloc (.cells #[.slice none 0 0] 24)) (tb := w.heap.size) (by simp [go_sem]) (by simp [go_sem]) (by simp)
      rw [hX] at this ⊢
      exact this
    · dsimp only
      rw [if_neg e]
      have hlt : i < ls.length := by
        have := (List.getElem?_eq_some_iff.1 hi).1
        simp at this; omega
      rw [List.getElem?_append_left hlt] at hi
      exact ⟨(h1 i l hi).1, (h1 i l hi).2.below hb⟩
  · dsimp only at hR
    split at hR
    · rw [hz]; omega
    · rw [hz]; have := h0 i b hR; omega
  · dsimp only at hR hR2
    split at hR <;> split at hR2
    · omega
    · have := h0 j b hR2; omega
    · have := h0 i b hR; omega
    · exact h2 i j b hij hR hR2
  · dsimp only at hR
    split at hR
    · have := (h4 b hD).1; omega
    · exact (h4 b hD).2 i hR
/-- One table turns. -/
theorem fam_turn {R : Nat → Nat → Prop} (h1 : ∀ i l, ls[i]? = some l → (∀ b, R i b → W.heap.size ≤ b) ∧ TabAt 30 (R i) w (X + i) l) (h0 : ∀ i b, R i b → b < w.heap.size) (h2 : ∀ i j b, i ≠ j → R i b → ¬ R j b) (h3 : Below W.heap.size W w)
    (h4 : ∀ b, D b → b < w.heap.size ∧ ∀ i, ¬ R i b) {i : Nat} {l l' : List Ent} (hi : ls[i]? = some l) (hpost : ∃ R', (∀ b, R' b → R i b ∨ w.heap.size ≤ b) ∧ TabAt 30 R' w' (X + i) l') (hk : Kept (R i) w w') :
    Fam D W w' X (ls.set i l') ∧ Kept (fun b => ¬ D b) w w' := by
  obtain ⟨R', q1, q2⟩ := hpost
  have hlt : i < ls.length := (List.getElem?_eq_some_iff.1 hi).1
  refine ⟨⟨fun j => if j = i then R' else R j, fun j m hj => ?_, fun j b hR => ?_, fun j k b hjk hR hR2 => ?_, h3.trans (hk.toBelow h3.size fun b hb hR => by have := (h1 i l hi).1 b hR; omega), fun b hD => ⟨Nat.lt_of_lt_of_le (h4 b hD).1 hk.size, fun j hR => ?_⟩⟩, hk.more fun b hR hD => (h4 b hD).2 i hR⟩
  · by_cases e : j = i
    · subst e
      dsimp only
      rw [if_pos rfl]
      rw [List.getElem?_set_self hlt] at hj
      injection hj with hj
      subst hj
      refine ⟨fun b hb => ?_, q2⟩
      rcases q1 b hb with h | h
      · exact (h1 j l hi).1 b h
      · exact Nat.le_trans h3.size h
    · dsimp only
      rw [if_neg e]
      rw [List.getElem?_set_ne (Ne.symm e)] at hj
      exact ⟨(h1 j m hj).1, (h1 j m hj).2.kept hk fun b hR hR2 => h2 j i b e hR hR2⟩
  · dsimp only at hR
    split at hR
    · exact q2.old b hR
    · exact Nat.lt_of_lt_of_le (h0 j b hR) hk.size
  · dsimp only at hR hR2
    split at hR <;> split at hR2
    · omega
    · rename_i e1 e2
      rcases q1 b hR with h | h
      · exact h2 i k b (Ne.symm e2) h hR2
      · have := h0 k b hR2; omega
    · rename_i e1 e2
      rcases q1 b hR2 with h | h
      · exact h2 j i b e1 hR h
      · have := h0 j b hR; omega
    · exact h2 j k b hjk hR hR2
  · dsimp only at hR
    split at hR
    · rcases q1 b hR with h | h
      · exact (h4 b hD).2 i h
      · have := (h4 b hD).1; omega
    · exact (h4 b hD).2 j hR
theorem Fam.put (h : Fam D W w X ls) {i : Nat} {l : List Ent} (hi : ls[i]? = some l) (x : Ent) (fv : Value) (hf : SlS 0 x.fs w fv) (hl : x.fs.length ≤ 1000000) (hn : fullB l x = false) :
    Calls Try.prog 9 #[.pointer (some ⟨X + i, 0, none⟩), EntV x fv] w fun e w' => e = .returned .nilIface ∧ Fam D W w' X (ls.set i (putE l (cleanE x))) ∧ Kept (fun b => ¬ D b) w w' := by
  obtain ⟨R, h1, h0, h2, h3, h4⟩ := h
  refine (put_ok (h1 i l hi).2 x fv hf hl hn).mono ?_
  rintro e w' ⟨rfl, hR', hk⟩
  exact ⟨rfl, fam_turn h1 h0 h2 h3 h4 hi hR' hk⟩
/-- What moves out is nobody's. -/
theorem Fam.move (h : Fam D W w X ls) {i : Nat} {l : List Ent} (hi : ls[i]? = some l) (hs : ∀ e ∈ l, e.g.length ≤ 1000000) (x y : Int) :
    Calls Try.prog 15 #[.pointer (some ⟨X + i, 0, none⟩), .int .u64 x, .int .u64 y] w fun e w' => ∃ v, e = .returned v ∧ EntsIn (fun b => w.heap.size ≤ b ∧ b < w'.heap.size) ((l.filter (inE x y)).map cleanE) w' v ∧
      Fam (fun b => D b ∨ (w.heap.size ≤ b ∧ b < w'.heap.size)) W w' X (ls.set i (stayE (inE x y) l)) ∧ Kept (fun b => ¬ D b) w w' := by
  obtain ⟨R, h1, h0, h2, h3, h4⟩ := h
  refine (move_at (h1 i l hi).2 hs x y).mono ?_
  rintro e w' ⟨v, rfl, hE, hT, hk⟩
  have hlt : i < ls.length := (List.getElem?_eq_some_iff.1 hi).1
  refine ⟨v, rfl, hE.imp (fun b hb hq => ⟨hq, hb⟩) (Nat.le_refl _) (fun _ _ _ => rfl), ⟨R, fun j m hj => ?_, fun j b hR => Nat.lt_of_lt_of_le (h0 j b hR) hk.size, h2, h3.trans (hk.toBelow h3.size fun b hb hR => by have := (h1 i l hi).1 b hR; omega), fun b hD => ?_⟩, hk.more fun b hR hD => (h4 b hD).2 i hR⟩
  · by_cases e : j = i
    · subst e
      rw [List.getElem?_set_self hlt] at hj
      injection hj with hj
      subst hj
      exact ⟨(h1 j l hi).1, hT⟩
    · rw [List.getElem?_set_ne (Ne.symm e)] at hj
      exact ⟨(h1 j m hj).1, (h1 j m hj).2.kept hk fun b hR hR2 => h2 j i b e hR hR2⟩
  · rcases hD with hD | ⟨hD, hD2⟩
    · exact ⟨Nat.lt_of_lt_of_le (h4 b hD).1 hk.size, (h4 b hD).2⟩
    · exact ⟨hD2, fun j hR => by have := h0 j b hR; omega⟩
theorem Fam.len (h : Fam D W w X ls) {i : Nat} {l : List Ent} (hi : ls[i]? = some l) : Calls Try.prog 14 #[.pointer (some ⟨X + i, 0, none⟩)] w fun e w' => e = .returned (.int .i64 l.length) ∧ w = w' := by
  obtain ⟨R, h1, _⟩ := h; exact len_at (h1 i l hi).2
theorem Fam.kids (h : Fam D W w X ls) {i : Nat} {l : List Ent} (hi : ls[i]? = some l) (g : Str) : Calls Try.prog 11 #[.pointer (some ⟨X + i, 0, none⟩), .string (bs g)] w (NewEnts w (kidsE l g)) := by
  obtain ⟨R, h1, _⟩ := h; exact kids_at (h1 i l hi).2 g
theorem Fam.groups (h : Fam D W w X ls) {i : Nat} {l : List Ent} (hi : ls[i]? = some l) : Calls Try.prog 16 #[.pointer (some ⟨X + i, 0, none⟩)] w (NewTexts w (groupsE l)) := by
  obtain ⟨R, h1, _⟩ := h; exact groups_at (h1 i l hi).2
end
end Go.Proofs.Ytacdgfkahppmdaa
