/-
  The members that live, in the order of their places. No program is named here.
-/
import Derived.Test.YtidlmlecgjoddaaGreatDoorChordN
import Derived.Test.YtidlmlecgjoddaaGreatDoorInsert
import Derived.Test.YtidlmlecgjoddaaGreatDoorRingB
namespace Go.Proofs.YtidlmlecgjoddaaGreatDoor
set_option linter.unusedVariables false
set_option linter.unusedSimpArgs false

/-- One more, at its place. -/
def insA (f : RS) (c : List Int) (n : Int) : List Int := putAt c (below (c.map (idR f)) (idR f n)) n
def ordF (f : RS) (l : List Int) : List Int := l.foldl (insA f) []
/-- Rising places. -/
def UpId (f : RS) (c : List Int) : Prop := Up (c.map (idR f))
theorem ordF_snoc (f : RS) (l : List Int) (n : Int) : ordF f (l ++ [n]) = insA f (ordF f l) n := by unfold ordF; rw [List.foldl_append]; rfl
theorem putAt_mem {l : List Int} {i : Nat} {x y : Int} : y ∈ putAt l i x ↔ y = x ∨ y ∈ l := by
  unfold putAt
  rw [List.mem_append, List.mem_cons]
  constructor
  · rintro (h | h | h)
    · exact Or.inr (List.mem_of_mem_take h)
    · exact Or.inl h
    · exact Or.inr (List.mem_of_mem_drop h)
  · rintro (h | h)
    · exact Or.inr (Or.inl h)
    · rw [← List.take_append_drop i l] at h
      rcases List.mem_append.1 h with h | h
      · exact Or.inl h
      · exact Or.inr (Or.inr h)
theorem below_le_len (c : List Int) (f : RS) (x : Int) : below (c.map (idR f)) x ≤ c.length := by have := below_le (c.map (idR f)) x; simpa using this
theorem ordG_len (f : RS) : ∀ (l c : List Int), (l.foldl (insA f) c).length = c.length + l.length
  | [], c => rfl
  | n :: l, c => by
    show (l.foldl (insA f) (insA f c n)).length = _
    rw [ordG_len f l]
    unfold insA
    rw [putAt_len _ _ _ (below_le_len _ _ _), List.length_cons]; omega
theorem ordF_len (f : RS) (l : List Int) : (ordF f l).length = l.length := by unfold ordF; rw [ordG_len]; simp
theorem ordG_mem (f : RS) (x : Int) : ∀ (l c : List Int), x ∈ l.foldl (insA f) c ↔ x ∈ c ∨ x ∈ l
  | [], c => by simp
  | n :: l, c => by
    show x ∈ l.foldl (insA f) (insA f c n) ↔ _
    rw [ordG_mem f x l]
    unfold insA
    rw [putAt_mem, List.mem_cons]
    constructor
    · rintro ((h | h) | h)
      · exact Or.inr (Or.inl h)
      · exact Or.inl h
      · exact Or.inr (Or.inr h)
    · rintro (h | h | h)
      · exact Or.inl (Or.inr h)
      · exact Or.inl (Or.inl h)
      · exact Or.inr h
theorem ordF_mem (f : RS) (x : Int) (l : List Int) : x ∈ ordF f l ↔ x ∈ l := by unfold ordF; rw [ordG_mem]; simp
/-- Of rising places those below one come first. -/
theorem below_split : ∀ {l : List Int} (h : Up l) (x : Int), (∀ y ∈ l.take (below l x), y < x) ∧ (∀ y ∈ l.drop (below l x), x ≤ y)
  | [], _, x => by simp [below]
  | z :: l, h, x => by
    have h' := List.pairwise_cons.1 h
    by_cases hz : z < x
    · have e : below (z :: l) x = below l x + 1 := by unfold below; rw [List.countP_cons_of_pos (by simpa using hz)]
      rw [e]
      obtain ⟨h1, h2⟩ := below_split h'.2 x
      refine ⟨fun y hy => ?_, fun y hy => h2 y hy⟩
      rcases List.mem_cons.1 hy with e2 | hy
      · rw [e2]; exact hz
      · exact h1 y hy
    · have e : below (z :: l) x = 0 := by
        unfold below
        rw [List.countP_eq_zero]
        intro y hy
        rcases List.mem_cons.1 hy with rfl | hy
        · simpa using hz
        · have := h'.1 y hy; simp; omega
      rw [e]
      refine ⟨fun y hy => by simp at hy, fun y hy => ?_⟩
      simp at hy
      rcases hy with rfl | hy
      · omega
      · have := h'.1 y hy; omega
theorem putAt_up {l : List Int} (h : Up l) {x : Int} (hx : x ∉ l) : Up (putAt l (below l x) x) := by
  obtain ⟨h1, h2⟩ := below_split h x
  unfold putAt
  refine List.pairwise_append.2 ⟨List.Pairwise.sublist (List.take_sublist _ _) h, List.pairwise_cons.2 ⟨fun y hy => ?_, List.Pairwise.sublist (List.drop_sublist _ _) h⟩, fun y hy z hz => ?_⟩
  · have := h2 y hy
    have : x ≠ y := by rintro rfl; exact hx (List.mem_of_mem_drop hy)
    omega
  · have := h1 y hy
    rcases List.mem_cons.1 hz with rfl | hz
    · exact this
    · have := h2 z hz; omega
theorem map_putAt (g : Int → Int) (l : List Int) (i : Nat) (x : Int) : (putAt l i x).map g = putAt (l.map g) i (g x) := by unfold putAt; simp
theorem ordG_up {f : RS} : ∀ (l c : List Int), UpId f c → (l.map (idR f)).Nodup → (∀ x ∈ c, ∀ y ∈ l, idR f x ≠ idR f y) → UpId f (l.foldl (insA f) c)
  | [], c, hc, _, _ => hc
  | n :: l, c, hc, hn, hd => by
    show UpId f (l.foldl (insA f) (insA f c n))
    have hn' := List.nodup_cons.1 hn
    refine ordG_up l _ ?_ hn'.2 fun x hx y hy => ?_
    · unfold UpId insA
      rw [map_putAt]
      refine putAt_up hc fun hm => ?_
      obtain ⟨y, hy, e⟩ := List.mem_map.1 hm
      exact hd y hy n (by simp) e
    · unfold insA at hx
      rcases putAt_mem.1 hx with rfl | hx
      · exact fun e => hn'.1 (by rw [e]; exact List.mem_map.2 ⟨y, hy, rfl⟩)
      · exact hd x hx y (List.mem_cons_of_mem _ hy)
theorem ordF_up {f : RS} (l : List Int) (h : (l.map (idR f)).Nodup) : UpId f (ordF f l) := ordG_up l [] List.Pairwise.nil h (fun x hx => by simp at hx)
/-- The circle. -/
def circ (f : RS) : List Int := ordF f (liveL f)
theorem liveL_nodup (f : RS) : (liveL f).Nodup := List.Pairwise.filter _ (by decide)
theorem live_ids_nodup {f : RS} (I : Inv f) (l : List Int) (hn : l.Nodup) (hl : ∀ x ∈ l, livesR f x = true) : (l.map (idR f)).Nodup := by
  refine List.pairwise_map.2 (List.Pairwise.imp_of_mem (fun {a b} ha hb hab e => hab (I.uniq a b (hl a ha) (hl b hb) e)) hn)
theorem circ_up {f : RS} (I : Inv f) : UpId f (circ f) := ordF_up _ (live_ids_nodup I _ (liveL_nodup f) fun x hx => (mem_liveL I.dom).1 hx)
theorem circ_mem {f : RS} (I : Inv f) {x : Int} : x ∈ circ f ↔ livesR f x = true := by unfold circ; rw [ordF_mem, mem_liveL I.dom]
theorem circ_len (f : RS) : (circ f).length = (liveL f).length := ordF_len f _
end Go.Proofs.YtidlmlecgjoddaaGreatDoor
