/-
  The stable sort by merging in place: the plain law. No walk stands here, and no program is named.
  Moves in order, moves in memory, and the plain law of the stable sort's walks. No walk stands here.
-/
import Derived.Test.YtahiahjhpakeiaaGreatDoorBase
import Derived.Test.YtahiahjhpakeiaaGreatDoorRdvM
import Derived.Test.YtahiahjhpakeiaaGreatDoorTabD
namespace Go.Proofs.YtahiahjhpakeiaaGreatDoor
open Go.RowKit
set_option linter.unusedVariables false
set_option linter.unusedSimpArgs false
set_option linter.unusedSectionVars false

section
variable {α : Type} [Inhabited α] (lt : α → α → Bool)
/-- The element at a place. -/
def elt (L : List α) (i : Nat) : α := L.getD i default
theorem elt_eq {L : List α} {i : Nat} (h : i < L.length) : elt L i = L[i] := by unfold elt; simp [h]
theorem elt_app_left {A B : List α} {i : Nat} (h : i < A.length) : elt (A ++ B) i = elt A i := by
  unfold elt; simp [List.getD_eq_getElem?_getD, List.getElem?_append_left h]
theorem elt_app_right {A B : List α} {i : Nat} (h : A.length ≤ i) : elt (A ++ B) i = elt B (i - A.length) := by
  unfold elt; simp [List.getD_eq_getElem?_getD, List.getElem?_append_right h]
theorem elt_mem {L : List α} {x : α} : x ∈ L ↔ ∃ i, i < L.length ∧ elt L i = x := by
  rw [List.mem_iff_getElem]
  constructor
  · rintro ⟨i, h, e⟩; exact ⟨i, h, by rw [elt_eq h]; exact e⟩
  · rintro ⟨i, h, e⟩; exact ⟨i, h, by rw [← elt_eq h]; exact e⟩
theorem elt_ext {A B : List α} (h : A.length = B.length) (h2 : ∀ i, i < A.length → elt A i = elt B i) : A = B :=
  List.ext_getElem h fun i h3 h4 => by rw [← elt_eq h3, ← elt_eq h4]; exact h2 i h3
/-- Two elements change places. -/
def swap2 (L : List α) (i j : Nat) : List α := (L.set i (elt L j)).set j (elt L i)
theorem swap2_len (L : List α) (i j : Nat) : (swap2 L i j).length = L.length := by simp [swap2]
theorem swap2_elt (L : List α) {i j : Nat} (hi : i < L.length) (hj : j < L.length) (k : Nat) : elt (swap2 L i j) k = if k = j then elt L i else if k = i then elt L j else elt L k := by
  unfold swap2 elt
  simp only [List.getD_eq_getElem?_getD, List.getElem?_set, List.length_set]
  by_cases h : j = k
  · subst h; simp [hj]
  · by_cases h2 : i = k
    · subst h2
      have h' : ¬ i = j := fun e => h e.symm
      simp [h, h', hi]
    · have h' : ¬ k = j := fun e => h e.symm
      have h2' : ¬ k = i := fun e => h2 e.symm
      simp [h, h2, h', h2']
/-- So many elements from a on change places with those from b on. -/
def swapR (L : List α) (a b : Nat) : Nat → List α
  | 0 => L
  | k + 1 => swap2 (swapR L a b k) (a + k) (b + k)
theorem swapR_len (L : List α) (a b : Nat) : ∀ n, (swapR L a b n).length = L.length
  | 0 => rfl
  | k + 1 => by show (swap2 _ _ _).length = _; rw [swap2_len, swapR_len L a b k]
theorem swapR_elt (L : List α) {a b : Nat} : ∀ (n : Nat), a + n ≤ b → b + n ≤ L.length → ∀ i, elt (swapR L a b n) i = if a ≤ i ∧ i < a + n then elt L (b + (i - a)) else if b ≤ i ∧ i < b + n then elt L (a + (i - b)) else elt L i
  | 0, _, _, i => by rw [if_neg (by omega), if_neg (by omega)]; rfl
  | n + 1, h1, h2, i => by
    have ih := swapR_elt L (a := a) (b := b) n (by omega) (by omega)
    have hl := swapR_len L a b n
    show elt (swap2 _ _ _) i = _
    rw [swap2_elt _ (by omega) (by omega), ih (a + n), ih (b + n), ih i]
    repeat' split
    all_goals first | (exfalso; omega) | rfl | (congr 1; omega)
/-- In parts. -/
theorem swapR_parts (P A M B S : List α) (hA : A.length = B.length) {a b n : Nat} (ha : a = P.length) (hb : b = P.length + A.length + M.length) (hn : n = A.length) :
    swapR (P ++ (A ++ (M ++ (B ++ S)))) a b n = P ++ (B ++ (M ++ (A ++ S))) := by
  subst ha hb hn
  refine elt_ext (by rw [swapR_len]; simp; omega) fun i hi => ?_
  rw [swapR_len] at hi
  simp only [List.length_append] at hi
  rw [swapR_elt _ _ (by omega) (by simp; omega)]
  have hcase : i < P.length ∨ (P.length ≤ i ∧ i < P.length + A.length) ∨ (P.length + A.length ≤ i ∧ i < P.length + A.length + M.length) ∨ (P.length + A.length + M.length ≤ i ∧ i < P.length + A.length + M.length + A.length) ∨ P.length + A.length + M.length + A.length ≤ i := by omega
  rcases hcase with c | c | c | c | c
  · rw [if_neg (by omega), if_neg (by omega), elt_app_left c, elt_app_left c]
  · rw [if_pos c, elt_app_right (A := P) (by omega), elt_app_right (A := A) (by omega), elt_app_right (A := M) (by omega), elt_app_left (A := B) (by omega)]
    rw [elt_app_right (A := P) (by omega), elt_app_left (A := B) (by omega)]
    congr 1; omega
  · rw [if_neg (by omega), if_neg (by omega), elt_app_right (A := P) (by omega), elt_app_right (A := A) (by omega), elt_app_left (A := M) (by omega)]
    rw [elt_app_right (A := P) (by omega), elt_app_right (A := B) (by omega), elt_app_left (A := M) (by omega)]
    congr 1; omega
  · rw [if_neg (by omega), if_pos c, elt_app_right (A := P) (by omega), elt_app_left (A := A) (by omega)]
    rw [elt_app_right (A := P) (by omega), elt_app_right (A := B) (by omega), elt_app_right (A := M) (by omega), elt_app_left (A := A) (by omega)]
    congr 1; omega
  · rw [if_neg (by omega), if_neg (by omega), elt_app_right (A := P) (by omega), elt_app_right (A := A) (by omega), elt_app_right (A := M) (by omega), elt_app_right (A := B) (by omega)]
    rw [elt_app_right (A := P) (by omega), elt_app_right (A := B) (by omega), elt_app_right (A := M) (by omega), elt_app_right (A := A) (by omega)]
    congr 1; omega
/-- In order: nothing stands behind what is greater. -/
def SortedB (L : List α) : Prop := L.Pairwise fun x y => lt y x = false
structure Ordered : Prop where
  trans : ∀ x y z, lt y x = false → lt z y = false → lt z x = false
  asym : ∀ x y, lt x y = true → lt y x = false
variable {lt} (O : Ordered lt)
include O
theorem Ordered.refl (x : α) : lt x x = false := by
  cases h : lt x x with
  | false => rfl
  | true => exact (O.asym x x h).symm.trans h |>.symm ▸ rfl
theorem SortedB.le {L : List α} (h : SortedB lt L) {i j : Nat} (hij : i ≤ j) (hj : j < L.length) : lt (elt L j) (elt L i) = false := by
  rcases Nat.lt_or_ge i j with h1 | h1
  · rw [elt_eq hj, elt_eq (by omega)]
    exact List.pairwise_iff_getElem.1 h i j (by omega) hj h1
  · obtain rfl : i = j := by omega
    exact O.refl _
/-- Two lists in order are cut so that all of the first parts come ahead of all of the second parts. -/
theorem cut_ahead {X Y : List α} (hX : SortedB lt X) (hY : SortedB lt Y) {s e : Nat} (hs : s ≤ X.length) (he : e ≤ Y.length)
    (c1 : s = 0 ∨ e = Y.length ∨ lt (elt Y e) (elt X (s - 1)) = false) (c2 : s = X.length ∨ e = 0 ∨ lt (elt Y (e - 1)) (elt X s) = true) :
    ∀ u ∈ X.take s ++ Y.take e, ∀ v ∈ X.drop s ++ Y.drop e, lt v u = false := by
  have tk : ∀ (L : List α) (n : Nat) (x : α), n ≤ L.length → x ∈ L.take n → ∃ i, i < n ∧ elt L i = x := fun L n x hn hx => by
    obtain ⟨i, hi, e⟩ := elt_mem.1 hx
    rw [List.length_take] at hi
    refine ⟨i, by omega, ?_⟩
    rw [← e, elt_eq (L := L.take n) (by rw [List.length_take]; exact hi), elt_eq (L := L) (by omega)]; simp
  have dr : ∀ (L : List α) (n : Nat) (x : α), x ∈ L.drop n → ∃ i, n ≤ i ∧ i < L.length ∧ elt L i = x := fun L n x hx => by
    obtain ⟨i, hi, e⟩ := elt_mem.1 hx
    rw [List.length_drop] at hi
    refine ⟨n + i, by omega, by omega, ?_⟩
    rw [← e, elt_eq (L := L.drop n) (by rw [List.length_drop]; exact hi), elt_eq (L := L) (by omega)]; simp
  intro u hu v hv
  rcases List.mem_append.1 hu with hu | hu <;> rcases List.mem_append.1 hv with hv | hv
  · obtain ⟨i, hi, rfl⟩ := tk X s u hs hu
    obtain ⟨j, hj, hj2, rfl⟩ := dr X s v hv
    exact hX.le O (by omega) hj2
  · obtain ⟨i, hi, rfl⟩ := tk X s u hs hu
    obtain ⟨j, hj, hj2, rfl⟩ := dr Y e v hv
    rcases c1 with h | h | h
    · omega
    · omega
    · exact O.trans _ _ _ (O.trans _ _ _ (hX.le O (i := i) (j := s - 1) (by omega) (by omega)) h) (hY.le O (i := e) (j := j) hj hj2)
  · obtain ⟨i, hi, rfl⟩ := tk Y e u he hu
    obtain ⟨j, hj, hj2, rfl⟩ := dr X s v hv
    rcases c2 with h | h | h
    · omega
    · omega
    · exact O.trans _ _ _ (O.trans _ _ _ (hY.le O (i := i) (j := e - 1) (by omega) (by omega)) (O.asym _ _ h)) (hX.le O (i := s) (j := j) hj hj2)
  · obtain ⟨i, hi, rfl⟩ := tk Y e u he hu
    obtain ⟨j, hj, hj2, rfl⟩ := dr Y e v hv
    exact hY.le O (by omega) hj2
omit O in
theorem SortedB.take {L : List α} (h : SortedB lt L) (n : Nat) : SortedB lt (L.take n) := List.Pairwise.sublist (List.take_sublist n L) h
omit O in
theorem SortedB.drop {L : List α} (h : SortedB lt L) (n : Nat) : SortedB lt (L.drop n) := List.Pairwise.sublist (List.drop_sublist n L) h
omit O in
/-- What is in order, twice, is in order, all of the first ahead of all of the second. -/
theorem merged {X Y Z1 Z2 : List α} {s e : Nat} (h1 : SortedB lt Z1) (h2 : SortedB lt Z2) (p1 : Z1.Perm (X.take s ++ Y.take e)) (p2 : Z2.Perm (X.drop s ++ Y.drop e))
    (h : ∀ u ∈ X.take s ++ Y.take e, ∀ v ∈ X.drop s ++ Y.drop e, lt v u = false) : SortedB lt (Z1 ++ Z2) ∧ (Z1 ++ Z2).Perm (X ++ Y) := by
  refine ⟨List.pairwise_append.2 ⟨h1, h2, fun u hu v hv => h u (p1.mem_iff.1 hu) v (p2.mem_iff.1 hv)⟩, ?_⟩
  refine (p1.append p2).trans ?_
  have e1 : X ++ Y = (X.take s ++ X.drop s) ++ (Y.take e ++ Y.drop e) := by rw [List.take_append_drop, List.take_append_drop]
  rw [e1, List.append_assoc, List.append_assoc]
  refine List.Perm.append_left _ ?_
  rw [← List.append_assoc, ← List.append_assoc]
  exact List.Perm.append_right _ List.perm_append_comm
/-- One element is put into what is in order. -/
theorem put_sorted {L : List α} (h : SortedB lt L) {x : α} {i : Nat} (hi : i ≤ L.length) (h1 : ∀ k, k < i → lt x (elt L k) = false) (h2 : ∀ k, i ≤ k → k < L.length → lt (elt L k) x = false) :
    SortedB lt (L.take i ++ x :: L.drop i) ∧ (L.take i ++ x :: L.drop i).Perm (x :: L) := by
  refine ⟨List.pairwise_append.2 ⟨h.take i, List.pairwise_cons.2 ⟨fun v hv => ?_, h.drop i⟩, fun u hu v hv => ?_⟩, ?_⟩
  · obtain ⟨j, hj, e⟩ := elt_mem.1 hv
    rw [List.length_drop] at hj
    have := h2 (i + j) (by omega) (by omega)
    rw [elt_eq (by omega)] at this
    rw [← e, elt_eq (by rw [List.length_drop]; exact hj)]
    simpa using this
  · obtain ⟨j, hj, e⟩ := elt_mem.1 hu
    rw [List.length_take] at hj
    have e' : elt L j = u := by rw [← e, elt_eq (by omega), elt_eq (by rw [List.length_take]; exact hj)]; simp
    rcases List.mem_cons.1 hv with rfl | hv
    · rw [← e']; exact h1 j (by omega)
    · obtain ⟨k, hk, e2⟩ := elt_mem.1 hv
      rw [List.length_drop] at hk
      have e3 : elt L (i + k) = v := by rw [← e2, elt_eq (by omega), elt_eq (by rw [List.length_drop]; exact hk)]; simp
      rw [← e', ← e3]
      exact h.le O (by omega) (by omega)
  · refine List.perm_middle.trans ?_
    rw [List.take_append_drop]
omit O in
/-- Who moves one place up. -/
theorem swap_step (P Y1 Y2 S : List α) (x y : α) {a : Nat} (ha : a = P.length + Y1.length) : swap2 (P ++ (Y1 ++ x :: (y :: Y2 ++ S))) a (a + 1) = P ++ ((Y1 ++ [y]) ++ x :: (Y2 ++ S)) := by
  subst ha
  have := swapR_parts (P ++ Y1) [x] [] [y] (Y2 ++ S) rfl (a := P.length + Y1.length) (b := P.length + Y1.length + 1) (n := 1) (by simp) (by simp) rfl
  simpa [swapR] using this
end
end Go.Proofs.YtahiahjhpakeiaaGreatDoor
namespace Go.Proofs.YtahiahjhpakeiaaGreatDoor
open Go.RowKit Go.Maps Go.Sort
set_option linter.unusedVariables false
set_option linter.unusedSimpArgs false
set_option linter.unusedSectionVars false

/-- Ahead of: by groups, then by whom it goes to. -/
def mlt (a b : Mv) : Bool := decide (klt a.g a.to b.g b.to)
theorem mlt_ord : Ordered mlt where
  trans := fun x y z h k => by
    simp only [mlt, decide_eq_false_iff_not] at *
    intro hz
    rcases klt_tri y.g y.to x.g x.to with a | a | a
    · exact h a
    · rw [a.1, a.2] at k; exact k hz
    · exact k (klt_trans hz a)
  asym := fun x y h => by
    simp only [mlt, decide_eq_true_eq, decide_eq_false_iff_not] at *; exact klt_asymm h
theorem mlt_cmp (a b : Mv) : mlt a b = decide (cmpK a.g a.to b.g b.to < 0) := by
  unfold mlt
  rw [Bool.eq_iff_iff, decide_eq_true_eq, decide_eq_true_eq]
  exact cmpK_lt.symm
/-- In a strict order. -/
def OrdM (l : List Mv) : Prop := l.Pairwise fun a b => klt a.g a.to b.g b.to
theorem ordM_uniq {a b : List Mv} (ha : OrdM a) (hb : OrdM b) (h : ∀ x, x ∈ a ↔ x ∈ b) : a = b := pw_uniq (fun _ _ h => klt_asymm h) ha hb h
/-- What is in order, and each once by its key, is in a strict order. -/
theorem ordM_of {l : List Mv} (h : SortedB mlt l) (hk : (l.map fun m => (m.g, m.to)).Nodup) : OrdM l := by
  have h2 : l.Pairwise fun a b => (a.g, a.to) ≠ (b.g, b.to) := List.pairwise_map.1 hk
  refine (h.and h2).imp fun {a b} hab => ?_
  obtain ⟨h3, h4⟩ := hab
  simp only [mlt, decide_eq_false_iff_not] at h3
  rcases klt_tri a.g a.to b.g b.to with q | q | q
  · exact q
  · exact absurd (Prod.ext q.1 q.2) h4
  · exact absurd q h3
/-- Two lists of the same moves, both in order, each move once by its key. -/
theorem sortM_eq {a b : List Mv} (ha : SortedB mlt a) (p : a.Perm b) (hb : OrdM b) : a = b := by
  have hk : (b.map fun m => (m.g, m.to)).Nodup := List.pairwise_map.2 (hb.imp fun {x y} h e => by
    have e1 := congrArg Prod.fst e
    have e2 := congrArg Prod.snd e
    dsimp only at e1 e2
    rw [e1, e2] at h
    exact klt_irrefl _ _ h)
  exact ordM_uniq (ordM_of ha ((p.map _).nodup_iff.2 hk)) hb fun x => p.mem_iff

/-! ### In memory -/
def mvCells (m : Mv) : List Value := [sV m.g, .int .i64 m.fr, .int .i64 m.to]
structure MvC (w : World) (b o : Nat) (m : Mv) : Prop where
  c0 : w.cell? ⟨b, o, none⟩ = some (.string (bs m.g))
  c1 : w.cell? ⟨b, o + 1, none⟩ = some (.int .i64 m.fr)
  c2 : w.cell? ⟨b, o + 2, none⟩ = some (.int .i64 m.to)
theorem MvC.same {w w' : World} {b o : Nat} {m : Mv} (h : MvC w b o m) (hb : w'.heap[b]? = w.heap[b]?) : MvC w' b o m :=
  ⟨(World.cell?_of_block hb).trans h.c0, (World.cell?_of_block hb).trans h.c1, (World.cell?_of_block hb).trans h.c2⟩
/-- Some moves at the head of a block. -/
structure MvIn (w : World) (q : Nat) (l : List Mv) : Prop where
  all : ∀ k, k < l.length → MvC w q (k * 3) (elt l k)
  fz : ∀ o, w.frozen? ⟨q, o, none⟩ = false
  lt : q < w.heap.size
theorem MvIn.same {w w' : World} {q : Nat} {l : List Mv} (h : MvIn w q l) (hs : w.heap.size ≤ w'.heap.size) (hb : w'.heap[q]? = w.heap[q]?) : MvIn w' q l :=
  ⟨fun k hk => (h.all k hk).same hb, fun o => (World.frozen?_of_block hb).trans (h.fz o), Nat.lt_of_lt_of_le h.lt hs⟩
theorem MvIn.below {w w' : World} {q : Nat} {l : List Mv} (h : MvIn w q l) (hb : Below w.heap.size w w') : MvIn w' q l := h.same hb.size (hb.block _ h.lt)
theorem MvIn.kept {S : Nat → Prop} {w w' : World} {q : Nat} {l : List Mv} (h : MvIn w q l) (hk : Kept S w w') (hS : ¬ S q) : MvIn w' q l := h.same hk.size (hk.block _ h.lt hS)
theorem elt_set {l : List Mv} {i : Nat} (hi : i < l.length) (m : Mv) (k : Nat) : elt (l.set i m) k = if k = i then m else elt l k := by
  unfold elt
  simp only [List.getD_eq_getElem?_getD, List.getElem?_set]
  by_cases h : i = k
  · subst h; simp [hi]
  · have : ¬ k = i := fun e => h e.symm
    simp [h, this]
theorem MvIn.set {w : World} {q : Nat} {l : List Mv} (h : MvIn w q l) {i : Nat} (hi : i < l.length) (m : Mv) : MvIn (w.setCells q (i * 3) (mvCells m)) q (l.set i m) where
  all := fun k hk => by
    rw [List.length_set] at hk
    rw [elt_set hi]
    have hs : ∀ j, j < (mvCells m).length → (w.cell? ⟨q, i * 3 + j, none⟩).isSome = true := fun j hj => by
      have hj3 : j < 3 := hj
      have a := h.all i hi
      have : j = 0 ∨ j = 1 ∨ j = 2 := by omega
      rcases this with rfl | rfl | rfl
      · rw [Nat.add_zero, a.c0]; rfl
      · rw [a.c1]; rfl
      · rw [a.c2]; rfl
    by_cases e : k = i
    · subst e
      rw [if_pos rfl]
      have z := World.cell?_setCells_in q (mvCells m) (k * 3) w hs
      exact ⟨z 0 (by show 0 < 3; omega), z 1 (by show 1 < 3; omega), z 2 (by show 2 < 3; omega)⟩
    · rw [if_neg e]
      have a := h.all k hk
      have z : ∀ j, j < 3 → (w.setCells q (i * 3) (mvCells m)).cell? ⟨q, k * 3 + j, none⟩ = w.cell? ⟨q, k * 3 + j, none⟩ := fun j hj =>
        World.cell?_setCells_out q _ _ _ _ (fun _ _ => by show k * 3 + j < i * 3 ∨ i * 3 + 3 ≤ k * 3 + j; omega)
      exact ⟨(z 0 (by omega)).trans a.c0, (z 1 (by omega)).trans a.c1, (z 2 (by omega)).trans a.c2⟩
  fz := fun o => by rw [World.frozen?_setCells]; exact h.fz o
  lt := by rw [size_setCells_e]; exact h.lt
/-- Two moves change places. -/
theorem MvIn.swap {w : World} {q : Nat} {l : List Mv} (h : MvIn w q l) {i j : Nat} (hi : i < l.length) (hj : j < l.length) :
    MvIn ((w.setCells q (i * 3) (mvCells (elt l j))).setCells q (j * 3) (mvCells (elt l i))) q (swap2 l i j) :=
  (h.set hi (elt l j)).set (by rw [List.length_set]; exact hj) (elt l i)
theorem kept_swap {S : Nat → Prop} {q : Nat} (w : World) (a b : Nat) (x y : List Value) (hS : S q) : Kept S w ((w.setCells q a x).setCells q b y) :=
  (kept_setCells q a x w hS).trans (kept_setCells q b y _ hS)
theorem MvIn.drew {w : World} {q : Nat} {l : List Mv} (h : MvIn w q l) : MvIn w.drew q l := h.same (Nat.le_refl _) rfl
theorem mv_one (m : Mv) : ∀ v ∈ mvCells m, v.oneCell' = true := by
  intro v hv
  simp only [mvCells, List.mem_cons, List.not_mem_nil, or_false] at hv
  rcases hv with rfl | rfl | rfl <;> rfl
theorem MvIn.cellj {w : World} {q : Nat} {l : List Mv} (h : MvIn w q l) {k : Nat} (hk : k < l.length) (j : Nat) (v : Value) (hv : (mvCells (elt l k))[j]? = some v) : w.cell? ⟨q, k * 3 + j, none⟩ = some v := by
  have a := h.all k hk
  have hj : j < 3 := (List.getElem?_eq_some_iff.1 hv).1
  have : j = 0 ∨ j = 1 ∨ j = 2 := by omega
  rcases this with rfl | rfl | rfl
  · exact a.c0.trans hv
  · exact a.c1.trans hv
  · exact a.c2.trans hv
/-- A move read. -/
theorem MvIn.ld {P : Program} {w : World} {q : Nat} {l : List Mv} (h : MvIn w q l) {k : Nat} (hk : k < l.length) : Sem.run P (loadCellsFrom ⟨q, k * 3, none⟩ 0 3 #[]) w = .ok (mvCells (elt l k)).toArray w := by
  have := run_loadCells_list (P := P) w ⟨q, k * 3, none⟩ (mvCells (elt l k)) (fun j v hv => by rw [add_spot _ _ rfl]; exact h.cellj hk j v hv)
  have e : (mvCells (elt l k)).length = 3 := rfl
  rw [e] at this
  simpa [loadCells] using this
/-- A move written. -/
theorem MvIn.st {P : Program} {w : World} {q : Nat} {l : List Mv} (h : MvIn w q l) {k : Nat} (hk : k < l.length) (m : Mv) : Sem.run P (storeCells ⟨q, k * 3, none⟩ (mvCells m) 0) w = .ok () (w.setCells q (k * 3) (mvCells m)) := by
  have := run_storeCells_cells (P := P) q (k * 3) (mvCells m) 0 w (fun j hj => by
    have hj3 : j < (mvCells (elt l k)).length := hj
    rw [Nat.add_zero, h.cellj hk j _ (List.getElem?_eq_getElem hj3)]; rfl) (fun j hj => h.fz _) (mv_one m)
  rwa [Nat.add_zero] at this

/-! ### Lists in parts -/
section
variable {α : Type} [Inhabited α] {lt : α → α → Bool}
theorem elt_mid {P S : List α} {x : α} : elt (P ++ (x :: S)) P.length = x := by
  rw [elt_app_right (Nat.le_refl _), Nat.sub_self]; rfl
theorem elt_in {P X S : List α} {k : Nat} (hk : k < X.length) : elt (P ++ (X ++ S)) (P.length + k) = elt X k := by
  rw [elt_app_right (by omega), Nat.add_sub_cancel_left, elt_app_left hk]
theorem elt_in2 {P X Y S : List α} {k : Nat} (hk : k < Y.length) : elt (P ++ (X ++ (Y ++ S))) (P.length + X.length + k) = elt Y k := by
  have := elt_in (P := P ++ X) (X := Y) (S := S) hk
  rwa [List.append_assoc, List.length_append] at this
theorem elt_take {L : List α} {n k : Nat} (hk : k < n) (hn : n ≤ L.length) : elt (L.take n) k = elt L k := by
  rw [elt_eq (by rw [List.length_take]; omega), elt_eq (by omega)]; simp
theorem elt_drop {L : List α} {n k : Nat} (hk : n + k < L.length) : elt (L.drop n) k = elt L (n + k) := by
  rw [elt_eq (by rw [List.length_drop]; omega), elt_eq hk]; simp
theorem take_snoc {L : List α} {n : Nat} (hn : n < L.length) : L.take (n + 1) = L.take n ++ [elt L n] := by
  rw [List.take_succ_eq_append_getElem hn, elt_eq hn]
theorem drop_head {L : List α} {n : Nat} (hn : n < L.length) : L.drop n = elt L n :: L.drop (n + 1) := by
  rw [elt_eq hn]; exact List.drop_eq_getElem_cons hn
theorem swap2_comm (L : List α) {i j : Nat} (hi : i < L.length) (hj : j < L.length) : swap2 L i j = swap2 L j i :=
  elt_ext (by rw [swap2_len, swap2_len]) fun k hk => by
    rw [swap2_elt _ hi hj, swap2_elt _ hj hi]
    by_cases h1 : k = j
    · by_cases h2 : k = i
      · rw [if_pos h1, if_pos h2, ← h1, ← h2]
      · rw [if_pos h1, if_neg h2, if_pos h1]
    · rw [if_neg h1]
      by_cases h2 : k = i
      · rw [if_pos h2, if_pos h2]
      · rw [if_neg h2, if_neg h2, if_neg h1]
theorem swap2_mid (P S : List α) (x y : α) : swap2 (P ++ (x :: y :: S)) P.length (P.length + 1) = P ++ (y :: x :: S) := by
  have := swap_step P [] [] S x y (a := P.length) (by simp)
  simpa using this
theorem swap2_mid' (P S : List α) (x y : α) : swap2 (P ++ (x :: y :: S)) (P.length + 1) P.length = P ++ (y :: x :: S) := by
  rw [swap2_comm _ (by simp) (by simp)]; exact swap2_mid P S x y
/-- What is nothing else put ahead or behind. -/
theorem sorted_nil : SortedB lt ([] : List α) := List.Pairwise.nil
theorem sorted_one (x : α) : SortedB lt [x] := List.pairwise_singleton _ _
end
end Go.Proofs.YtahiahjhpakeiaaGreatDoor
