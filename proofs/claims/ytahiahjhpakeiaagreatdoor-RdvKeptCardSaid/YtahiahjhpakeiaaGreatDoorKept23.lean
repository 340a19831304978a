/-
  The stable sort by merging in place: the plain law. No walk stands here, and no program is named. Moves in order, moves in memory, and the plain law of the stable sort's walks. No walk stands here. A ring, the tables of members, and what else a statement holds, side by side in memory. Who went since a plan. No walk stands here.
-/
import Derived.Test.YtahiahjhpakeiaaGreatDoorKept1
import Derived.Test.YtahiahjhpakeiaaGreatDoorKept12
import Derived.Test.YtahiahjhpakeiaaGreatDoorKept15
import Derived.Test.YtahiahjhpakeiaaGreatDoorKept19
import Derived.Test.YtahiahjhpakeiaaGreatDoorKept21
section
namespace Go.Proofs.YtahiahjhpakeiaaGreatDoor
open Go.RowKit
set_option linter.unusedVariables false
set_option linter.unusedSimpArgs false
set_option linter.unusedSectionVars false

section
variable {α : Type} [Inhabited α] (lt : α → α → Bool)
/-- The element at a place. -/
def elt (L : List α) (i : Nat) : α := L.getD i default
theorem elt_eq {L : List α} {i : Nat} (h : i < L.length) : elt L i = L[i] := by unfold elt; simp [h]
theorem elt_app_left {A B : List α} {i : Nat} (h : i < A.length) : elt (A ++ B) i = elt A i := by
  unfold elt; simp [List.getD_eq_getElem?_getD, List.getElem?_append_left h]
theorem elt_app_right {A B : List α} {i : Nat} (h : A.length ≤ i) : elt (A ++ B) i = elt B (i - A.length) := by
  unfold elt; simp [List.getD_eq_getElem?_getD, List.getElem?_append_right h]
theorem elt_mem {L : List α} {x : α} : x ∈ L ↔ ∃ i, i < L.length ∧ elt L i = x := by
  rw [List.mem_iff_getElem]
  constructor
  · rintro ⟨i, h, e⟩; exact ⟨i, h, by rw [elt_eq h]; exact e⟩
  · rintro ⟨i, h, e⟩; exact ⟨i, h, by rw [← elt_eq h]; exact e⟩
theorem elt_ext {A B : List α} (h : A.length = B.length) (h2 : ∀ i, i < A.length → elt A i = elt B i) : A = B :=
  List.ext_getElem h fun i h3 h4 => by rw [← elt_eq h3, ← elt_eq h4]; exact h2 i h3
/-- Two elements change places. -/
def swap2 (L : List α) (i j : Nat) : List α := (L.set i (elt L j)).set j (elt L i)
theorem swap2_len (L : List α) (i j : Nat) : (swap2 L i j).length = L.length := by simp [swap2]
theorem swap2_elt (L : List α) {i j : Nat} (hi : i < L.length) (hj : j < L.length) (k : Nat) : elt (swap2 L i j) k = if k = j then elt L i else if k = i then elt L j else elt L k := by
  unfold swap2 elt
  simp only [List.getD_eq_getElem?_getD, List.getElem?_set, List.length_set]
  by_cases h : j = k
  · subst h; simp [hj]
  · by_cases h2 : i = k
    · subst h2
      have h' : ¬ i = j := fun e => h e.symm
      simp [h, h', hi]
    · have h' : ¬ k = j := fun e => h e.symm
      have h2' : ¬ k = i := fun e => h2 e.symm
      simp [h, h2, h', h2']
/-- So many elements from a on change places with those from b on. -/
def swapR (L : List α) (a b : Nat) : Nat → List α
  | 0 => L
  | k + 1 => swap2 (swapR L a b k) (a + k) (b + k)
theorem swapR_len (L : List α) (a b : Nat) : ∀ n, (swapR L a b n).length = L.length
  | 0 => rfl
  | k + 1 => by show (swap2 _ _ _).length = _; rw [swap2_len, swapR_len L a b k]
theorem swapR_elt (L : List α) {a b : Nat} : ∀ (n : Nat), a + n ≤ b → b + n ≤ L.length → ∀ i, elt (swapR L a b n) i = if a ≤ i ∧ i < a + n then elt L (b + (i - a)) else if b ≤ i ∧ i < b + n then elt L (a + (i - b)) else elt L i
  | 0, _, _, i => by rw [if_neg (by omega), if_neg (by omega)]; rfl
  | n + 1, h1, h2, i => by
    have ih := swapR_elt L (a := a) (b := b) n (by omega) (by omega)
    have hl := swapR_len L a b n
    show elt (swap2 _ _ _) i = _
    rw [swap2_elt _ (by omega) (by omega), ih (a + n), ih (b + n), ih i]
    repeat' split
    all_goals first | (exfalso; omega) | rfl | (congr 1; omega)
/-- In parts. -/
theorem swapR_parts (P A M B S : List α) (hA : A.length = B.length) {a b n : Nat} (ha : a = P.length) (hb : b = P.length + A.length + M.length) (hn : n = A.length) :
    swapR (P ++ (A ++ (M ++ (B ++ S)))) a b n = P ++ (B ++ (M ++ (A ++ S))) := by
  subst ha hb hn
  refine elt_ext (by rw [swapR_len]; simp; omega) fun i hi => ?_
  rw [swapR_len] at hi
  simp only [List.length_append] at hi
  rw [swapR_elt _ _ (by omega) (by simp; omega)]
  have hcase : i < P.length ∨ (P.length ≤ i ∧ i < P.length + A.length) ∨ (P.length + A.length ≤ i ∧ i < P.length + A.length + M.length) ∨ (P.length + A.length + M.length ≤ i ∧ i < P.length + A.length + M.length + A.length) ∨ P.length + A.length + M.length + A.length ≤ i := by omega
  rcases hcase with c | c | c | c | c
  · rw [if_neg (by omega), if_neg (by omega), elt_app_left c, elt_app_left c]
  · rw [if_pos c, elt_app_right (A := P) (by omega), elt_app_right (A := A) (by omega), elt_app_right (A := M) (by omega), elt_app_left (A := B) (by omega)]
    rw [elt_app_right (A := P) (by omega), elt_app_left (A := B) (by omega)]
    congr 1; omega
  · rw [if_neg (by omega), if_neg (by omega), elt_app_right (A := P) (by omega), elt_app_right (A := A) (by omega), elt_app_left (A := M) (by omega)]
    rw [elt_app_right (A := P) (by omega), elt_app_right (A := B) (by omega), elt_app_left (A := M) (by omega)]
    congr 1; omega
  · rw [if_neg (by omega), if_pos c, elt_app_right (A := P) (by omega), elt_app_left (A := A) (by omega)]
    rw [elt_app_right (A := P) (by omega), elt_app_right (A := B) (by omega), elt_app_right (A := M) (by omega), elt_app_left (A := A) (by omega)]
    congr 1; omega
  · rw [if_neg (by omega), if_neg (by omega), elt_app_right (A := P) (by omega), elt_app_right (A := A) (by omega), elt_app_right (A := M) (by omega), elt_app_right (A := B) (by omega)]
    rw [elt_app_right (A := P) (by omega), elt_app_right (A := B) (by omega), elt_app_right (A := M) (by omega), elt_app_right (A := A) (by omega)]
    congr 1; omega
/-- In order: nothing stands behind what is greater. -/
def SortedB (L : List α) : Prop := L.Pairwise fun x y => lt y x = false
structure Ordered : Prop where
  trans : ∀ x y z, lt y x = false → lt z y = false → lt z x = false
  asym : ∀ x y, lt x y = true → lt y x = false
variable {lt} (O : Ordered lt)
include O
theorem Ordered.refl (x : α) : lt x x = false := by
  cases h : lt x x with
  | false => rfl
  | true => exact (O.asym x x h).symm.trans h |>.symm ▸ rfl
theorem SortedB.le {L : List α} (h : SortedB lt L) {i j : Nat} (hij : i ≤ j) (hj : j < L.length) : lt (elt L j) (elt L i) = false := by
  rcases Nat.lt_or_ge i j with h1 | h1
  · rw [elt_eq hj, elt_eq (by omega)]
    exact List.pairwise_iff_getElem.1 h i j (by omega) hj h1
  · obtain rfl : i = j := by omega
    exact O.refl _
/-- Two lists in order are cut so that all of the first parts come ahead of all of the second parts. -/
theorem cut_ahead {X Y : List α} (hX : SortedB lt X) (hY : SortedB lt Y) {s e : Nat} (hs : s ≤ X.length) (he : e ≤ Y.length)
    (c1 : s = 0 ∨ e = Y.length ∨ lt (elt Y e) (elt X (s - 1)) = false) (c2 : s = X.length ∨ e = 0 ∨ lt (elt Y (e - 1)) (elt X s) = true) :
    ∀ u ∈ X.take s ++ Y.take e, ∀ v ∈ X.drop s ++ Y.drop e, lt v u = false := by
  have tk : ∀ (L : List α) (n : Nat) (x : α), n ≤ L.length → x ∈ L.take n → ∃ i, i < n ∧ elt L i = x := fun L n x hn hx => by
    obtain ⟨i, hi, e⟩ := elt_mem.1 hx
    rw [List.length_take] at hi
    refine ⟨i, by omega, ?_⟩
    rw [← e, elt_eq (L := L.take n) (by rw [List.length_take]; exact hi), elt_eq (L := L) (by omega)]; simp
  have dr : ∀ (L : List α) (n : Nat) (x : α), x ∈ L.drop n → ∃ i, n ≤ i ∧ i < L.length ∧ elt L i = x := fun L n x hx => by
    obtain ⟨i, hi, e⟩ := elt_mem.1 hx
    rw [List.length_drop] at hi
    refine ⟨n + i, by omega, by omega, ?_⟩
    rw [← e, elt_eq (L := L.drop n) (by rw [List.length_drop]; exact hi), elt_eq (L := L) (by omega)]; simp
  intro u hu v hv
  rcases List.mem_append.1 hu with hu | hu <;> rcases List.mem_append.1 hv with hv | hv
  · obtain ⟨i, hi, rfl⟩ := tk X s u hs hu
    obtain ⟨j, hj, hj2, rfl⟩ := dr X s v hv
    exact hX.le O (by omega) hj2
  · obtain ⟨i, hi, rfl⟩ := tk X s u hs hu
    obtain ⟨j, hj, hj2, rfl⟩ := dr Y e v hv
    rcases c1 with h | h | h
    · omega
    · omega
    · exact O.trans _ _ _ (O.trans _ _ _ (hX.le O (i := i) (j := s - 1) (by omega) (by omega)) h) (hY.le O (i := e) (j := j) hj hj2)
  · obtain ⟨i, hi, rfl⟩ := tk Y e u he hu
    obtain ⟨j, hj, hj2, rfl⟩ := dr X s v hv
    rcases c2 with h | h | h
    · omega
    · omega
    · exact O.trans _ _ _ (O.trans _ _ _ (hY.le O (i := i) (j := e - 1) (by omega) (by omega)) (O.asym _ _ h)) (hX.le O (i := s) (j := j) hj hj2)
  · obtain ⟨i, hi, rfl⟩ := tk Y e u he hu
    obtain ⟨j, hj, hj2, rfl⟩ := dr Y e v hv
    exact hY.le O (by omega) hj2
omit O in
theorem SortedB.take {L : List α} (h : SortedB lt L) (n : Nat) : SortedB lt (L.take n) := List.Pairwise.sublist (List.take_sublist n L) h
omit O in
theorem SortedB.drop {L : List α} (h : SortedB lt L) (n : Nat) : SortedB lt (L.drop n) := List.Pairwise.sublist (List.drop_sublist n L) h
omit O in
/-- What is in order, twice, is in order, all of the first ahead of all of the second. -/
theorem merged {X Y Z1 Z2 : List α} {s e : Nat} (h1 : SortedB lt Z1) (h2 : SortedB lt Z2) (p1 : Z1.Perm (X.take s ++ Y.take e)) (p2 : Z2.Perm (X.drop s ++ Y.drop e))
    (h : ∀ u ∈ X.take s ++ Y.take e, ∀ v ∈ X.drop s ++ Y.drop e, lt v u = false) : SortedB lt (Z1 ++ Z2) ∧ (Z1 ++ Z2).Perm (X ++ Y) := by
  refine ⟨List.pairwise_append.2 ⟨h1, h2, fun u hu v hv => h u (p1.mem_iff.1 hu) v (p2.mem_iff.1 hv)⟩, ?_⟩
  refine (p1.append p2).trans ?_
  have e1 : X ++ Y = (X.take s ++ X.drop s) ++ (Y.take e ++ Y.drop e) := by rw [List.take_append_drop, List.take_append_drop]
  rw [e1, List.append_assoc, List.append_assoc]
  refine List.Perm.append_left _ ?_
  rw [← List.append_assoc, ← List.append_assoc]
  exact List.Perm.append_right _ List.perm_append_comm
/-- One element is put into what is in order. -/
theorem put_sorted {L : List α} (h : SortedB lt L) {x : α} {i : Nat} (hi : i ≤ L.length) (h1 : ∀ k, k < i → lt x (elt L k) = false) (h2 : ∀ k, i ≤ k → k < L.length → lt (elt L k) x = false) :
    SortedB lt (L.take i ++ x :: L.drop i) ∧ (L.take i ++ x :: L.drop i).Perm (x :: L) := by
  refine ⟨List.pairwise_append.2 ⟨h.take i, List.pairwise_cons.2 ⟨fun v hv => ?_, h.drop i⟩, fun u hu v hv => ?_⟩, ?_⟩
  · obtain ⟨j, hj, e⟩ := elt_mem.1 hv
    rw [List.length_drop] at hj
    have := h2 (i + j) (by omega) (by omega)
    rw [elt_eq (by omega)] at this
    rw [← e, elt_eq (by rw [List.length_drop]; exact hj)]
    simpa using this
  · obtain ⟨j, hj, e⟩ := elt_mem.1 hu
    rw [List.length_take] at hj
    have e' : elt L j = u := by rw [← e, elt_eq (by omega), elt_eq (by rw [List.length_take]; exact hj)]; simp
    rcases List.mem_cons.1 hv with rfl | hv
    · rw [← e']; exact h1 j (by omega)
    · obtain ⟨k, hk, e2⟩ := elt_mem.1 hv
      rw [List.length_drop] at hk
      have e3 : elt L (i + k) = v := by rw [← e2, elt_eq (by omega), elt_eq (by rw [List.length_drop]; exact hk)]; simp
      rw [← e', ← e3]
      exact h.le O (by omega) (by omega)
  · refine List.perm_middle.trans ?_
    rw [List.take_append_drop]
omit O in
/-- Who moves one place up. -/
theorem swap_step (P Y1 Y2 S : List α) (x y : α) {a : Nat} (ha : a = P.length + Y1.length) : swap2 (P ++ (Y1 ++ x :: (y :: Y2 ++ S))) a (a + 1) = P ++ ((Y1 ++ [y]) ++ x :: (Y2 ++ S)) := by
  subst ha
  have := swapR_parts (P ++ Y1) [x] [] [y] (Y2 ++ S) rfl (a := P.length + Y1.length) (b := P.length + Y1.length + 1) (n := 1) (by simp) (by simp) rfl
  simpa [swapR] using this
end
end Go.Proofs.YtahiahjhpakeiaaGreatDoor
namespace Go.Proofs.YtahiahjhpakeiaaGreatDoor
open Go.RowKit Go.Maps Go.Sort
set_option linter.unusedVariables false
set_option linter.unusedSimpArgs false
set_option linter.unusedSectionVars false

/-- Ahead of: by groups, then by whom it goes to. -/
def mlt (a b : Mv) : Bool := decide (klt a.g a.to b.g b.to)
theorem mlt_ord : Ordered mlt where
  trans := fun x y z h k => by
    simp only [mlt, decide_eq_false_iff_not] at *
    intro hz
    rcases klt_tri y.g y.to x.g x.to with a | a | a
    · exact h a
    · rw [a.1, a.2] at k; exact k hz
    · exact k (klt_trans hz a)
  asym := fun x y h => by
    simp only [mlt, decide_eq_true_eq, decide_eq_false_iff_not] at *; exact klt_asymm h
theorem mlt_cmp (a b : Mv) : mlt a b = decide (cmpK a.g a.to b.g b.to < 0) := by
  unfold mlt
  rw [Bool.eq_iff_iff, decide_eq_true_eq, decide_eq_true_eq]
  exact cmpK_lt.symm
/-- In a strict order. -/
def OrdM (l : List Mv) : Prop := l.Pairwise fun a b => klt a.g a.to b.g b.to
/-- What is in order, and each once by its key, is in a strict order. -/
theorem ordM_of {l : List Mv} (h : SortedB mlt l) (hk : (l.map fun m => (m.g, m.to)).Nodup) : OrdM l := by
  have h2 : l.Pairwise fun a b => (a.g, a.to) ≠ (b.g, b.to) := List.pairwise_map.1 hk
  refine (h.and h2).imp fun {a b} hab => ?_
  obtain ⟨h3, h4⟩ := hab
  simp only [mlt, decide_eq_false_iff_not] at h3
  rcases klt_tri a.g a.to b.g b.to with q | q | q
  · exact q
  · exact absurd (Prod.ext q.1 q.2) h4
  · exact absurd q h3
/-! ### In memory -/
def mvCells (m : Mv) : List Value := [sV m.g, .int .i64 m.fr, .int .i64 m.to]
structure MvC (w : World) (b o : Nat) (m : Mv) : Prop where
  c0 : w.cell? ⟨b, o, none⟩ = some (.string (bs m.g))
  c1 : w.cell? ⟨b, o + 1, none⟩ = some (.int .i64 m.fr)
  c2 : w.cell? ⟨b, o + 2, none⟩ = some (.int .i64 m.to)
theorem MvC.same {w w' : World} {b o : Nat} {m : Mv} (h : MvC w b o m) (hb : w'.heap[b]? = w.heap[b]?) : MvC w' b o m :=
  ⟨(World.cell?_of_block hb).trans h.c0, (World.cell?_of_block hb).trans h.c1, (World.cell?_of_block hb).trans h.c2⟩
/-- Some moves at the head of a block. -/
structure MvIn (w : World) (q : Nat) (l : List Mv) : Prop where
  all : ∀ k, k < l.length → MvC w q (k * 3) (elt l k)
  fz : ∀ o, w.frozen? ⟨q, o, none⟩ = false
  lt : q < w.heap.size
theorem MvIn.same {w w' : World} {q : Nat} {l : List Mv} (h : MvIn w q l) (hs : w.heap.size ≤ w'.heap.size) (hb : w'.heap[q]? = w.heap[q]?) : MvIn w' q l :=
  ⟨fun k hk => (h.all k hk).same hb, fun o => (World.frozen?_of_block hb).trans (h.fz o), Nat.lt_of_lt_of_le h.lt hs⟩
theorem MvIn.below {w w' : World} {q : Nat} {l : List Mv} (h : MvIn w q l) (hb : Below w.heap.size w w') : MvIn w' q l := h.same hb.size (hb.block _ h.lt)
theorem MvIn.kept {S : Nat → Prop} {w w' : World} {q : Nat} {l : List Mv} (h : MvIn w q l) (hk : Kept S w w') (hS : ¬ S q) : MvIn w' q l := h.same hk.size (hk.block _ h.lt hS)
theorem elt_set {l : List Mv} {i : Nat} (hi : i < l.length) (m : Mv) (k : Nat) : elt (l.set i m) k = if k = i then m else elt l k := by
  unfold elt
  simp only [List.getD_eq_getElem?_getD, List.getElem?_set]
  by_cases h : i = k
  · subst h; simp [hi]
  · have : ¬ k = i := fun e => h e.symm
    simp [h, this]
theorem MvIn.set {w : World} {q : Nat} {l : List Mv} (h : MvIn w q l) {i : Nat} (hi : i < l.length) (m : Mv) : MvIn (w.setCells q (i * 3) (mvCells m)) q (l.set i m) where
  all := fun k hk => by
    rw [List.length_set] at hk
    rw [elt_set hi]
    have hs : ∀ j, j < (mvCells m).length → (w.cell? ⟨q, i * 3 + j, none⟩).isSome = true := fun j hj => by
      have hj3 : j < 3 := hj
      have a := h.all i hi
      have : j = 0 ∨ j = 1 ∨ j = 2 := by omega
      rcases this with rfl | rfl | rfl
      · rw [Nat.add_zero, a.c0]; rfl
      · rw [a.c1]; rfl
      · rw [a.c2]; rfl
    by_cases e : k = i
    · subst e
      rw [if_pos rfl]
      have z := World.cell?_setCells_in q (mvCells m) (k * 3) w hs
      exact ⟨z 0 (by show 0 < 3; omega), z 1 (by show 1 < 3; omega), z 2 (by show 2 < 3; omega)⟩
    · rw [if_neg e]
      have a := h.all k hk
      have z : ∀ j, j < 3 → (w.setCells q (i * 3) (mvCells m)).cell? ⟨q, k * 3 + j, none⟩ = w.cell? ⟨q, k * 3 + j, none⟩ := fun j hj =>
        World.cell?_setCells_out q _ _ _ _ (fun _ _ => by show k * 3 + j < i * 3 ∨ i * 3 + 3 ≤ k * 3 + j; omega)
      exact ⟨(z 0 (by omega)).trans a.c0, (z 1 (by omega)).trans a.c1, (z 2 (by omega)).trans a.c2⟩
  fz := fun o => by rw [World.frozen?_setCells]; exact h.fz o
  lt := by rw [size_setCells_e]; exact h.lt
/-- Two moves change places. -/
theorem MvIn.swap {w : World} {q : Nat} {l : List Mv} (h : MvIn w q l) {i j : Nat} (hi : i < l.length) (hj : j < l.length) :
    MvIn ((w.setCells q (i * 3) (mvCells (elt l j))).setCells q (j * 3) (mvCells (elt l i))) q (swap2 l i j) :=
  (h.set hi (elt l j)).set (by rw [List.length_set]; exact hj) (elt l i)
theorem kept_swap {S : Nat → Prop} {q : Nat} (w : World) (a b : Nat) (x y : List Value) (hS : S q) : Kept S w ((w.setCells q a x).setCells q b y) :=
  (kept_setCells q a x w hS).trans (kept_setCells q b y _ hS)
theorem MvIn.drew {w : World} {q : Nat} {l : List Mv} (h : MvIn w q l) : MvIn w.drew q l := h.same (Nat.le_refl _) rfl
/-! ### Lists in parts -/
section
variable {α : Type} [Inhabited α] {lt : α → α → Bool}
theorem elt_in {P X S : List α} {k : Nat} (hk : k < X.length) : elt (P ++ (X ++ S)) (P.length + k) = elt X k := by
  rw [elt_app_right (by omega), Nat.add_sub_cancel_left, elt_app_left hk]
theorem elt_in2 {P X Y S : List α} {k : Nat} (hk : k < Y.length) : elt (P ++ (X ++ (Y ++ S))) (P.length + X.length + k) = elt Y k := by
  have := elt_in (P := P ++ X) (X := Y) (S := S) hk
  rwa [List.append_assoc, List.length_append] at this
theorem take_snoc {L : List α} {n : Nat} (hn : n < L.length) : L.take (n + 1) = L.take n ++ [elt L n] := by
  rw [List.take_succ_eq_append_getElem hn, elt_eq hn]
theorem drop_head {L : List α} {n : Nat} (hn : n < L.length) : L.drop n = elt L n :: L.drop (n + 1) := by
  rw [elt_eq hn]; exact List.drop_eq_getElem_cons hn
theorem swap2_comm (L : List α) {i j : Nat} (hi : i < L.length) (hj : j < L.length) : swap2 L i j = swap2 L j i :=
  elt_ext (by rw [swap2_len, swap2_len]) fun k hk => by
    rw [swap2_elt _ hi hj, swap2_elt _ hj hi]
    by_cases h1 : k = j
    · by_cases h2 : k = i
      · rw [if_pos h1, if_pos h2, ← h1, ← h2]
      · rw [if_pos h1, if_neg h2, if_pos h1]
    · rw [if_neg h1]
      by_cases h2 : k = i
      · rw [if_pos h2, if_pos h2]
      · rw [if_neg h2, if_neg h2, if_neg h1]
theorem swap2_mid (P S : List α) (x y : α) : swap2 (P ++ (x :: y :: S)) P.length (P.length + 1) = P ++ (y :: x :: S) := by
  have := swap_step P [] [] S x y (a := P.length) (by simp)
  simpa using this
theorem swap2_mid' (P S : List α) (x y : α) : swap2 (P ++ (x :: y :: S)) (P.length + 1) P.length = P ++ (y :: x :: S) := by
  rw [swap2_comm _ (by simp) (by simp)]; exact swap2_mid P S x y
end
end Go.Proofs.YtahiahjhpakeiaaGreatDoor
end
section
namespace Go.Proofs.YtahiahjhpakeiaaGreatDoor
open Go.RowKit Go.Maps Go.Sort
set_option linter.unusedVariables false
set_option linter.unusedSimpArgs false
set_option linter.unusedSectionVars false

attribute [local go_sem] cell_set_off cell_set_block
/-! ### Who went since a plan -/
structure Since (f0 f : RS) (Dd : List Int) : Prop where
  gone : ∀ n ∈ Dd, (f n).isSome = true ∧ livesR f n = false
  stay : ∀ n, livesR f0 n = true → n ∈ Dd ∨ livesR f n = true
theorem since_refl (f : RS) : Since f f [] := ⟨fun n hn => by simp at hn, fun n hn => Or.inr hn⟩
theorem Since.join {f0 f : RS} {Dd : List Int} (h : Since f0 f Dd) (I : Inv f) {n id via : Int} (hid : isPlace id) : Since f0 (joinR f n id via) Dd := by
  by_cases hc : joinC f n id via = 0
  · obtain ⟨h0, h1, hn, hv, hno, z, _, hz, hw, e⟩ := (joinC_cases I hid).2 hc
    rw [e]
    refine ⟨fun m hm => ?_, fun m hm => ?_⟩
    · obtain ⟨g1, g2⟩ := h.gone m hm
      have hne : m ≠ n := fun e => by rw [e, hn] at g1; cases g1
      rw [isSome_set, livesR_set, if_neg hne, if_neg hne]
      exact ⟨g1, g2⟩
    · rw [livesR_set]
      rcases h.stay m hm with a | a
      · exact Or.inl a
      · right; split
        · rfl
        · exact a
  · have e : joinR f n id via = f := by unfold joinR; rw [if_neg hc]
    rw [e]; exact h
theorem Since.fail {f0 f : RS} {Dd : List Int} (h : Since f0 f Dd) (I : Inv f) {n : Int} (hc : failC f n = 0) : Since f0 (failR f n) (n :: Dd) := by
  rcases failC_cases I n with ⟨_, e, hn, h4, hh⟩ | ⟨h1, _⟩
  · rw [e]
    have hl : ∀ m, livesR (diesR f n) m = if m = n then false else livesR f m := fun m => livesR_set _ _ _ _
    have hs : ∀ m, ((diesR f n) m).isSome = if m = n then true else (f m).isSome := fun m => isSome_set _ _ _ _
    refine ⟨fun m hm => ?_, fun m hm => ?_⟩
    · rw [hl, hs]
      by_cases e : m = n
      · rw [if_pos e, if_pos e]; exact ⟨rfl, rfl⟩
      · rw [if_neg e, if_neg e]
        exact h.gone m ((List.mem_cons.1 hm).resolve_left e)
    · rw [hl]
      by_cases e : m = n
      · exact Or.inl (by simp [e])
      · rw [if_neg e]
        rcases h.stay m hm with a | a
        · exact Or.inl (List.mem_cons_of_mem _ a)
        · exact Or.inr a
  · exact absurd hc h1
theorem failR_no {f : RS} {n : Int} (hc : failC f n ≠ 0) : failR f n = f := by unfold failR; rw [if_neg hc]
theorem isSome_fold (l : List Int) {j : Int} : ∀ {f : RS}, (f j).isSome = true → ((looksR f l) j).isSome = true := by
  induction l with
  | nil => intro f h; exact h
  | cons n l ih => intro f h; exact ih (f := stabR f n) (isSome_stab f n h)
theorem Since.round {f0 f : RS} {Dd : List Int} (h : Since f0 f Dd) : Since f0 (roundR f) Dd := by
  refine ⟨fun m hm => ?_, fun m hm => ?_⟩
  · obtain ⟨g1, g2⟩ := h.gone m hm
    rw [roundR_eq]
    exact ⟨isSome_fold _ g1, by rw [lives_looks]; exact g2⟩
  · rw [roundR_eq, lives_looks]; exact h.stay m hm
/-! ### Side by side -/
/-- What is of C has not turned. -/
structure Calm (C : Nat → Prop) (w w' : World) : Prop where
  size : w.heap.size ≤ w'.heap.size
  block : ∀ b, C b → w'.heap[b]? = w.heap[b]?
theorem Calm.trans {C C' : Nat → Prop} {a b c : World} (h : Calm C a b) (k : Calm C' b c) (hC : ∀ x, C x → C' x) : Calm C a c := ⟨Nat.le_trans h.size k.size, fun x hx => (k.block x (hC x hx)).trans (h.block x hx)⟩
/-- A ring, the tables, and blocks C that are neither's. -/
def KW (C : Nat → Prop) (W w : World) (rb mbr sb mbs : Nat) (f : RS) (T : TT) : Prop :=
  ∃ (S D : Nat → Prop) (g : Int → Nat), RAt S w rb mbr g f ∧ (∀ b, S b → W.heap.size ≤ b) ∧ StoreW D W w sb mbs T ∧ (∀ b, C b → D b ∧ ¬ S b ∧ b < w.heap.size ∧ b ≠ sb ∧ W.heap.size ≤ b) ∧ (∀ b, S b → b < w.heap.size → D b ∧ b ≠ sb)
section
variable {C C' : Nat → Prop} {W w w' : World} {rb mbr sb mbs : Nat} {f f' : RS} {T T' : TT}
theorem KW.bel (h : KW C W w rb mbr sb mbs f T) : Below W.heap.size W w := by obtain ⟨S, D, g, _, _, ⟨R, tb, hs⟩, _⟩ := h; exact hs.bel
theorem KW.lt (h : KW C W w rb mbr sb mbs f T) : ∀ b, C b → b < w.heap.size ∧ W.heap.size ≤ b := by obtain ⟨S, D, g, _, _, _, hc, _⟩ := h; exact fun b hb => ⟨(hc b hb).2.2.1, (hc b hb).2.2.2.2⟩
theorem KW.less (h : KW C W w rb mbr sb mbs f T) (hC : ∀ b, C' b → C b) : KW C' W w rb mbr sb mbs f T := by
  obtain ⟨S, D, g, h1, h2, h3, h4, h5⟩ := h
  exact ⟨S, D, g, h1, h2, h3, fun b hb => h4 b (hC b hb), h5⟩
theorem KW.later (h : KW C W w rb mbr sb mbs f T) (hb : Below w.heap.size w w') : KW (fun b => C b ∨ (w.heap.size ≤ b ∧ b < w'.heap.size)) W w' rb mbr sb mbs f T ∧ Calm C w w' := by
  obtain ⟨S, D, g, h1, h2, ⟨R, tb, h3⟩, h4, h5⟩ := h
  have hz := hb.size
  have hW := h3.bel.size
  have hsb := h3.sz
  refine ⟨⟨Now S w w', fun b => D b ∨ (w.heap.size ≤ b ∧ b < w'.heap.size), g, h1.now hb, fun b hS => ?_, ⟨R, tb, h3.later hb⟩, fun b hC => ?_, fun b hS hlt => ?_⟩, hz, fun b hC => hb.block b (h4 b hC).2.2.1⟩
  · rcases hS with ⟨hS, _⟩ | hS
    · exact h2 b hS
    · omega
  · rcases hC with hC | hC
    · obtain ⟨a1, a2, a3, a4, a5⟩ := h4 b hC
      exact ⟨Or.inl a1, fun h => h.elim (fun h => a2 h.1) fun h => by omega, by omega, a4, a5⟩
    · exact ⟨Or.inr hC, fun h => h.elim (fun h => by omega) fun h => by omega, hC.2, by omega, by omega⟩
  · rcases hS with ⟨hS, hz2⟩ | hS
    · obtain ⟨a1, a2⟩ := h5 b hS hz2
      exact ⟨Or.inl a1, a2⟩
    · omega
/-- A call of the ring. -/
theorem KW.rcall (h : KW C W w rb mbr sb mbs f T) {P : Program} {fn : FuncId} {args : Array Value} {Q : Ending → World → Prop}
    (hc : ∀ S g, RAt S w rb mbr g f → Calls P fn args w fun e w' => Q e w' ∧ (∃ g', RAt S w' rb mbr g' f') ∧ Kept S w w') :
    Calls P fn args w fun e w' => Q e w' ∧ KW C W w' rb mbr sb mbs f' T ∧ Calm C w w' := by
  obtain ⟨S, D, g, h1, h2, ⟨R, tb, h3⟩, h4, h5⟩ := h
  refine (hc S g h1).mono ?_
  rintro e w' ⟨hq, ⟨g', hr⟩, hk⟩
  have hz := hk.size
  have hW := h3.bel.size
  have hsb := h3.sz
  have hk2 : Kept (fun b => S b ∧ b < w.heap.size) w w' := ⟨hk.os, hk.tape, hk.output, hk.size, fun b hb hn => hk.block b hb fun hs => hn ⟨hs, hb⟩⟩
  refine ⟨hq, ⟨S, _, g', hr, h2, ⟨R, tb, h3.aside hk2 fun b hb => ⟨(h5 b hb.1 hb.2).1, (h5 b hb.1 hb.2).2, h2 b hb.1⟩⟩, fun b hC => ?_, fun b hS hlt => ?_⟩, hz, fun b hC => hk.block b (h4 b hC).2.2.1 (h4 b hC).2.1⟩
  · obtain ⟨a1, a2, a3, a4, a5⟩ := h4 b hC
    exact ⟨Or.inl a1, a2, by omega, a4, a5⟩
  · rcases Nat.lt_or_ge b w.heap.size with h | h
    · exact ⟨Or.inl (h5 b hS h).1, (h5 b hS h).2⟩
    · exact ⟨Or.inr ⟨h, hlt⟩, by omega⟩
/-- A call of the tables. -/
theorem KW.scall (h : KW C W w rb mbr sb mbs f T) {P : Program} {fn : FuncId} {args : Array Value} {Q : Ending → World → Prop}
    (hc : ∀ R tb D, StoreIn R tb D W w sb mbs T → (∀ b, C b → D b) → Calls P fn args w fun e w' => Q e w' ∧ StoreW D W w' sb mbs T' ∧ Kept (fun b => ¬ D b) w w') :
    Calls P fn args w fun e w' => Q e w' ∧ KW C W w' rb mbr sb mbs f T' ∧ Calm C w w' := by
  obtain ⟨S, D, g, h1, h2, ⟨R, tb, h3⟩, h4, h5⟩ := h
  refine (hc R tb D h3 fun b hb => (h4 b hb).1).mono ?_
  rintro e w' ⟨hq, hs, hk⟩
  have hz := hk.size
  have hW := h3.bel.size
  refine ⟨hq, ⟨_, D, g, h1.aside hk fun b hb hS hn => hn (h5 b hS hb).1, fun b hS => ?_, hs, fun b hC => ?_, fun b hS hlt => ?_⟩, hz, fun b hC => hk.block b (h4 b hC).2.2.1 fun hn => hn (h4 b hC).1⟩
  · rcases hS with hS | hS
    · exact h2 b hS.1
    · omega
  · obtain ⟨a1, a2, a3, a4, a5⟩ := h4 b hC
    exact ⟨a1, fun h => h.elim (fun h => a2 h.1) fun h => by omega, by omega, a4, a5⟩
  · rcases hS with hS | hS
    · exact h5 b hS.1 hS.2
    · omega
/-- One block of C turns; what is new is of C. -/
theorem KW.cstep (h : KW C W w rb mbr sb mbs f T) {q : Nat} (hk : Kept (fun b => b = q) w w') (hq : C q ∨ w.heap.size ≤ q) : KW (fun b => C b ∨ (w.heap.size ≤ b ∧ b < w'.heap.size)) W w' rb mbr sb mbs f T ∧ Calm (fun b => C b ∧ b ≠ q) w w' := by
  obtain ⟨S, D, g, h1, h2, ⟨R, tb, h3⟩, h4, h5⟩ := h
  have hz := hk.size
  have hW := h3.bel.size
  have hsb := h3.sz
  have nS : ∀ b, b < w.heap.size → S b → b ≠ q := fun b hb hS e => by
    rcases hq with hq | hq
    · exact (h4 q hq).2.1 (e ▸ hS)
    · omega
  have hk2 : Kept (fun b => b = q ∧ C q) w w' := ⟨hk.os, hk.tape, hk.output, hk.size, fun b hb hn => hk.block b hb fun e => by
    rcases hq with hq | hq
    · exact hn ⟨e, hq⟩
    · omega⟩
  refine ⟨⟨_, _, g, h1.aside hk nS, fun b hS => ?_, ⟨R, tb, h3.aside hk2 fun b hb => by obtain ⟨rfl, hb⟩ := hb; exact ⟨(h4 _ hb).1, (h4 _ hb).2.2.2.1, (h4 _ hb).2.2.2.2⟩⟩, fun b hC => ?_, fun b hS hlt => ?_⟩, hz, fun b hC => hk.block b (h4 b hC.1).2.2.1 hC.2⟩
  · rcases hS with hS | hS
    · exact h2 b hS.1
    · omega
  · rcases hC with hC | hC
    · obtain ⟨a1, a2, a3, a4, a5⟩ := h4 b hC
      exact ⟨Or.inl a1, fun h => h.elim (fun h => a2 h.1) fun h => by omega, by omega, a4, a5⟩
    · exact ⟨Or.inr hC, fun h => h.elim (fun h => by omega) fun h => by omega, hC.2, by omega, by omega⟩
  · rcases hS with hS | hS
    · obtain ⟨a1, a2⟩ := h5 b hS.1 hS.2
      exact ⟨Or.inl a1, a2⟩
    · omega
end
/-! ### What the statement holds -/
theorem slAt_calm {C : Nat → Prop} {B : Nat} {gg : Nat → Value} {n : Nat} {w w' : World} {v : Value} (h : SlAt B gg n w v) (hk : Calm C w w') (hS : ∀ b, v.ownBlock = some b → C b) : SlAt B gg n w' v := by
  obtain ⟨a, cap, rfl, h1, h2, h3, h4⟩ := h
  refine ⟨a, cap, rfl, h1, h2, h3, h4.imp id ?_⟩
  rintro ⟨b, off, rfl, h7, h5, h6⟩
  exact ⟨b, off, rfl, h7, Nat.lt_of_lt_of_le h5 hk.size, fun i hi => (World.cell?_of_block (hk.block b (hS b rfl))).trans (h6 i hi)⟩
/-- A circle in memory, in blocks of C. -/
structure Circ (C : Nat → Prop) (w : World) (f : RS) (av iv : Value) : Prop where
  a : SlAt 0 (fun i => .int .i64 (nth (circ f) i)) (circ f).length w av
  i : SlAt 0 (fun i => .int .u64 (nth ((circ f).map (idR f)) i)) (circ f).length w iv
  ca : ∀ b, av.ownBlock = some b → C b
  ci : ∀ b, iv.ownBlock = some b → C b
theorem Circ.calm {C C' : Nat → Prop} {w w' : World} {f : RS} {av iv : Value} (h : Circ C w f av iv) (hk : Calm C w w') (hC : ∀ b, C b → C' b) : Circ C' w' f av iv :=
  ⟨slAt_calm h.a hk h.ca, slAt_calm h.i hk h.ci, fun b hb => hC b (h.ca b hb), fun b hb => hC b (h.ci b hb)⟩
structure BoxC (w : World) (X : Nat) (av iv : Value) : Prop where
  c0 : w.cell? ⟨X, 0, none⟩ = some av
  c1 : w.cell? ⟨X, 1, none⟩ = some iv
  f0 : w.frozen? ⟨X, 0, none⟩ = false
  f1 : w.frozen? ⟨X, 1, none⟩ = false
  z : X < w.heap.size
theorem BoxC.same {w w' : World} {X : Nat} {av iv : Value} (h : BoxC w X av iv) (hs : w.heap.size ≤ w'.heap.size) (hb : w'.heap[X]? = w.heap[X]?) : BoxC w' X av iv :=
  ⟨(World.cell?_of_block hb).trans h.c0, (World.cell?_of_block hb).trans h.c1, (World.frozen?_of_block hb).trans h.f0, (World.frozen?_of_block hb).trans h.f1, Nat.lt_of_lt_of_le h.z hs⟩
/-- The wishes that were put, and their groups, in rows of the statement's own. -/
structure Rows2 (C : Nat → Prop) (B : Nat) (w : World) (X : Nat) (s8 s9 : Value) (rs : List Row) (gs : List Str) : Prop where
  p : w.ownsRow B 79 5 s8 rs.length (flat rs)
  g : w.ownsRow B 9 1 s9 gs.length (gs.map sV)
  sh : ∀ r ∈ rs, ∃ a n c, r.v = .slice a n c
  c8 : ∀ b, s8.ownBlock = some b → C b ∧ b ≠ X
  c9 : ∀ b, s9.ownBlock = some b → C b ∧ b ≠ X
  ne : ∀ b, s8.ownBlock = some b → s9.ownBlock ≠ some b
theorem Rows2.calm {C C' : Nat → Prop} {B : Nat} {w w' : World} {X : Nat} {s8 s9 : Value} {rs : List Row} {gs : List Str} (h : Rows2 C B w X s8 s9 rs gs) (hk : ∀ b, C b → b ≠ X → w'.heap[b]? = w.heap[b]?) (hC : ∀ b, C b → C' b) : Rows2 C' B w' X s8 s9 rs gs :=
  ⟨ownsRow_same h.p fun q hq => hk q (h.c8 q hq).1 (h.c8 q hq).2, ownsRow_same h.g fun q hq => hk q (h.c9 q hq).1 (h.c9 q hq).2, h.sh, fun b hb => ⟨hC b (h.c8 b hb).1, (h.c8 b hb).2⟩, fun b hb => ⟨hC b (h.c9 b hb).1, (h.c9 b hb).2⟩, h.ne⟩
/-- All of it, as a round of the statement's loop begins. -/
structure KC (C : Nat → Prop) (B : Nat) (w : World) (X : Nat) (f0 : RS) (s8 s9 : Value) (rs : List Row) (gs : List Str) : Prop where
  x : C X
  box : ∃ av iv, BoxC w X av iv ∧ Circ C w f0 av iv ∧ ∀ b, s8.ownBlock = some b ∨ s9.ownBlock = some b → av.ownBlock ≠ some b ∧ iv.ownBlock ≠ some b
  rows : Rows2 C B w X s8 s9 rs gs
section
variable {C C' : Nat → Prop} {B : Nat} {w w' : World} {X : Nat} {f0 : RS} {s8 s9 v' : Value} {rs : List Row} {gs : List Str}
theorem KC.calm (h : KC C B w X f0 s8 s9 rs gs) (hk : Calm C w w') (hC : ∀ b, C b → C' b) : KC C' B w' X f0 s8 s9 rs gs := by
  obtain ⟨av, iv, h1, h2, h3⟩ := h.box
  exact ⟨hC _ h.x, ⟨av, iv, h1.same hk.size (hk.block X h.x), h2.calm hk hC, h3⟩, h.rows.calm (fun b hb _ => hk.block b hb) hC⟩
/-- One wish more in the row of wishes. -/
theorem KC.app8 (h : KC C B w X f0 s8 s9 rs gs) {r : Row} (hsh : ∃ a n c, r.v = .slice a n c) (hp0 : w'.ownsRow B 79 5 v' (rs.length + 1) (flat (rs ++ [r]))) (hg : w.grownBy w' s8.ownBlock) (ho : v'.ownBlock = s8.ownBlock ∨ v'.ownBlock = some w.heap.size) (hlt : ∀ b, C b → b < w.heap.size) (hz : ∀ b, v'.ownBlock = some b → b < w'.heap.size) :
    KC (fun b => C b ∨ (w.heap.size ≤ b ∧ b < w'.heap.size)) B w' X f0 v' s9 (rs ++ [r]) gs := by
  have hp : w'.ownsRow B 79 5 v' (rs ++ [r]).length (flat (rs ++ [r])) := by rw [List.length_append]; exact hp0
  obtain ⟨av, iv, h1, h2, h3⟩ := h.box
  have hk : ∀ b, C b → s8.ownBlock ≠ some b → w'.heap[b]? = w.heap[b]? := fun b hb hn => hg.block b (hlt b hb) (fun e => hn e.symm)
  have nX : s8.ownBlock ≠ some X := fun e => (h.rows.c8 X e).2 rfl
  have hs := hg.size
  have hv : ∀ b, v'.ownBlock = some b → s8.ownBlock = some b ∨ b = w.heap.size := fun b hb => by
    rcases ho with e | e
    · exact Or.inl (e ▸ hb)
    · rw [e] at hb; exact Or.inr (Option.some.inj hb).symm
  refine ⟨Or.inl h.x, ⟨av, iv, h1.same hs (hk X h.x nX), ⟨?_, ?_, fun b hb => Or.inl (h2.ca b hb), fun b hb => Or.inl (h2.ci b hb)⟩, fun b hb => ?_⟩, ⟨hp, ?_, fun q hq => ?_, fun b hb => ?_, fun b hb => ⟨Or.inl (h.rows.c9 b hb).1, (h.rows.c9 b hb).2⟩, fun b hb h9 => ?_⟩⟩
  · exact slAt_calm (C := fun b => C b ∧ s8.ownBlock ≠ some b) h2.a ⟨hs, fun b hb => hk b hb.1 hb.2⟩ fun b hb => ⟨h2.ca b hb, fun e => (h3 b (Or.inl e)).1 hb⟩
  · exact slAt_calm (C := fun b => C b ∧ s8.ownBlock ≠ some b) h2.i ⟨hs, fun b hb => hk b hb.1 hb.2⟩ fun b hb => ⟨h2.ci b hb, fun e => (h3 b (Or.inl e)).2 hb⟩
  · rcases hb with hb | hb
    · rcases hv b hb with e | e
      · exact h3 b (Or.inl e)
      · exact ⟨fun e2 => by have := hlt b (h2.ca b e2); omega, fun e2 => by have := hlt b (h2.ci b e2); omega⟩
    · exact h3 b (Or.inr hb)
  · exact ownsRow_same h.rows.g fun q hq => hk q (h.rows.c9 q hq).1 fun e => h.rows.ne q e hq
  · rcases List.mem_append.1 hq with hq | hq
    · exact h.rows.sh q hq
    · rw [List.mem_singleton.1 hq]; exact hsh
  · rcases hv b hb with e | e
    · exact ⟨Or.inl (h.rows.c8 b e).1, (h.rows.c8 b e).2⟩
    · exact ⟨Or.inr ⟨by omega, hz b hb⟩, fun e2 => by have := hlt X h.x; omega⟩
  · rcases hv b hb with e | e
    · exact h.rows.ne b e h9
    · have := hlt b (h.rows.c9 b h9).1; omega
/-- One group more in the row of groups. -/
theorem KC.app9 (h : KC C B w X f0 s8 s9 rs gs) {g : Str} (hp0 : w'.ownsRow B 9 1 v' (gs.length + 1) ((gs ++ [g]).map sV)) (hg : w.grownBy w' s9.ownBlock) (ho : v'.ownBlock = s9.ownBlock ∨ v'.ownBlock = some w.heap.size) (hlt : ∀ b, C b → b < w.heap.size) (hz : ∀ b, v'.ownBlock = some b → b < w'.heap.size) :
    KC (fun b => C b ∨ (w.heap.size ≤ b ∧ b < w'.heap.size)) B w' X f0 s8 v' rs (gs ++ [g]) := by
  have hp : w'.ownsRow B 9 1 v' (gs ++ [g]).length ((gs ++ [g]).map sV) := by rw [List.length_append]; exact hp0
  obtain ⟨av, iv, h1, h2, h3⟩ := h.box
  have hk : ∀ b, C b → s9.ownBlock ≠ some b → w'.heap[b]? = w.heap[b]? := fun b hb hn => hg.block b (hlt b hb) (fun e => hn e.symm)
  have nX : s9.ownBlock ≠ some X := fun e => (h.rows.c9 X e).2 rfl
  have hs := hg.size
  have hv : ∀ b, v'.ownBlock = some b → s9.ownBlock = some b ∨ b = w.heap.size := fun b hb => by
    rcases ho with e | e
    · exact Or.inl (e ▸ hb)
    · rw [e] at hb; exact Or.inr (Option.some.inj hb).symm
  refine ⟨Or.inl h.x, ⟨av, iv, h1.same hs (hk X h.x nX), ⟨?_, ?_, fun b hb => Or.inl (h2.ca b hb), fun b hb => Or.inl (h2.ci b hb)⟩, fun b hb => ?_⟩, ⟨?_, hp, h.rows.sh, fun b hb => ⟨Or.inl (h.rows.c8 b hb).1, (h.rows.c8 b hb).2⟩, fun b hb => ?_, fun b hb h9 => ?_⟩⟩
  · exact slAt_calm (C := fun b => C b ∧ s9.ownBlock ≠ some b) h2.a ⟨hs, fun b hb => hk b hb.1 hb.2⟩ fun b hb => ⟨h2.ca b hb, fun e => (h3 b (Or.inr e)).1 hb⟩
  · exact slAt_calm (C := fun b => C b ∧ s9.ownBlock ≠ some b) h2.i ⟨hs, fun b hb => hk b hb.1 hb.2⟩ fun b hb => ⟨h2.ci b hb, fun e => (h3 b (Or.inr e)).2 hb⟩
  · rcases hb with hb | hb
    · exact h3 b (Or.inl hb)
    · rcases hv b hb with e | e
      · exact h3 b (Or.inr e)
      · exact ⟨fun e2 => by have := hlt b (h2.ca b e2); omega, fun e2 => by have := hlt b (h2.ci b e2); omega⟩
  · exact ownsRow_same h.rows.p fun q hq => hk q (h.rows.c8 q hq).1 fun e => h.rows.ne q hq e
  · rcases hv b hb with e | e
    · exact ⟨Or.inl (h.rows.c9 b e).1, (h.rows.c9 b e).2⟩
    · exact ⟨Or.inr ⟨by omega, hz b hb⟩, fun e2 => by have := hlt X h.x; omega⟩
  · rcases hv b h9 with e | e
    · exact h.rows.ne b hb e
    · have := hlt b (h.rows.c8 b hb).1; omega
/-- The box of the circle is written anew. -/
theorem KC.circ (h : KC C B w X f0 s8 s9 rs gs) {f : RS} {av iv : Value} (hc : Circ C w f av iv) (hn : ∀ b, s8.ownBlock = some b ∨ s9.ownBlock = some b → av.ownBlock ≠ some b ∧ iv.ownBlock ≠ some b) (hX : ∀ b, av.ownBlock = some b ∨ iv.ownBlock = some b → b ≠ X) :
    KC C B ((w.setCell ⟨X, 0, none⟩ av).setCell ⟨X, 1, none⟩ iv) X f s8 s9 rs gs ∧ Kept (fun b => b = X) w ((w.setCell ⟨X, 0, none⟩ av).setCell ⟨X, 1, none⟩ iv) := by
  obtain ⟨av0, iv0, h1, h2, h3⟩ := h.box
  have hk : Kept (fun b => b = X) w ((w.setCell ⟨X, 0, none⟩ av).setCell ⟨X, 1, none⟩ iv) := Kept.set (S := fun b => b = X) (Kept.set (S := fun b => b = X) (Kept.refl _ w) (p := ⟨X, 0, none⟩) (show _ = _ from rfl) av) (p := ⟨X, 1, none⟩) (show _ = _ from rfl) iv
  have hb : ∀ b, b ≠ X → ((w.setCell ⟨X, 0, none⟩ av).setCell ⟨X, 1, none⟩ iv).heap[b]? = w.heap[b]? := fun b hb => by
    rw [Below.heap_setCell _ _ _ _ (fun e => hb e), Below.heap_setCell _ _ _ _ (fun e => hb e)]
  have hs : w.heap.size ≤ ((w.setCell ⟨X, 0, none⟩ av).setCell ⟨X, 1, none⟩ iv).heap.size := hk.size
  have z := h1.z
  have c0 := h1.c0
  have c1 := h1.c1
  have f0 := h1.f0
  have f1 := h1.f1
  refine ⟨⟨h.x, ⟨av, iv, ⟨by simp [go_sem, c0, c1, z], by simp [go_sem, c0, c1, z], by simp [go_sem, f0, f1], by simp [go_sem, f0, f1], by simp [go_sem, z]⟩, ⟨?_, ?_, hc.ca, hc.ci⟩, hn⟩, h.rows.calm (fun b _ hne => hb b hne) fun b hb => hb⟩, hk⟩
  · exact slAt_calm (C := fun b => b ≠ X) hc.a ⟨hs, fun b h => hb b h⟩ fun b h => hX b (Or.inl h)
  · exact slAt_calm (C := fun b => b ≠ X) hc.i ⟨hs, fun b h => hb b h⟩ fun b h => hX b (Or.inr h)
end
/-- What stands in the tables, and who went. -/
structure KM (X : Str → Int) (f0 f : RS) (T : TT) (rs : List Row) (Dd : List Int) : Prop where
  inv : Inv f
  inv0 : Inv f0
  since : Since f0 f Dd
  fine : Fine (keysE (entsOf rs)) T
  kept : Kept1 X f0 Dd (keysE (entsOf rs)) T
  few : rs.length ≤ 21
  short : ∀ r ∈ rs, r.e.g.length ≤ 30
theorem StoreIn.base {R : Int → Nat → Prop} {tb : Int → Nat} {D : Nat → Prop} {W0 W w : World} {sb mb : Nat} {T : TT} (h : StoreIn R tb D W w sb mb T) (hb : Below W0.heap.size W0 W) : StoreIn R tb D W0 w sb mb T :=
  { h with own := fun n l b e hR => ⟨by have := (h.own n l b e hR).1; have := hb.size; omega, (h.own n l b e hR).2⟩, lowS := by have := h.lowS; have := hb.size; omega, lowM := by have := h.lowM; have := hb.size; omega, bel := bel_below hb h.bel }
theorem kw_new {W w w' : World} {rb mbr sb mbs : Nat} {f : RS} (h : RingOk W.heap.size W w rb mbr f) (hs : StoreW (fun b => b < w.heap.size) w w' sb mbs (fun _ => none)) (hb : Below w.heap.size w w') : KW (fun _ => False) W w' rb mbr sb mbs f (fun _ => none) := by
  obtain ⟨g, hg⟩ := h.ring
  obtain ⟨R, tb, h3⟩ := hs
  have hW := h.below.size
  have hz := hb.size
  have hl := h3.lowS
  refine ⟨Now (fun b => W.heap.size ≤ b) w w', _, g, hg.now hb, fun b hS => ?_, ⟨R, tb, h3.base h.below⟩, fun b hC => hC.elim, fun b hS hlt => ?_⟩
  · rcases hS with hS | hS
    · exact hS.1
    · omega
  · rcases hS with hS | hS
    · exact ⟨hS.2, by have := hS.2; omega⟩
    · omega
theorem slAt_own {B : Nat} {gg : Nat → Value} {n : Nat} {w : World} {v : Value} (h : SlAt B gg n w v) (h0 : 0 < n) : ∀ b, v.ownBlock = some b → B ≤ b ∧ b < w.heap.size := fun b hb => by
  obtain ⟨a, cap, rfl, h1, h2, h3, h4⟩ := h
  obtain ⟨b', off, rfl, h5, h6, _⟩ := h4.resolve_left (by omega)
  cases hb
  exact ⟨h5, h6⟩
theorem own_empty (w : World) (e k B : Nat) (hB : B ≤ w.heap.size) : (w.alloc (.cells #[] e)).ownsRow B e k (.slice (some ⟨w.heap.size, 0, none⟩) 0 0) 0 [] :=
  ⟨by simp, Or.inr ⟨w.heap.size, 0, #[], rfl, hB, (MapKept.heap_alloc w _).1, Nat.le_refl _, Nat.zero_le _, by simp, by simp⟩⟩
theorem kept_gone {X : Str → Int} {f : RS} {Dd : List Int} {ks : List (Str × Int)} {T : TT} (h : Kept1 X f Dd ks T) (n : Int) : Kept1 X f (n :: Dd) ks (delT T n) := fun k hk m hm hn => by
  have hne : m ≠ n := fun e => hn (by simp [e])
  obtain ⟨x, hx, e⟩ := h k hk m hm fun h => hn (List.mem_cons_of_mem _ h)
  exact ⟨x, by rw [tabs_del, if_neg hne]; exact hx, e⟩
theorem Fine.del {ks : List (Str × Int)} {T : TT} (h : Fine ks T) (n : Int) : Fine ks (delT T n) := by
  refine ⟨fun m => ?_, fun m x hx => ?_⟩
  · rw [tabs_del]
    split
    · exact ⟨List.Pairwise.nil, fun x hx => by simp at hx⟩
    · exact h.few m
  · rw [tabs_del] at hx
    split at hx
    · simp at hx
    · exact h.any m x hx
theorem km_new (X : Str → Int) {f : RS} (I : Inv f) : KM X f f (fun _ => none) [] [] :=
  ⟨I, I, since_refl f, ⟨fewK_nil _, fun n x hx => by simp [tabs] at hx⟩, fun k hk => by simp [entsOf, keysE] at hk, Nat.zero_le _, fun r hr => by simp at hr⟩
/-- A row of C grows. -/
theorem KW.grow {C : Nat → Prop} {W w w' : World} {rb mbr sb mbs : Nat} {f : RS} {T : TT} (h : KW C W w rb mbr sb mbs f T) {row : Option Nat} (hg : w.grownBy w' row) (hrow : ∀ q, row = some q → C q) : KW (fun b => C b ∨ (w.heap.size ≤ b ∧ b < w'.heap.size)) W w' rb mbr sb mbs f T ∧ Calm (fun b => C b ∧ row ≠ some b) w w' := by
  cases row with
  | none =>
    obtain ⟨h1, h2⟩ := h.cstep (q := w.heap.size) ⟨hg.os, hg.tape, hg.output, hg.size, fun b hb _ => hg.block b hb (by simp)⟩ (Or.inr (Nat.le_refl _))
    exact ⟨h1, h2.size, fun b hb => h2.block b ⟨hb.1, fun e => by have := (h.lt b hb.1).1; omega⟩⟩
  | some q =>
    obtain ⟨h1, h2⟩ := h.cstep (q := q) ⟨hg.os, hg.tape, hg.output, hg.size, fun b hb hn => hg.block b hb (fun e => hn (Option.some.inj e))⟩ (Or.inl (hrow q rfl))
    exact ⟨h1, h2.size, fun b hb => h2.block b ⟨hb.1, fun e => hb.2 (by rw [e])⟩⟩
/-- append of one entry to a row of one's own. -/
theorem wpList_app_kp {w : World} {ops : Array Oper} {rest : List Oper} {o : Oper} {a : Act} {Q : Exit → Act → World → Prop} (hgd : o.guard = none) (s x : Operand)
    (ho : o.op = .call { callee := .builtin .append, args := #[s, x], argTypes := #[94, 94] }) (B : Nat) (rs : List Row) (v : Value) (hs : a.eval s = v) (hown : w.ownsRow B 79 5 v rs.length (flat rs))
    (b : Nat) (r : Row) (hx : a.eval x = .slice (some ⟨b, 0, none⟩) 1 1) (hrow : RowAt w b 0 r) (h1 : r.v.oneCell' = true) (hl : rs.length ≤ 1000000) (hB : B ≤ w.heap.size)
    (h : ∀ v' w', Hid (w'.ownsRow B 79 5 v' (rs.length + 1) (flat (rs ++ [r]))) → Hid (w.grownBy w' v.ownBlock) → Hid (v'.ownBlock = v.ownBlock ∨ v'.ownBlock = some w.heap.size) → wpList Tryz.prog ops Q rest (a.put o.dst v') w') : wpList Tryz.prog ops Q (o :: rest) a w := by
  obtain ⟨i0, hi0, hz0, hz1, hz2⟩ := insW_info
  refine wpList_app_wide (P := Tryz.prog) hgd s x 94 ho B 79 i0 zW 5 64 Tryz.underlying94 hi0 hz0 hz1 hz2 rfl (by decide) v rs.length (flat rs) hs hown b 0 1 1 (fun j => r.cells.getD j undef) hx (by decide) ?_ ?_ (by simp only [maxLen]; omega) (by omega) hB r.cells ?_ ?_
  · intro j hj
    have : j = 0 ∨ j = 1 ∨ j = 2 ∨ j = 3 ∨ j = 4 := by omega
    rcases this with rfl | rfl | rfl | rfl | rfl
    · exact hrow.c0
    · exact hrow.c1
    · exact hrow.c2
    · exact hrow.c3
    · exact hrow.c4
  · intro j hj
    have : j = 0 ∨ j = 1 ∨ j = 2 ∨ j = 3 ∨ j = 4 := by omega
    rcases this with rfl | rfl | rfl | rfl | rfl
    · rfl
    · rfl
    · exact h1
    · rfl
    · rfl
  · rfl
  · intro v' w' q1 q2 q3
    refine h v' w' ?_ q2 q3
    show World.ownsRow _ _ _ _ _ _ _
    unfold flat at q1 ⊢
    rw [List.flatMap_append]
    simpa using q1
theorem km_put {X : Str → Int} {f0 f : RS} {T : TT} {rs : List Row} (h : KM X f0 f T rs []) {r : Row} (ha : r.e.any = true) (hl : rs.length ≤ 20) (hg : r.e.g.length ≤ 30) : KM X f0 f (putsT r.e T (keepK f0 (X r.e.g))) (rs ++ [r]) [] := by
  obtain ⟨h1, h2⟩ := kept_put h.fine h.kept ha
  have e : keysE (entsOf (rs ++ [r])) = keysE (entsOf rs) ++ [keyOf r.e] := by unfold entsOf keysE; simp
  exact ⟨h.inv, h.inv0, h.since, by rw [e]; exact h1, by rw [e]; exact h2, by simp; omega, fun q hq => by
    rcases List.mem_append.1 hq with hq | hq
    · exact h.short q hq
    · rw [List.mem_singleton.1 hq]; exact hg⟩
theorem km_self {X : Str → Int} {f0 f : RS} {T : TT} {rs : List Row} {Dd : List Int} (h : KM X f0 f T rs Dd) (n : Int) : KM X f0 f (setT T n (tabs T n)) rs Dd :=
  ⟨h.inv, h.inv0, h.since, h.fine.self n, fun k hk m hm hn => has_self h.fine.few (h.kept k hk m hm hn), h.few, h.short⟩
theorem km_key {rs : List Row} {r : Row} (hr : r ∈ rs) : keyOf r.e ∈ keysE (entsOf rs) := by
  unfold keysE entsOf
  exact List.mem_map.2 ⟨r.e, List.mem_map.2 ⟨r, hr, rfl⟩, rfl⟩
theorem key_row {rs : List Row} {k : Str × Int} (hk : k ∈ keysE (entsOf rs)) : ∃ r ∈ rs, keyOf r.e = k := by
  unfold keysE entsOf at hk
  obtain ⟨e, he, h⟩ := List.mem_map.1 hk
  obtain ⟨r, hr, rfl⟩ := List.mem_map.1 he
  exact ⟨r, hr, h⟩
theorem km_plan {X : Str → Int} {f0 f : RS} {T : TT} {rs : List Row} {Dd : List Int} (h : KM X f0 f T rs Dd) (hD : Dd.length ≤ 2) {L : List Mv} (hL : ∀ m ∈ planU X f0 f (setS (rs.map fun r => r.e.g)), m ∈ L) :
    KM X f f (trimT (fun g => keepK f (X g)) (doL T L)) rs [] :=
  ⟨h.inv, h.inv, since_refl f, h.fine.doL.trim _, kept_plan h.inv0 h.inv h.fine h.kept (fun n hn => (h.since.gone n hn).2) h.since.stay hD (fun k hk => by
    obtain ⟨r, hr, rfl⟩ := key_row hk
    exact (mem_setS _ _).2 (List.mem_map.2 ⟨r, hr, rfl⟩)) hL, h.few, h.short⟩
theorem km_short {X : Str → Int} {f0 f : RS} {T : TT} {rs : List Row} {Dd : List Int} (h : KM X f0 f T rs Dd) (L : List Mv) : ∀ n l, doL T L n = some l → ∀ x ∈ l, x.g.length ≤ 1000000 := fun n l hl x hx => by
  have h1 := (h.fine.few.doL (L := L) n).2 x (by unfold tabs; rw [hl]; exact hx)
  obtain ⟨r, hr, e⟩ := key_row h1
  have : x.g = r.e.g := by unfold keyOf at e; exact (congrArg Prod.fst e).symm
  rw [this]
  exact Nat.le_trans (h.short r hr) (by omega)
theorem km_has {X : Str → Int} {f : RS} {T : TT} {rs : List Row} (h : KM X f f T rs []) {r : Row} (hr : r ∈ rs) {n : Int} (hn : n ∈ keepK f (X r.e.g)) : ∃ x ∈ kidsE (tabs T n) r.e.g, x.c = r.e.c ∧ x.any = true := by
  obtain ⟨x, hx, e⟩ := h.kept _ (km_key hr) n hn (by simp)
  have e1 : x.g = r.e.g := congrArg Prod.fst e
  have e2 : x.c = r.e.c := congrArg Prod.snd e
  exact ⟨cleanE x, mem_kids.2 ⟨x, hx, e1, rfl⟩, by rw [clean_c, e2], any_clean (h.fine.any n x hx)⟩
theorem plan_dom {X : Str → Int} {f0 f : RS} (I0 : Inv f0) (I : Inv f) {gs : List Str} {m : Mv} (hm : m ∈ planU X f0 f gs) : (0 ≤ m.fr ∧ m.fr < 32) ∧ 0 ≤ m.to ∧ m.to < 32 := by
  unfold planU at hm
  obtain ⟨g, _, hm⟩ := List.mem_flatMap.1 hm
  unfold planG at hm
  split at hm
  · simp at hm
  · rename_i o ho
    obtain ⟨n, hn, rfl⟩ := List.mem_map.1 hm
    have h1 := livesR_dom I0.dom (keepK_lives I0 _ _ (List.mem_of_find?_eq_some ho))
    have h2 := livesR_dom I.dom (keepK_lives I _ _ (List.mem_filter.1 hn).1)
    exact ⟨h1, h2⟩
end Go.Proofs.YtahiahjhpakeiaaGreatDoor
end
