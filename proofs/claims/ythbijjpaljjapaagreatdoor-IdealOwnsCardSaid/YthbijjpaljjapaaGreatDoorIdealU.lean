

/-
  IdealOwns walked.
-/
import Derived.Test.YthbijjpaljjapaaGreatDoorMade
import Derived.Test.YthbijjpaljjapaaGreatDoorIdealZ
namespace Go.Proofs.YthbijjpaljjapaaGreatDoor
open Go.RowKit Go.Maps Go.Sort Go.WideShapes Go.ChangeShapes Go.Deep
set_option linter.unusedVariables false
set_option linter.unusedSimpArgs false
attribute [local go_sem] later_cell later_frozen later_lt cell_set_off cell_set_block

theorem both_ok {S Q : Nat → Prop} {W w : World} {rb mb : Nat} {f : RS} {p : Where} (h : Both S Q W w rb mb f p) : RingOk W.heap.size W w rb mb f := by
  obtain ⟨g, hg⟩ := h.ring
  exact ⟨⟨g, hg.same (Nat.le_refl _) (fun _ _ _ => rfl) (fun b _ hS => h.low b hS) fun b hb => by have := h.below.size; omega⟩, h.inv, h.below⟩
/-- What Made leaves, as the laws use it that look at the ring alone. -/
theorem made_ring (W : World) (hH : HandleAt W) (v0 v1 : Value) (ids : List Int) (acts : List ActD) (n : Nat) (hi : SlAt 0 (fun i => .int .u64 (nth ids i)) ids.length W v0) (hp : ∀ x ∈ ids, isPlace x)
    (ha : ActsAt acts W v1) (hao : ∀ k, k < acts.length → (actAt acts k).ok) (hn : n ≤ 1000) (m : Int) (hm : m = n) : Calls Tryz.prog 15 #[v0, v1, .int .i64 m] W fun e w' =>
      (e = .returned (.tuple #[.pointer none, .agg #[.slice none 0 0, .slice none 0 0, .slice none 0 0, .slice none 0 0], .bool false]) ∧ RowKit.Below W.heap.size W w') ∨
      ∃ (rb mb : Nat) (f : RS) (p : Where), e = .returned (.tuple #[.pointer (some ⟨rb, 0, none⟩), (.agg #[.slice (some ⟨(p).b1, (p).o1, none⟩) 32 (p).k1, .slice (some ⟨(p).b2, (p).o2, none⟩) 32 (p).k2, .slice (some ⟨(p).b3, (p).o3, none⟩) 32 (p).k3, .slice (some ⟨(p).b4, (p).o4, none⟩) 32 (p).k4]), .bool true]) ∧ RingOk W.heap.size W w' rb mb f := by
  subst hm
  refine (made_any W hH v0 v1 ids acts n hi hp ha hao hn).mono fun e w' h => ?_
  unfold MadePost at h
  split at h
  · obtain ⟨rb, mb, f, p, S, Q, rfl, hB⟩ := h
    exact Or.inr ⟨rb, mb, f, p, rfl, both_ok hB⟩
  · exact Or.inl h

set_option linter.unusedSectionVars false
/-- The place ahead of place k, round the circle. -/
def prevK (n k : Nat) : Nat := if k = 0 then n - 1 else k - 1
theorem prevK_lt {n k : Nat} (h : k < n) : prevK n k < n := by unfold prevK; split <;> omega
theorem below_spec (s : List Int) (hs : Up s) (x : Int) : ∀ k, k < s.length → (nth s k < x ↔ k < below s x) := by
  induction s with
  | nil => intro k hk; simp at hk
  | cons y s ih =>
    have hp := List.pairwise_cons.1 hs
    intro k hk
    unfold below at *
    by_cases hy : y < x
    · rw [List.countP_cons_of_pos (by simpa using hy)]
      cases k with
      | zero => rw [nth_zero]; simp [hy]
      | succ k => rw [nth_succ, ih hp.2 k (by simpa using hk)]; omega
    · rw [List.countP_cons_of_neg (by simpa using hy)]
      have h0 : s.countP (fun z => decide (z < x)) = 0 := by
        rw [List.countP_eq_zero]
        intro z hz
        have := hp.1 z hz
        simp; omega
      rw [h0]
      cases k with
      | zero => rw [nth_zero]; simp [hy]
      | succ k =>
        rw [nth_succ]
        have hk' : k < s.length := by simpa using hk
        have := hp.1 _ (nth_mem.2 ⟨k, hk', rfl⟩)
        constructor
        · intro h; omega
        · intro h; omega
theorem ownerI_nat {s : List Int} (h : 0 < s.length) (x : Int) : ∃ i : Nat, i < s.length ∧ ownerI s x = i ∧ (i = if below s x = s.length then 0 else below s x) := by
  have := below_le s x
  refine ⟨if below s x = s.length then 0 else below s x, by split <;> omega, ?_, rfl⟩
  unfold ownerI
  rw [if_neg (by omega)]
  split <;> simp
/-- A place lies behind the one ahead of its owner, and of no other. -/
theorem parts_in {s : List Int} (hs : Up s) (hp : ∀ z ∈ s, isPlace z) {x : Int} (hx : isPlace x) {i : Nat} (ho : ownerI s x = i) (k : Nat) (hk : k < s.length) :
    inB x (nth s (prevK s.length k)) (nth s k) = decide (k = i) := by
  obtain ⟨i', hi', ho', hi2⟩ := ownerI_nat (s := s) (by omega) x
  have hii : i = i' := by omega
  subst hii
  have b := below_spec s hs x
  have hb := below_le s x
  have pk := hp _ (nth_mem.2 ⟨k, hk, rfl⟩)
  have pp := hp _ (nth_mem.2 ⟨_, prevK_lt hk, rfl⟩)
  have bk := b k hk
  have bp := b _ (prevK_lt hk)
  generalize hj : below s x = j at *
  by_cases h0 : k = 0
  · subst h0
    have hp0 : prevK s.length 0 = s.length - 1 := rfl
    rw [hp0] at bp pp ⊢
    by_cases h1 : s.length = 1
    · rw [h1]
      have : i = 0 := by omega
      subst this
      simp [inB]
    · have hlt := up_nth hs (i := 0) (j := s.length - 1) (by omega) (by omega)
      generalize nth s 0 = u at *
      generalize nth s (s.length - 1) = v at *
      rw [Bool.eq_iff_iff]
      unfold inB dist isPlace at *
      simp only [Bool.or_eq_true, Bool.and_eq_true, beq_iff_eq, bne_iff_ne, decide_eq_true_eq, ne_eq]
      split at hi2 <;> omega
  · have hp0 : prevK s.length k = k - 1 := by unfold prevK; rw [if_neg h0]
    rw [hp0] at bp pp ⊢
    have hlt := up_nth hs (i := k - 1) (j := k) (by omega) hk
    generalize nth s k = u at *
    generalize nth s (k - 1) = v at *
    rw [Bool.eq_iff_iff]
    unfold inB dist isPlace at *
    simp only [Bool.or_eq_true, Bool.and_eq_true, beq_iff_eq, bne_iff_ne, decide_eq_true_eq, ne_eq]
    split at hi2 <;> omega

/-- Which of the first k places is least far from x: -1: there is none. -/
def Best (s : List Int) (x : Int) (k : Nat) (b : Int) : Prop :=
  (k = 0 ∧ b = -1) ∨ ∃ j : Nat, j < k ∧ b = j ∧ (∀ i, i < j → dist x (nth s j) < dist x (nth s i)) ∧ ∀ i, i < k → dist x (nth s j) ≤ dist x (nth s i)
theorem best_first {s : List Int} {x : Int} {k : Nat} (h : Best s x k (-1)) : k = 0 := by
  rcases h with ⟨h, _⟩ | ⟨j, _, h, _⟩
  · exact h
  · omega
theorem best_start {s : List Int} {x : Int} {k : Nat} (h : k = 0) : Best s x (k + 1) k := by
  subst h
  refine Or.inr ⟨0, by omega, rfl, fun i hi => absurd hi (by omega), fun i hi => ?_⟩
  have : i = 0 := by omega
  subst this
  exact Int.le_refl _
theorem best_take {s : List Int} {x : Int} {k j : Nat} (h : Best s x k j) (hd : dist x (nth s k) < dist x (nth s j)) : Best s x (k + 1) k := by
  rcases h with ⟨_, h⟩ | ⟨j', h1, h2, h3, h4⟩
  · omega
  · have : j = j' := by omega
    subst this
    refine Or.inr ⟨k, by omega, rfl, fun i hi => ?_, fun i hi => ?_⟩
    · have := h4 i hi; omega
    · by_cases e : i = k
      · subst e; exact Int.le_refl _
      · have := h4 i (by omega); omega
theorem best_skip {s : List Int} {x : Int} {k j : Nat} (h : Best s x k j) (hd : ¬ dist x (nth s k) < dist x (nth s j)) : Best s x (k + 1) j := by
  rcases h with ⟨_, h⟩ | ⟨j', h1, h2, h3, h4⟩
  · omega
  · have : j = j' := by omega
    subst this
    refine Or.inr ⟨j, by omega, rfl, h3, fun i hi => ?_⟩
    by_cases e : i = k
    · subst e; omega
    · exact h4 i (by omega)
theorem best_all {s : List Int} (hs : Up s) (hp : ∀ z ∈ s, isPlace z) {x : Int} (hx : isPlace x) {b : Int} (h : Best s x s.length b) : b = ownerI s x := by
  rcases h with ⟨h, rfl⟩ | ⟨j, hj, rfl, h3, h4⟩
  · unfold ownerI; rw [if_pos h]
  · obtain ⟨i, hi, ho, hi2⟩ := ownerI_nat (s := s) (by omega) x
    rw [ho]
    have b := below_spec s hs x
    have hb := below_le s x
    have h1 := h4 i hi
    have hij : dist x (nth s i) ≤ dist x (nth s j) := by
      have pi := hp _ (nth_mem.2 ⟨i, hi, rfl⟩)
      have pj := hp _ (nth_mem.2 ⟨j, hj, rfl⟩)
      have bi := b i hi
      have bj := b j hj
      have hm : i ≤ j → nth s i ≤ nth s j := fun h => by
        rcases Nat.eq_or_lt_of_le h with rfl | h
        · exact Int.le_refl _
        · exact Int.le_of_lt (up_nth hs h hj)
      generalize hbe : below s x = c at *
      generalize nth s i = u at *
      generalize nth s j = v at *
      unfold dist isPlace at *
      split at hi2 <;> omega
    have hjj : ¬ i < j := fun h => by have := h3 i h; omega
    have hii : ¬ j < i := fun h => by
      have h5 := up_nth hs h hi
      have e : dist x (nth s i) = dist x (nth s j) := by omega
      have pi := hp _ (nth_mem.2 ⟨i, hi, rfl⟩)
      have pj := hp _ (nth_mem.2 ⟨j, hj, rfl⟩)
      generalize nth s i = u at *
      generalize nth s j = v at *
      unfold dist isPlace at *
      omega
    omega

section
variable {f : RS} (I : Inv f)
include I
theorem ids_place : ∀ z ∈ (circ f).map (idR f), isPlace z := fun z hz => by
  obtain ⟨n, _, rfl⟩ := List.mem_map.1 hz
  exact place_id I.dom n
theorem nth_ids {k : Nat} (hk : k < (circ f).length) : nth ((circ f).map (idR f)) k = idR f (nth (circ f) k) := by
  unfold nth; simp [hk]
/-- Who lives and is least far is the owner. -/
theorem owner_best {x : Int} (hx : isPlace x) {n : Int} (hn : livesR f n = true) (h : ∀ y, livesR f y = true → dist x (idR f n) ≤ dist x (idR f y)) : cOwner (circ f) ((circ f).map (idR f)) x = n := by
  obtain ⟨j, hj, rfl⟩ := nth_mem.1 ((circ_mem I).2 hn)
  have hb : Best ((circ f).map (idR f)) x ((circ f).map (idR f)).length j := by
    refine Or.inr ⟨j, by simpa using hj, rfl, fun i hi => ?_, fun i hi => ?_⟩
    · have hi2 : i < (circ f).length := by omega
      rw [nth_ids I hj, nth_ids I hi2]
      have h1 := h _ ((circ_mem I).1 (nth_mem.2 ⟨i, hi2, rfl⟩))
      have h2 := circ_mono I hi hj
      have p1 := place_id I.dom (nth (circ f) i)
      have p2 := place_id I.dom (nth (circ f) j)
      generalize idR f (nth (circ f) i) = u at *
      generalize idR f (nth (circ f) j) = v at *
      unfold dist isPlace at *
      omega
    · have hi2 : i < (circ f).length := by simpa using hi
      rw [nth_ids I hj, nth_ids I hi2]
      exact h _ ((circ_mem I).1 (nth_mem.2 ⟨i, hi2, rfl⟩))
  have hu : Up ((circ f).map (idR f)) := circ_up I
  have e := best_all hu (ids_place I) hx hb
  unfold cOwner
  rw [← e, if_neg (by omega)]
  rfl
/-- Which member of the circle it is. -/
theorem cAt_nat (x : Int) : ∃ i : Nat, i < (circ f).length ∧ cAt (circ f) x = nth (circ f) i ∧ cAt (circ f) (x + 1) = nth (circ f) ((i + 1) % (circ f).length) ∧ x % ((circ f).length : Int) = i := by
  have h4 : 4 ≤ (circ f).length := by rw [circ_len]; exact live4 I
  obtain ⟨i, hi⟩ : ∃ i : Nat, x % ((circ f).length : Int) = i := ⟨(x % ((circ f).length : Int)).toNat, by have := Int.emod_nonneg x (show ((circ f).length : Int) ≠ 0 by omega); omega⟩
  have hil : i < (circ f).length := by have := Int.emod_lt_of_pos x (show (0 : Int) < ((circ f).length : Int) by omega); omega
  have e1 : cAt (circ f) x = nth (circ f) i := by unfold cAt; rw [hi]; rfl
  have e2 : cAt (circ f) (x + 1) = nth (circ f) ((i + 1) % (circ f).length) := by
    unfold cAt
    rw [← Int.emod_add_emod, hi]
    congr 1
  exact ⟨i, hil, e1, e2, hi⟩
theorem cAt_lives (x : Int) : livesR f (cAt (circ f) x) = true := by
  obtain ⟨i, hi, e, _⟩ := cAt_nat I x
  rw [e]; exact (circ_mem I).1 (nth_mem.2 ⟨i, hi, rfl⟩)
theorem cAt_ne (x : Int) : cAt (circ f) (x + 1) ≠ cAt (circ f) x := fun e => by
  have h4 : 4 ≤ (circ f).length := by rw [circ_len]; exact live4 I
  obtain ⟨i, hi, e1, e2, _⟩ := cAt_nat I x
  rw [e1, e2] at e
  rcases Nat.lt_or_ge (i + 1) (circ f).length with h | h
  · rw [Nat.mod_eq_of_lt h] at e
    have := circ_mono I (Nat.lt_succ_self i) h
    rw [e] at this; omega
  · rw [show i + 1 = (circ f).length by omega, Nat.mod_self] at e
    have := circ_mono I (a := 0) (b := i) (by omega) hi
    rw [e] at this; omega
/-- Nobody is nearer behind a member than the next one. -/
theorem next_near (x : Int) {y : Int} (hy : livesR f y = true) (hne : y ≠ cAt (circ f) x) : dist (idR f (cAt (circ f) x)) (idR f (cAt (circ f) (x + 1))) ≤ dist (idR f (cAt (circ f) x)) (idR f y) := by
  have h4 : 4 ≤ (circ f).length := by rw [circ_len]; exact live4 I
  obtain ⟨i, hi, e1, e2, _⟩ := cAt_nat I x
  rw [e1] at hne ⊢
  rw [e2]
  obtain ⟨j, hj, rfl⟩ := nth_mem.1 ((circ_mem I).2 hy)
  have hij : j ≠ i := fun e => hne (by rw [e])
  have p1 := place_id I.dom (nth (circ f) i)
  have p2 := place_id I.dom (nth (circ f) j)
  have p3 := place_id I.dom (nth (circ f) ((i + 1) % (circ f).length))
  rcases Nat.lt_or_ge (i + 1) (circ f).length with h | h
  · rw [Nat.mod_eq_of_lt h] at p3 ⊢
    have m1 := circ_mono I (Nat.lt_succ_self i) h
    rcases Nat.lt_or_ge j i with h1 | h1
    · have m2 := circ_mono I h1 hi
      generalize idR f (nth (circ f) i) = u at *
      generalize idR f (nth (circ f) j) = v at *
      generalize idR f (nth (circ f) (i + 1)) = t at *
      unfold dist isPlace at *
      omega
    · have m2 : idR f (nth (circ f) (i + 1)) ≤ idR f (nth (circ f) j) := by
        rcases Nat.eq_or_lt_of_le (show i + 1 ≤ j by omega) with h2 | h2
        · rw [h2]; exact Int.le_refl _
        · exact Int.le_of_lt (circ_mono I h2 hj)
      generalize idR f (nth (circ f) i) = u at *
      generalize idR f (nth (circ f) j) = v at *
      generalize idR f (nth (circ f) (i + 1)) = t at *
      unfold dist isPlace at *
      omega
  · rw [show i + 1 = (circ f).length by omega, Nat.mod_self] at p3 ⊢
    have m1 := circ_mono I (a := j) (b := i) (by omega) hi
    have m2 : idR f (nth (circ f) 0) ≤ idR f (nth (circ f) j) := by
      rcases Nat.eq_or_lt_of_le (Nat.zero_le j) with h2 | h2
      · rw [← h2]; exact Int.le_refl _
      · exact Int.le_of_lt (circ_mono I h2 hj)
    generalize idR f (nth (circ f) i) = u at *
    generalize idR f (nth (circ f) j) = v at *
    generalize idR f (nth (circ f) 0) = t at *
    unfold dist isPlace at *
    omega
/-- The owner of the place behind a member is the next one. -/
theorem owner_next (x : Int) : cOwner (circ f) ((circ f).map (idR f)) ((idR f (cAt (circ f) x) + 1) % 18446744073709551616) = cAt (circ f) (x + 1) := by
  refine owner_best I (by unfold isPlace; omega) (cAt_lives I _) fun y hy => ?_
  have pn := place_id I.dom (cAt (circ f) x)
  have py := place_id I.dom y
  have ph := place_id I.dom (cAt (circ f) (x + 1))
  have hh : idR f (cAt (circ f) (x + 1)) ≠ idR f (cAt (circ f) x) := fun e => cAt_ne I x (I.uniq _ _ (cAt_lives I _) (cAt_lives I _) e)
  by_cases e : y = cAt (circ f) x
  · rw [e]
    generalize idR f (cAt (circ f) x) = u at *
    generalize idR f (cAt (circ f) (x + 1)) = t at *
    unfold dist isPlace at *
    omega
  · have h1 := next_near I x hy e
    have h2 : idR f y ≠ idR f (cAt (circ f) x) := fun e2 => e (I.uniq _ _ hy (cAt_lives I _) e2)
    generalize idR f (cAt (circ f) x) = u at *
    generalize idR f (cAt (circ f) (x + 1)) = t at *
    generalize idR f y = v at *
    unfold dist isPlace at *
    omega
/-- The owner of a member's own place is it. -/
theorem owner_self {n : Int} (hn : livesR f n = true) : cOwner (circ f) ((circ f).map (idR f)) (idR f n) = n := by
  refine owner_best I (place_id I.dom n) hn fun y hy => ?_
  have pn := place_id I.dom n
  have py := place_id I.dom y
  generalize idR f n = u at *
  generalize idR f y = v at *
  unfold dist isPlace at *
  omega
end

set_option linter.unusedSectionVars false
section
variable {f : RS} (I : Inv f)
include I
theorem circ_nodup : (circ f).Nodup := by
  refine List.pairwise_iff_getElem.2 fun i j hi hj hij e => ?_
  have := circ_mono I hij hj
  rw [nth_eq hj, nth_eq hi, e] at this
  omega
theorem cAt_idx (x : Int) : idxI (circ f) (cAt (circ f) x) = x % ((circ f).length : Int) := by
  obtain ⟨i, hi, e1, _, e2⟩ := cAt_nat I x
  rw [e1, idxI_at (circ_nodup I) hi, e2]
theorem cAt_mod (x y : Int) : cAt (circ f) (x % ((circ f).length : Int) + y) = cAt (circ f) (x + y) := by
  unfold cAt
  rw [Int.emod_add_emod]
theorem cAt_inj {x y : Int} (h : cAt (circ f) x = cAt (circ f) y) : x % ((circ f).length : Int) = y % ((circ f).length : Int) := by
  rw [← cAt_idx I, ← cAt_idx I, h]
theorem cAt_zero : ∃ i0 : Nat, i0 < (circ f).length ∧ cAt (circ f) i0 = 0 := by
  obtain ⟨i, hi, e⟩ := nth_mem.1 ((circ_mem I).2 (I.base 0 (by omega) (by omega)))
  refine ⟨i, hi, ?_⟩
  unfold cAt
  rw [show ((i : Int) % ((circ f).length : Int)).toNat = i by rw [Int.emod_eq_of_lt (by omega) (by omega)]; simp]
  exact e
/-- What a member of the circle is told. -/
theorem know_at (x : Int) {w w' : World} {e : Ending} (h : KnowPost w (circ f) ((circ f).map (idR f)) (cAt (circ f) x) e w') :
    ∃ (v : Value) (l : List Int), e = .returned (.tuple #[.agg #[.int .u64 (idR f (cAt (circ f) x)), .int .i64 (cAt (circ f) (x - 1)), v], .bool true]) ∧ l.length = 3 ∧ nth l 0 = cAt (circ f) (x + 1) ∧
      l = [cAt (circ f) (x + 1), cAt (circ f) (x + 2), cAt (circ f) (x + 3)] ∧ SlAt w.heap.size (fun i => .int .i64 (nth l i)) 3 w' v ∧ RowKit.Below w.heap.size w w' := by
  have h4 : 4 ≤ (circ f).length := by rw [circ_len]; exact live4 I
  have hge : ¬ idxI (circ f) (cAt (circ f) x) < 0 := by rw [cAt_idx I]; have := Int.emod_nonneg x (show ((circ f).length : Int) ≠ 0 by omega); omega
  obtain ⟨v, rfl, hs, hb⟩ := h.yes hge
  have hn : cNum (circ f) = 3 := by unfold cNum; omega
  rw [hn, cAt_idx I] at hs
  rw [cAt_idx I]
  obtain ⟨i, hi, e1, _, e2⟩ := cAt_nat I x
  have l0 : cSuc (circ f) (x % ((circ f).length : Int)) 3 = [cAt (circ f) (x + 1), cAt (circ f) (x + 2), cAt (circ f) (x + 3)] := by
    simp only [cSuc, List.range_succ, List.range_zero, List.nil_append, List.map_append, List.map_cons, List.map_nil, List.cons_append]
    rw [show x % ((circ f).length : Int) + 1 + ((0 : Nat) : Int) = x % ((circ f).length : Int) + 1 by omega, show x % ((circ f).length : Int) + 1 + ((1 : Nat) : Int) = x % ((circ f).length : Int) + 2 by omega, show x % ((circ f).length : Int) + 1 + ((2 : Nat) : Int) = x % ((circ f).length : Int) + 3 by omega, cAt_mod I, cAt_mod I, cAt_mod I]
  rw [l0] at hs
  refine ⟨v, _, ?_, rfl, rfl, rfl, hs, hb⟩
  rw [show x % ((circ f).length : Int) - 1 = x % ((circ f).length : Int) + (-1) by omega, cAt_mod I, show x + -1 = x - 1 by omega, e2, e1]
  rw [show ((i : Int)).toNat = i by simp, nth_ids I hi]
end

/-- A place lies behind the one ahead of its owner, and of no other. -/
theorem owns_iff {f : RS} (I : Inv f) {X : Int} (hX : isPlace X) (x : Int) : (cOwner (circ f) ((circ f).map (idR f)) X == cAt (circ f) x) =
    decide (IntKind.u64.wrap (IntKind.u64.wrap (X - idR f (cAt (circ f) (x - 1))) - 1) < IntKind.u64.wrap (idR f (cAt (circ f) x) - idR f (cAt (circ f) (x - 1)))) := by
  have h4 : 4 ≤ (circ f).length := by rw [circ_len]; exact live4 I
  obtain ⟨k, hk, e1, _, e2⟩ := cAt_nat I x
  have hlen : ((circ f).map (idR f)).length = (circ f).length := by simp
  obtain ⟨i, hi, ho, _⟩ := ownerI_nat (s := (circ f).map (idR f)) (by omega) X
  have hin := parts_in (circ_up I) (ids_place I) hX ho k (by omega)
  rw [hlen] at hin hi
  have hpk := prevK_lt hk
  rw [nth_ids I hpk, nth_ids I hk] at hin
  have hprev : cAt (circ f) (x - 1) = nth (circ f) (prevK (circ f).length k) := by
    rw [show x - 1 = x + (-1) by omega, ← cAt_mod I, e2]
    unfold cAt prevK
    by_cases h0 : k = 0
    · rw [if_pos h0, h0, show ((0 : Nat) : Int) + -1 = ((circ f).length - 1 : Nat) - ((circ f).length : Int) by omega, Int.sub_emod_right, Int.emod_eq_of_lt (by omega) (by omega)]; simp
    · rw [if_neg h0, show (k : Int) + -1 = ((k - 1 : Nat) : Int) by omega, Int.emod_eq_of_lt (by omega) (by omega)]; simp
  have hne : idR f (cAt (circ f) (x - 1)) ≠ idR f (cAt (circ f) x) := fun e => by
    have := I.uniq _ _ (cAt_lives I _) (cAt_lives I _) e
    have h2 := cAt_ne I (x - 1)
    rw [show x - 1 + 1 = x by omega] at h2
    exact h2 this.symm
  have hlhs : (cOwner (circ f) ((circ f).map (idR f)) X == cAt (circ f) x) = decide (k = i) := by
    unfold cOwner
    rw [ho, if_neg (by omega), e1, show ((i : Int)).toNat = i by simp, Bool.eq_iff_iff, beq_iff_eq, decide_eq_true_eq]
    constructor
    · intro e
      rcases Nat.lt_trichotomy i k with h | h | h
      · have := circ_mono I h hk; rw [e] at this; omega
      · exact h.symm
      · have := circ_mono I h hi; rw [e] at this; omega
    · intro e; rw [e]
  rw [hlhs, ← hin, ← hprev, ← e1]
  have p1 := place_id I.dom (cAt (circ f) (x - 1))
  have p2 := place_id I.dom (cAt (circ f) x)
  generalize idR f (cAt (circ f) (x - 1)) = a at *
  generalize idR f (cAt (circ f) x) = b at *
  rw [Bool.eq_iff_iff]
  simp only [IntKind.wrap_u64]
  unfold inB dist isPlace at *
  simp only [Bool.or_eq_true, Bool.and_eq_true, beq_iff_eq, bne_iff_ne, decide_eq_true_eq, ne_eq]
  omega
theorem finger_zero {f : RS} (I : Inv f) (x : Int) : cFinger (circ f) ((circ f).map (idR f)) (cAt (circ f) x) 0 = cAt (circ f) (x + 1) := by
  have h4 : 4 ≤ (circ f).length := by rw [circ_len]; exact live4 I
  obtain ⟨i, hi, e1, _, e2⟩ := cAt_nat I x
  unfold cFinger
  rw [cAt_idx I, e2, if_neg (by omega), show ((i : Int)).toNat = i by simp, nth_ids I hi, ← e1]
  exact owner_next I x
theorem cAt_of {f : RS} (I : Inv f) {n : Int} (h : livesR f n = true) : ∃ x : Nat, n = cAt (circ f) x := by
  obtain ⟨i, hi, rfl⟩ := nth_mem.1 ((circ_mem I).2 h)
  refine ⟨i, ?_⟩
  unfold cAt
  rw [Int.emod_eq_of_lt (by omega) (by omega)]; simp
theorem owner_lives {f : RS} (I : Inv f) (X : Int) : livesR f (cOwner (circ f) ((circ f).map (idR f)) X) = true := by
  have h4 : 4 ≤ (circ f).length := by rw [circ_len]; exact live4 I
  have hlen : ((circ f).map (idR f)).length = (circ f).length := by simp
  obtain ⟨i, hi, ho, _⟩ := ownerI_nat (s := (circ f).map (idR f)) (by omega) X
  unfold cOwner
  rw [ho, if_neg (by omega)]
  exact (circ_mem I).1 (nth_mem.2 ⟨i, by omega, rfl⟩)
set_option maxRecDepth 100000 in
set_option maxHeartbeats 8000000 in
theorem idealOwns_main (W : World) (hH : HandleAt W) (v0 v1 : Value) (ids : List Int) (acts : List ActD) (X : Int) (hX : isPlace X) (hi : SlAt 0 (fun i => .int .u64 (nth ids i)) ids.length W v0) (hp : ∀ x ∈ ids, isPlace x)
    (ha : ActsAt acts W v1) (hao : ∀ k, k < acts.length → (actAt acts k).ok) : Calls Tryz.prog 5 #[v0, v1, .int .u64 X] W (OneYes W) := by
  have CM := Lib.hid (made_ring W hH v0 v1 ids acts 30 hi hp ha hao (by omega) 30 rfl)
  clear hi hp ha hao hH
  go_enter Tryz.func5, Tryz.ntmps5
  go_wp2_with fail
  refine CM.out.mono ?_
  rintro e w1 (hm | ⟨rb, mb, f, p, rfl, hR⟩)
  · obtain ⟨rfl, hB1⟩ := hm
    go_wp2_with fail
    refine (awake11_any _).mono ?_
    rintro e w2 ⟨rfl, hB2⟩
    go_wp2_with fail
    go_ret
    exact ⟨rfl, bel_below (bel_below hB1 (bel_alloc (RowKit.Below.refl _ _) _)) hB2⟩
  · have R1 := Lib.hid hR
    have I := hR.inv
    have hlen : (circ f).length ≤ 32 := by rw [circ_len]; exact length_liveL f
    have HKN := Lib.hid (fun x w w' e h => know_at I x (w := w) (w' := w') (e := e) h)
    have HOI := Lib.hid (fun x => owns_iff I hX x)
    have HFZ := Lib.hid (fun x => finger_zero I x)
    have HON := Lib.hid (fun x => owner_next I x)
    have HOS := Lib.hid (fun n h => owner_self I (n := n) h)
    have HLI := Lib.hid (fun x => cAt_lives I x)
    have HOF := Lib.hid (fun n h => cAt_of I (n := n) h)
    have hol := owner_lives I X
    have hoo := livesR_dom I.dom hol
    have HUP : Hid (Up ((circ f).map (idR f))) := circ_up I
    have hll := length_liveL f
    have hmem := Lib.hid (fun x (hx : x ∈ liveL f) => (mem_liveL I.dom).1 hx)
    clear hR CM I
    go_wp2_with fail
    obtain ⟨w2, hw2⟩ : ∃ z, z = w1.alloc (.cells #[.slice (some ⟨p.b1, p.o1, none⟩) 32 p.k1, .slice (some ⟨p.b2, p.o2, none⟩) 32 p.k2, .slice (some ⟨p.b3, p.o3, none⟩) 32 p.k3, .slice (some ⟨p.b4, p.o4, none⟩) 32 p.k4] 35) := ⟨_, rfl⟩
    have R2 : Hid (RingOk W.heap.size W w2 rb mb f) := by rw [hw2]; exact R1.out.later (bel_alloc (RowKit.Below.refl _ _) _)
    rw [← hw2]
    clear hw2 R1
    obtain ⟨g2, G2⟩ := R2.out.ring
    refine (of_at G2 R2.out.inv).mono ?_
    rintro e w3 ⟨av, iv, rfl, hav, hiv, hB3⟩
    have R3 := Lib.hid (R2.out.later hB3)
    obtain ⟨aa, ac, rfl, _⟩ := hav.slice
    obtain ⟨ia, ic, rfl, _⟩ := hiv.slice
    have AV := fun (wr : World) (hb : RowKit.Below w3.heap.size w3 wr) => (hav.base (Nat.zero_le _)).below hb
    have IV := fun (wr : World) (hb : RowKit.Below w3.heap.size w3 wr) => (by have := (hiv.base (Nat.zero_le _)).below hb; simpa using this : SlAt 0 (fun i => .int .u64 (nth ((circ f).map (idR f)) i)) ((circ f).map (idR f)).length wr (.slice ia (circ f).length ic))
    have CP := Lib.hid fun (wr : World) (hb : RowKit.Below w3.heap.size w3 wr) (n : Int) => cpeer_at wr (circ f) ((circ f).map (idR f)) _ _ (AV wr hb) (IV wr hb) (by simp) (by omega) n
    have CO := Lib.hid fun (wr : World) (hb : RowKit.Below w3.heap.size w3 wr) (x : Int) => cowner_at wr (circ f) ((circ f).map (idR f)) _ _ (AV wr hb) (IV wr hb) (by simp) (by omega) HUP.out x
    have CF := Lib.hid fun (wr : World) (hb : RowKit.Below w3.heap.size w3 wr) (n k : Int) => finger_at wr (circ f) ((circ f).map (idR f)) _ _ (AV wr hb) (IV wr hb) (by simp) (by omega) HUP.out n k
    have CV := Lib.hid fun (wr : World) (hb : RowKit.Below w2.heap.size w2 wr) => live_at (G2.below hb)
    have CL := Lib.hid fun (wr : World) (hb : RowKit.Below w2.heap.size w2 wr) => lives_at (G2.below hb) (cOwner (circ f) ((circ f).map (idR f)) X) (okInt_dom (by omega) (by omega))
    have B3 := Lib.hid hB3
    clear hav hiv hB3 G2 AV IV HUP
    obtain ⟨o, ho⟩ : ∃ o, o = cOwner (circ f) ((circ f).map (idR f)) X := ⟨_, rfl⟩
    have HO := Lib.hid ho
    rw [← ho] at CL hol hoo
    rw [hol] at CL
    clear hol ho hoo
    obtain ⟨L, hL⟩ : ∃ L, L = liveL f := ⟨_, rfl⟩
    rw [← hL] at CV hmem hll
    clear hL
    obtain ⟨Y, hY⟩ : ∃ Y, Y = w3.heap.size := ⟨_, rfl⟩
    go_upto_region 5 with (fail)
    obtain ⟨cl, hcl⟩ : ∃ cl, cl = (circ f).length := ⟨_, rfl⟩
    rw [← hcl] at CP CO CF hlen ⊢
    clear hcl
    obtain ⟨w4, hw4⟩ : ∃ z, z = w3.alloc (.cells #[.slice aa cl ac, .slice ia cl ic] 54) := ⟨_, rfl⟩
    have B4 : Hid (RowKit.Below w3.heap.size w3 w4) := by rw [hw4]; exact bel_alloc (RowKit.Below.refl _ _) _
    have x0 : w4.cell? ⟨Y, 0, none⟩ = some (.slice aa cl ac) := by rw [hw4, hY]; simp [go_sem]
    have x1 : w4.cell? ⟨Y, 1, none⟩ = some (.slice ia cl ic) := by rw [hw4, hY]; simp [go_sem]
    have zY : Y < w4.heap.size := by rw [hw4, hY]; simp
    have R4 := Lib.hid (R3.out.later B4.out)
    have B24 := Lib.hid (bel_below B3.out B4.out)
    rw [← hw4, ← hY]
    clear hw4 hY R3 R2
    go_wp2_with fail
    refine (CO.out _ B4.out X).mono ?_
    rintro e w5 ⟨rfl, hb5⟩
    rw [← HO.out]
    have x0 := (hb5.cell (p := ⟨Y, 0, none⟩) zY).trans x0
    have x1 := (hb5.cell (p := ⟨Y, 1, none⟩) zY).trans x1
    have zY := Nat.lt_of_lt_of_le zY hb5.size
    have B5 := Lib.hid hb5
    clear hb5
    go_wp2_with fail
    refine (CL.out _ (bel_below B24.out B5.out)).mono ?_
    rintro e w6 ⟨rfl, rfl⟩
    go_wp2_with fail
    refine (CV.out _ (bel_below B24.out B5.out)).mono ?_
    rintro e w7 ⟨v7, rfl, hs7, hb7⟩
    obtain ⟨a7, q7, rfl, _⟩ := hs7.slice
    have S7 := Lib.hid hs7
    have x0 := (hb7.cell (p := ⟨Y, 0, none⟩) zY).trans x0
    have x1 := (hb7.cell (p := ⟨Y, 1, none⟩) zY).trans x1
    have zY := Nat.lt_of_lt_of_le zY hb7.size
    have B7 := Lib.hid (bel_below B5.out hb7)
    clear hs7 hb7 CV CL
    have X7 : Hid (w7.cell? ⟨Y, 0, none⟩ = some (.slice aa cl ac) ∧ w7.cell? ⟨Y, 1, none⟩ = some (.slice ia cl ic) ∧ Y < w7.heap.size) := ⟨x0, x1, zY⟩
    clear x0 x1 zY
    go_wp2_with fail
    go_loopw [13, 14, 15, 16, 39] (fun _ _ _ _ i wr => ∃ k : Nat, k ≤ L.length ∧ i = .int .i64 k ∧ Hid (RowKit.Below w7.heap.size w7 wr)) (fun _ _ _ _ i _ => L.length - (intOf i).toNat)
    case atStart => exact ⟨0, Nat.zero_le _, rfl, RowKit.Below.refl _ _⟩
    case round =>
      obtain ⟨k, hk, rfl, hB⟩ := hrel
      have x0 := (hB.out.cell (p := ⟨Y, 0, none⟩) X7.out.2.2).trans X7.out.1
      have x1 := (hB.out.cell (p := ⟨Y, 1, none⟩) X7.out.2.2).trans X7.out.2.1
      have zY := Nat.lt_of_lt_of_le X7.out.2.2 hB.out.size
      have B47 := Lib.hid (bel_below B4.out (bel_below B7.out hB.out))
      by_cases hlt : k < L.length
      · obtain ⟨b, off, rfl, _, hb, hck⟩ := S7.out.at k hlt wr hB.out
        obtain ⟨x, hx⟩ := HOF.out _ (hmem.out _ (nth_mem.2 ⟨k, hlt, rfl⟩))
        obtain ⟨n, hn⟩ : ∃ n, n = nth L k := ⟨_, rfl⟩
        rw [← hn] at hck hx
        have HX := Lib.hid hx
        clear hn hx
        go_wp2_with fail
        refine (CP.out _ B47.out n).mono ?_
        intro e w8 hk8
        have hs0 := HOS.out _ (HLI.out x)
        have hs1 := HON.out x
        have hs2 := HFZ.out x
        have hs3 := HOI.out x
        rw [HX.out] at hk8
        obtain ⟨v, l, rfl, hl3, hl0, _, hs, hb8⟩ := HKN.out _ _ _ _ hk8
        rw [← HX.out] at hs0 hs1 hs2 hs3 ⊢
        obtain ⟨va, vc, rfl, _⟩ := hs.slice
        obtain ⟨vb, vo, rfl, _, hvz, hv0⟩ := hs.at 0 (by decide) w8 (RowKit.Below.refl _ _)
        rw [hl0, Nat.add_zero] at hv0
        have x0 := (hb8.cell (p := ⟨Y, 0, none⟩) zY).trans x0
        have x1 := (hb8.cell (p := ⟨Y, 1, none⟩) zY).trans x1
        have zY := Nat.lt_of_lt_of_le zY hb8.size
        have B8 := Lib.hid (bel_below B47.out hb8)
        have B8w := Lib.hid (bel_below hB.out hb8)
        clear hk8 hs hb8 hl0 hl3 hb hck
        obtain ⟨s1, hs1'⟩ : ∃ s1, s1 = cAt (circ f) (x + 1) := ⟨_, rfl⟩
        obtain ⟨pr, hpr⟩ : ∃ pr, pr = cAt (circ f) ((x : Int) - 1) := ⟨_, rfl⟩
        obtain ⟨idn, hidn⟩ : ∃ idn, idn = idR f n := ⟨_, rfl⟩
        rw [← hs1'] at hv0 hs1 hs2
        rw [← hpr] at hs3 ⊢
        rw [← hidn] at hs0 hs1 hs3 ⊢
        have hs1w : cOwner (circ f) ((circ f).map (idR f)) (IntKind.u64.wrap (idn + 1)) = s1 := by rw [IntKind.wrap_u64]; exact hs1
        have C1 := Lib.hid fun wr' (hb : RowKit.Below w8.heap.size w8 wr') => CO.out wr' (bel_below B8.out hb) idn
        rw [hs0] at C1
        have C2 := Lib.hid fun wr' (hb : RowKit.Below w8.heap.size w8 wr') => CO.out wr' (bel_below B8.out hb) (IntKind.u64.wrap (idn + 1))
        rw [hs1w] at C2
        have C3 := Lib.hid fun wr' (hb : RowKit.Below w8.heap.size w8 wr') => CF.out wr' (bel_below B8.out hb) n 0
        rw [hs2] at C3
        have HPR := Lib.hid hpr
        rw [← HO.out] at hs3
        have H3 := Lib.hid hs3
        clear hs0 hs1 hs2 hs3 hs1w hs1' hpr hidn
        go_upto_region 12 with (fail)
        obtain ⟨w9, hw9⟩ : ∃ z, z = w8.alloc (.cells #[.int .u64 idn, .int .i64 pr, .slice (some ⟨vb, vo, none⟩) 3 vc] 63) := ⟨_, rfl⟩
        obtain ⟨Z, hZ⟩ : ∃ Z, Z = w8.heap.size := ⟨_, rfl⟩
        have b89 : RowKit.Below w8.heap.size w8 w9 := by rw [hw9]; exact bel_alloc (RowKit.Below.refl _ _) _
        have z0 : w9.cell? ⟨Z, 0, none⟩ = some (.int .u64 idn) := by rw [hw9, hZ]; simp [go_sem]
        have z1 : w9.cell? ⟨Z, 1, none⟩ = some (.int .i64 pr) := by rw [hw9, hZ]; simp [go_sem]
        have z2 : w9.cell? ⟨Z, 2, none⟩ = some (.slice (some ⟨vb, vo, none⟩) 3 vc) := by rw [hw9, hZ]; simp [go_sem]
        have zZ : Z < w9.heap.size := by rw [hw9, hZ]; simp
        have v0 := (b89.cell (p := ⟨vb, vo, none⟩) hvz).trans hv0
        have zv := Nat.lt_of_lt_of_le hvz b89.size
        have x0 := (b89.cell (p := ⟨Y, 0, none⟩) zY).trans x0
        have x1 := (b89.cell (p := ⟨Y, 1, none⟩) zY).trans x1
        have zY := Nat.lt_of_lt_of_le zY b89.size
        have B9 := Lib.hid b89
        rw [← hw9, ← hZ]
        clear hw9 hZ b89 hv0 hvz
        have D1 := Lib.hid fun wr' (hb : RowKit.Below w9.heap.size w9 wr') => C1.out wr' (bel_below B9.out hb)
        have D2 := Lib.hid fun wr' (hb : RowKit.Below w9.heap.size w9 wr') => C2.out wr' (bel_below B9.out hb)
        have D3 := Lib.hid fun wr' (hb : RowKit.Below w9.heap.size w9 wr') => C3.out wr' (bel_below B9.out hb)
        clear C1 C2 C3
        go_wp2_with fail
        refine wp_region_calm (by kernel_rfl) (by kernel_rfl) ?_
        repeat (first | (go_big_quiet_step ((first | (go_at_call_of 20 (Value.int .u64 idn); exact calls_calm (D1.out _ (by (repeat (first | exact Below.refl _ _ | (with_reducible assumption) | (with_reducible refine bel_later ?_ _) | (with_reducible refine bel_alloc ?_ _) | (with_reducible refine bel_drew ?_) | (with_reducible refine bel_drewN ?_ _) | (with_reducible refine bel_set ?_ (by first | (simp; done) | (simp; omega) | (dsimp only; omega)) _)))))) | (go_at_call 20; exact calls_calm (D2.out _ (by (repeat (first | exact Below.refl _ _ | (with_reducible assumption) | (with_reducible refine bel_later ?_ _) | (with_reducible refine bel_alloc ?_ _) | (with_reducible refine bel_drew ?_) | (with_reducible refine bel_drewN ?_ _) | (with_reducible refine bel_set ?_ (by first | (simp; done) | (simp; omega) | (dsimp only; omega)) _)))))) | (go_at_call 26; exact calls_calm (D3.out _ (by (repeat (first | exact Below.refl _ _ | (with_reducible assumption) | (with_reducible refine bel_later ?_ _) | (with_reducible refine bel_alloc ?_ _) | (with_reducible refine bel_drew ?_) | (with_reducible refine bel_drewN ?_ _) | (with_reducible refine bel_set ?_ (by first | (simp; done) | (simp; omega) | (dsimp only; omega)) _))))))))) | (refine wpQuiet_step (fun K hK => ?_); go_simp; first | (refine hK _ ?_; clear hK K) | (apply Exists.intro; refine ⟨fun _ => ?_, hK _ ?_⟩; (first | (go_at_call_of 20 (Value.int .u64 idn); exact calls_calm (D1.out _ (by (repeat (first | exact Below.refl _ _ | (with_reducible assumption) | (with_reducible refine bel_later ?_ _) | (with_reducible refine bel_alloc ?_ _) | (with_reducible refine bel_drew ?_) | (with_reducible refine bel_drewN ?_ _) | (with_reducible refine bel_set ?_ (by first | (simp; done) | (simp; omega) | (dsimp only; omega)) _)))))) | (go_at_call 20; exact calls_calm (D2.out _ (by (repeat (first | exact Below.refl _ _ | (with_reducible assumption) | (with_reducible refine bel_later ?_ _) | (with_reducible refine bel_alloc ?_ _) | (with_reducible refine bel_drew ?_) | (with_reducible refine bel_drewN ?_ _) | (with_reducible refine bel_set ?_ (by first | (simp; done) | (simp; omega) | (dsimp only; omega)) _)))))) | (go_at_call 26; exact calls_calm (D3.out _ (by (repeat (first | exact Below.refl _ _ | (with_reducible assumption) | (with_reducible refine bel_later ?_ _) | (with_reducible refine bel_alloc ?_ _) | (with_reducible refine bel_drew ?_) | (with_reducible refine bel_drewN ?_ _) | (with_reducible refine bel_set ?_ (by first | (simp; done) | (simp; omega) | (dsimp only; omega)) _))))))); clear hK K)))
        refine wpQuiet_nil ?_
        intro _ hw'
        obtain ⟨xq, hw''⟩ := hw'
        subst hw''
        obtain ⟨wA, hbA⟩ := xq
        dsimp only
        have z0 := (hbA.cell (p := ⟨Z, 0, none⟩) zZ).trans z0
        have z1 := (hbA.cell (p := ⟨Z, 1, none⟩) zZ).trans z1
        have x0 := (hbA.cell (p := ⟨Y, 0, none⟩) zY).trans x0
        have x1 := (hbA.cell (p := ⟨Y, 1, none⟩) zY).trans x1
        have zY := Nat.lt_of_lt_of_le zY hbA.size
        have zZ := Nat.lt_of_lt_of_le zZ hbA.size
        have BA := Lib.hid (bel_below (bel_below B8w.out B9.out) hbA)
        have BA4 := Lib.hid (bel_below (bel_below B8.out B9.out) hbA)
        clear D1 D2 D3 v0 zv z2
        go_wp2_with fail
        refine (CP.out _ BA4.out pr).mono ?_
        intro e wB hkB
        rw [HPR.out] at hkB
        obtain ⟨v, l, rfl, hl3, hl0, _, hs, hbB⟩ := HKN.out _ _ _ _ hkB
        rw [← HPR.out]
        rw [show (x : Int) - 1 + 1 = x by omega, ← HX.out] at hl0
        obtain ⟨ua, uc, rfl, _⟩ := hs.slice
        obtain ⟨ub, uo, rfl, _, huz, hu0⟩ := hs.at 0 (by decide) wB (RowKit.Below.refl _ _)
        rw [hl0, Nat.add_zero] at hu0
        have z0 := (hbB.cell (p := ⟨Z, 0, none⟩) zZ).trans z0
        have zZ := Nat.lt_of_lt_of_le zZ hbB.size
        have BB := Lib.hid (bel_below BA.out hbB)
        clear hkB hs hbB hl0 hl3 z1 x0 x1 zY
        obtain ⟨idq, hidq⟩ : ∃ idq, idq = idR f pr := ⟨_, rfl⟩
        rw [← hidq] at H3 ⊢
        clear hidq
        generalize cAt (circ f) ((x : Int) - 1 - 1) = qp
        go_upto_region 15 with (fail)
        obtain ⟨wC, hwC⟩ : ∃ z, z = wB.alloc (.cells #[.int .u64 idq, .int .i64 qp, .slice (some ⟨ub, uo, none⟩) 3 uc] 63) := ⟨_, rfl⟩
        obtain ⟨V, hV⟩ : ∃ V, V = wB.heap.size := ⟨_, rfl⟩
        have bBC : RowKit.Below wB.heap.size wB wC := by rw [hwC]; exact bel_alloc (RowKit.Below.refl _ _) _
        have y0 : wC.cell? ⟨V, 0, none⟩ = some (.int .u64 idq) := by rw [hwC, hV]; simp [go_sem]
        have y2 : wC.cell? ⟨V, 2, none⟩ = some (.slice (some ⟨ub, uo, none⟩) 3 uc) := by rw [hwC, hV]; simp [go_sem]
        have zV : V < wC.heap.size := by rw [hwC, hV]; simp
        have u0 := (bBC.cell (p := ⟨ub, uo, none⟩) huz).trans hu0
        have zu := Nat.lt_of_lt_of_le huz bBC.size
        have z0 := (bBC.cell (p := ⟨Z, 0, none⟩) zZ).trans z0
        have zZ := Nat.lt_of_lt_of_le zZ bBC.size
        have BC := Lib.hid (bel_below BB.out bBC)
        rw [← hwC, ← hV]
        clear hwC hV bBC hu0 huz
        by_cases hw : IntKind.u64.wrap (IntKind.u64.wrap (X - idq) - 1) < IntKind.u64.wrap (idn - idq)
        · have hon : (o == n) = true := by rw [H3.out]; simpa using hw
          go_wp2_with fail
          go_roundw
          case rel => go_light; exact ⟨k + 1, by omega, by go_num, BC.out⟩
          case measure => go_light; simp [intOf]; omega
        · have hon : (o == n) = false := by rw [H3.out]; simpa using hw
          go_wp2_with fail
          go_roundw
          case rel => go_light; exact ⟨k + 1, by omega, by go_num, BC.out⟩
          case measure => go_light; simp [intOf]; omega
      · have hkI : ¬ ((k : Nat) : Int) < (L.length : Int) := by omega
        go_wp2_with fail
        refine (awake11_any _).mono ?_
        rintro e w9 ⟨rfl, hb9⟩
        go_wp2_with fail
        go_ret
        exact ⟨rfl, bel_below (R4.out.later (bel_below B7.out hB.out)).below hb9⟩
set_option maxRecDepth 100000 in
theorem idealOwns_walk {H : Type} (enc : TypeId × Value → H) (W : World) (v0 : Value) (d0 : DataW H) (p0 : List MemPlace) {r0 : Reach} {b0 : Nat} (ok0 : Value.okWide Tryz.prog W r0 b0 22 v0) (h0 : DataW.Trod enc Tryz.prog W 0 (fun _ => true) true 22 v0 d0 p0)
    (hlt0 : ∀ x ∈ p0, x.block < W.heap.size) (sz0 : ∀ n ∈ d0.weights Tryz.prog 22, n ≤ reachBytes) (v1 : Value) (d1 : DataW H) (p1 : List MemPlace) {r1 : Reach} {b1 : Nat} (ok1 : Value.okWide Tryz.prog W r1 b1 23 v1) (h1 : DataW.Trod enc Tryz.prog W 0 (fun _ => true) true 23 v1 d1 p1)
    (hlt1 : ∀ x ∈ p1, x.block < W.heap.size) (sz1 : ∀ n ∈ d1.weights Tryz.prog 23, n ≤ reachBytes) (a2 : Int) (w2 : (Lit.int .u64 a2).wf = true) (hg : HandleAt W) :
    Calls Tryz.prog 5 #[v0, v1, .int .u64 a2] W fun e W' => e = .returned (.bool true) ∧ RowKit.Below W.heap.size W W' := by
  obtain ⟨ids, hi, hp⟩ := ids_open ok0 h0
  obtain ⟨acts, ha, hao⟩ := acts_open ok1 h1
  exact idealOwns_main W hg v0 v1 ids acts a2 (placeOf w2) hi hp ha hao
end Go.Proofs.YthbijjpaljjapaaGreatDoor
