
/-
  Whose a place is, by who is least far; who comes behind whom on the circle. No walk stands here.
-/
import Derived.Test.YthbijjpaljjapaaGreatDoorIdealZ
import Derived.Test.YthbijjpaljjapaaGreatDoorRefD
import Derived.Test.YthbijjpaljjapaaGreatDoorRefE
import Derived.Test.YthbijjpaljjapaaGreatDoorRefJ
namespace Go.Proofs.YthbijjpaljjapaaGreatDoor
open Go.RowKit Go.Maps Go.Sort
set_option linter.unusedVariables false
set_option linter.unusedSectionVars false
set_option linter.unusedSimpArgs false

/-- The place ahead of place k, round the circle. -/
def prevK (n k : Nat) : Nat := if k = 0 then n - 1 else k - 1
theorem prevK_lt {n k : Nat} (h : k < n) : prevK n k < n := by unfold prevK; split <;> omega
theorem below_spec (s : List Int) (hs : Up s) (x : Int) : ∀ k, k < s.length → (nth s k < x ↔ k < below s x) := by
  induction s with
  | nil => intro k hk; simp at hk
  | cons y s ih =>
    have hp := List.pairwise_cons.1 hs
    intro k hk
    unfold below at *
    by_cases hy : y < x
    · rw [List.countP_cons_of_pos (by simpa using hy)]
      cases k with
      | zero => rw [nth_zero]; simp [hy]
      | succ k => rw [nth_succ, ih hp.2 k (by simpa using hk)]; omega
    · rw [List.countP_cons_of_neg (by simpa using hy)]
      have h0 : s.countP (fun z => decide (z < x)) = 0 := by
        rw [List.countP_eq_zero]
        intro z hz
        have := hp.1 z hz
        simp; omega
      rw [h0]
      cases k with
      | zero => rw [nth_zero]; simp [hy]
      | succ k =>
        rw [nth_succ]
        have hk' : k < s.length := by simpa using hk
        have := hp.1 _ (nth_mem.2 ⟨k, hk', rfl⟩)
        constructor
        · intro h; omega
        · intro h; omega
theorem ownerI_nat {s : List Int} (h : 0 < s.length) (x : Int) : ∃ i : Nat, i < s.length ∧ ownerI s x = i ∧ (i = if below s x = s.length then 0 else below s x) := by
  have := below_le s x
  refine ⟨if below s x = s.length then 0 else below s x, by split <;> omega, ?_, rfl⟩
  unfold ownerI
  rw [if_neg (by omega)]
  split <;> simp
/-- A place lies behind the one ahead of its owner, and of no other. -/
theorem parts_in {s : List Int} (hs : Up s) (hp : ∀ z ∈ s, isPlace z) {x : Int} (hx : isPlace x) {i : Nat} (ho : ownerI s x = i) (k : Nat) (hk : k < s.length) :
    inB x (nth s (prevK s.length k)) (nth s k) = decide (k = i) := by
  obtain ⟨i', hi', ho', hi2⟩ := ownerI_nat (s := s) (by omega) x
  have hii : i = i' := by omega
  subst hii
  have b := below_spec s hs x
  have hb := below_le s x
  have pk := hp _ (nth_mem.2 ⟨k, hk, rfl⟩)
  have pp := hp _ (nth_mem.2 ⟨_, prevK_lt hk, rfl⟩)
  have bk := b k hk
  have bp := b _ (prevK_lt hk)
  generalize hj : below s x = j at *
  by_cases h0 : k = 0
  · subst h0
    have hp0 : prevK s.length 0 = s.length - 1 := rfl
    rw [hp0] at bp pp ⊢
    by_cases h1 : s.length = 1
    · rw [h1]
      have : i = 0 := by omega
      subst this
      simp [inB]
    · have hlt := up_nth hs (i := 0) (j := s.length - 1) (by omega) (by omega)
      generalize nth s 0 = u at *
      generalize nth s (s.length - 1) = v at *
      rw [Bool.eq_iff_iff]
      unfold inB dist isPlace at *
      simp only [Bool.or_eq_true, Bool.and_eq_true, beq_iff_eq, bne_iff_ne, decide_eq_true_eq, ne_eq]
      split at hi2 <;> omega
  · have hp0 : prevK s.length k = k - 1 := by unfold prevK; rw [if_neg h0]
    rw [hp0] at bp pp ⊢
    have hlt := up_nth hs (i := k - 1) (j := k) (by omega) hk
    generalize nth s k = u at *
    generalize nth s (k - 1) = v at *
    rw [Bool.eq_iff_iff]
    unfold inB dist isPlace at *
    simp only [Bool.or_eq_true, Bool.and_eq_true, beq_iff_eq, bne_iff_ne, decide_eq_true_eq, ne_eq]
    split at hi2 <;> omega

/-- Which of the first k places is least far from x: -1: there is none. -/
def Best (s : List Int) (x : Int) (k : Nat) (b : Int) : Prop :=
  (k = 0 ∧ b = -1) ∨ ∃ j : Nat, j < k ∧ b = j ∧ (∀ i, i < j → dist x (nth s j) < dist x (nth s i)) ∧ ∀ i, i < k → dist x (nth s j) ≤ dist x (nth s i)
theorem best_first {s : List Int} {x : Int} {k : Nat} (h : Best s x k (-1)) : k = 0 := by
  rcases h with ⟨h, _⟩ | ⟨j, _, h, _⟩
  · exact h
  · omega
theorem best_start {s : List Int} {x : Int} {k : Nat} (h : k = 0) : Best s x (k + 1) k := by
  subst h
  refine Or.inr ⟨0, by omega, rfl, fun i hi => absurd hi (by omega), fun i hi => ?_⟩
  have : i = 0 := by omega
  subst this
  exact Int.le_refl _
theorem best_take {s : List Int} {x : Int} {k j : Nat} (h : Best s x k j) (hd : dist x (nth s k) < dist x (nth s j)) : Best s x (k + 1) k := by
  rcases h with ⟨_, h⟩ | ⟨j', h1, h2, h3, h4⟩
  · omega
  · have : j = j' := by omega
    subst this
    refine Or.inr ⟨k, by omega, rfl, fun i hi => ?_, fun i hi => ?_⟩
    · have := h4 i hi; omega
    · by_cases e : i = k
      · subst e; exact Int.le_refl _
      · have := h4 i (by omega); omega
theorem best_skip {s : List Int} {x : Int} {k j : Nat} (h : Best s x k j) (hd : ¬ dist x (nth s k) < dist x (nth s j)) : Best s x (k + 1) j := by
  rcases h with ⟨_, h⟩ | ⟨j', h1, h2, h3, h4⟩
  · omega
  · have : j = j' := by omega
    subst this
    refine Or.inr ⟨j, by omega, rfl, h3, fun i hi => ?_⟩
    by_cases e : i = k
    · subst e; omega
    · exact h4 i (by omega)
theorem best_all {s : List Int} (hs : Up s) (hp : ∀ z ∈ s, isPlace z) {x : Int} (hx : isPlace x) {b : Int} (h : Best s x s.length b) : b = ownerI s x := by
  rcases h with ⟨h, rfl⟩ | ⟨j, hj, rfl, h3, h4⟩
  · unfold ownerI; rw [if_pos h]
  · obtain ⟨i, hi, ho, hi2⟩ := ownerI_nat (s := s) (by omega) x
    rw [ho]
    have b := below_spec s hs x
    have hb := below_le s x
    have h1 := h4 i hi
    have hij : dist x (nth s i) ≤ dist x (nth s j) := by
      have pi := hp _ (nth_mem.2 ⟨i, hi, rfl⟩)
      have pj := hp _ (nth_mem.2 ⟨j, hj, rfl⟩)
      have bi := b i hi
      have bj := b j hj
      have hm : i ≤ j → nth s i ≤ nth s j := fun h => by
        rcases Nat.eq_or_lt_of_le h with rfl | h
        · exact Int.le_refl _
        · exact Int.le_of_lt (up_nth hs h hj)
      generalize hbe : below s x = c at *
      generalize nth s i = u at *
      generalize nth s j = v at *
      unfold dist isPlace at *
      split at hi2 <;> omega
    have hjj : ¬ i < j := fun h => by have := h3 i h; omega
    have hii : ¬ j < i := fun h => by
      have h5 := up_nth hs h hi
      have e : dist x (nth s i) = dist x (nth s j) := by omega
      have pi := hp _ (nth_mem.2 ⟨i, hi, rfl⟩)
      have pj := hp _ (nth_mem.2 ⟨j, hj, rfl⟩)
      generalize nth s i = u at *
      generalize nth s j = v at *
      unfold dist isPlace at *
      omega
    omega

section
variable {f : RS} (I : Inv f)
include I
theorem ids_place : ∀ z ∈ (circ f).map (idR f), isPlace z := fun z hz => by
  obtain ⟨n, _, rfl⟩ := List.mem_map.1 hz
  exact place_id I.dom n
theorem nth_ids {k : Nat} (hk : k < (circ f).length) : nth ((circ f).map (idR f)) k = idR f (nth (circ f) k) := by
  unfold nth; simp [hk]
/-- Who lives and is least far is the owner. -/
theorem owner_best {x : Int} (hx : isPlace x) {n : Int} (hn : livesR f n = true) (h : ∀ y, livesR f y = true → dist x (idR f n) ≤ dist x (idR f y)) : cOwner (circ f) ((circ f).map (idR f)) x = n := by
  obtain ⟨j, hj, rfl⟩ := nth_mem.1 ((circ_mem I).2 hn)
  have hb : Best ((circ f).map (idR f)) x ((circ f).map (idR f)).length j := by
    refine Or.inr ⟨j, by simpa using hj, rfl, fun i hi => ?_, fun i hi => ?_⟩
    · have hi2 : i < (circ f).length := by omega
      rw [nth_ids I hj, nth_ids I hi2]
      have h1 := h _ ((circ_mem I).1 (nth_mem.2 ⟨i, hi2, rfl⟩))
      have h2 := circ_mono I hi hj
      have p1 := place_id I.dom (nth (circ f) i)
      have p2 := place_id I.dom (nth (circ f) j)
      generalize idR f (nth (circ f) i) = u at *
      generalize idR f (nth (circ f) j) = v at *
      unfold dist isPlace at *
      omega
    · have hi2 : i < (circ f).length := by simpa using hi
      rw [nth_ids I hj, nth_ids I hi2]
      exact h _ ((circ_mem I).1 (nth_mem.2 ⟨i, hi2, rfl⟩))
  have hu : Up ((circ f).map (idR f)) := circ_up I
  have e := best_all hu (ids_place I) hx hb
  unfold cOwner
  rw [← e, if_neg (by omega)]
  rfl
/-- Which member of the circle it is. -/
theorem cAt_nat (x : Int) : ∃ i : Nat, i < (circ f).length ∧ cAt (circ f) x = nth (circ f) i ∧ cAt (circ f) (x + 1) = nth (circ f) ((i + 1) % (circ f).length) ∧ x % ((circ f).length : Int) = i := by
  have h4 : 4 ≤ (circ f).length := by rw [circ_len]; exact live4 I
  obtain ⟨i, hi⟩ : ∃ i : Nat, x % ((circ f).length : Int) = i := ⟨(x % ((circ f).length : Int)).toNat, by have := Int.emod_nonneg x (show ((circ f).length : Int) ≠ 0 by omega); omega⟩
  have hil : i < (circ f).length := by have := Int.emod_lt_of_pos x (show (0 : Int) < ((circ f).length : Int) by omega); omega
  have e1 : cAt (circ f) x = nth (circ f) i := by unfold cAt; rw [hi]; rfl
  have e2 : cAt (circ f) (x + 1) = nth (circ f) ((i + 1) % (circ f).length) := by
    unfold cAt
    rw [← Int.emod_add_emod, hi]
    congr 1
  exact ⟨i, hil, e1, e2, hi⟩
theorem cAt_lives (x : Int) : livesR f (cAt (circ f) x) = true := by
  obtain ⟨i, hi, e, _⟩ := cAt_nat I x
  rw [e]; exact (circ_mem I).1 (nth_mem.2 ⟨i, hi, rfl⟩)
theorem cAt_ne (x : Int) : cAt (circ f) (x + 1) ≠ cAt (circ f) x := fun e => by
  have h4 : 4 ≤ (circ f).length := by rw [circ_len]; exact live4 I
  obtain ⟨i, hi, e1, e2, _⟩ := cAt_nat I x
  rw [e1, e2] at e
  rcases Nat.lt_or_ge (i + 1) (circ f).length with h | h
  · rw [Nat.mod_eq_of_lt h] at e
    have := circ_mono I (Nat.lt_succ_self i) h
    rw [e] at this; omega
  · rw [show i + 1 = (circ f).length by omega, Nat.mod_self] at e
    have := circ_mono I (a := 0) (b := i) (by omega) hi
    rw [e] at this; omega
/-- Nobody is nearer behind a member than the next one. -/
theorem next_near (x : Int) {y : Int} (hy : livesR f y = true) (hne : y ≠ cAt (circ f) x) : dist (idR f (cAt (circ f) x)) (idR f (cAt (circ f) (x + 1))) ≤ dist (idR f (cAt (circ f) x)) (idR f y) := by
  have h4 : 4 ≤ (circ f).length := by rw [circ_len]; exact live4 I
  obtain ⟨i, hi, e1, e2, _⟩ := cAt_nat I x
  rw [e1] at hne ⊢
  rw [e2]
  obtain ⟨j, hj, rfl⟩ := nth_mem.1 ((circ_mem I).2 hy)
  have hij : j ≠ i := fun e => hne (by rw [e])
  have p1 := place_id I.dom (nth (circ f) i)
  have p2 := place_id I.dom (nth (circ f) j)
  have p3 := place_id I.dom (nth (circ f) ((i + 1) % (circ f).length))
  rcases Nat.lt_or_ge (i + 1) (circ f).length with h | h
  · rw [Nat.mod_eq_of_lt h] at p3 ⊢
    have m1 := circ_mono I (Nat.lt_succ_self i) h
    rcases Nat.lt_or_ge j i with h1 | h1
    · have m2 := circ_mono I h1 hi
      generalize idR f (nth (circ f) i) = u at *
      generalize idR f (nth (circ f) j) = v at *
      generalize idR f (nth (circ f) (i + 1)) = t at *
      unfold dist isPlace at *
      omega
    · have m2 : idR f (nth (circ f) (i + 1)) ≤ idR f (nth (circ f) j) := by
        rcases Nat.eq_or_lt_of_le (show i + 1 ≤ j by omega) with h2 | h2
        · rw [h2]; exact Int.le_refl _
        · exact Int.le_of_lt (circ_mono I h2 hj)
      generalize idR f (nth (circ f) i) = u at *
      generalize idR f (nth (circ f) j) = v at *
      generalize idR f (nth (circ f) (i + 1)) = t at *
      unfold dist isPlace at *
      omega
  · rw [show i + 1 = (circ f).length by omega, Nat.mod_self] at p3 ⊢
    have m1 := circ_mono I (a := j) (b := i) (by omega) hi
    have m2 : idR f (nth (circ f) 0) ≤ idR f (nth (circ f) j) := by
      rcases Nat.eq_or_lt_of_le (Nat.zero_le j) with h2 | h2
      · rw [← h2]; exact Int.le_refl _
      · exact Int.le_of_lt (circ_mono I h2 hj)
    generalize idR f (nth (circ f) i) = u at *
    generalize idR f (nth (circ f) j) = v at *
    generalize idR f (nth (circ f) 0) = t at *
    unfold dist isPlace at *
    omega
/-- The owner of the place behind a member is the next one. -/
theorem owner_next (x : Int) : cOwner (circ f) ((circ f).map (idR f)) ((idR f (cAt (circ f) x) + 1) % 18446744073709551616) = cAt (circ f) (x + 1) := by
  refine owner_best I (by unfold isPlace; omega) (cAt_lives I _) fun y hy => ?_
  have pn := place_id I.dom (cAt (circ f) x)
  have py := place_id I.dom y
  have ph := place_id I.dom (cAt (circ f) (x + 1))
  have hh : idR f (cAt (circ f) (x + 1)) ≠ idR f (cAt (circ f) x) := fun e => cAt_ne I x (I.uniq _ _ (cAt_lives I _) (cAt_lives I _) e)
  by_cases e : y = cAt (circ f) x
  · rw [e]
    generalize idR f (cAt (circ f) x) = u at *
    generalize idR f (cAt (circ f) (x + 1)) = t at *
    unfold dist isPlace at *
    omega
  · have h1 := next_near I x hy e
    have h2 : idR f y ≠ idR f (cAt (circ f) x) := fun e2 => e (I.uniq _ _ hy (cAt_lives I _) e2)
    generalize idR f (cAt (circ f) x) = u at *
    generalize idR f (cAt (circ f) (x + 1)) = t at *
    generalize idR f y = v at *
    unfold dist isPlace at *
    omega
/-- The owner of a member's own place is it. -/
theorem owner_self {n : Int} (hn : livesR f n = true) : cOwner (circ f) ((circ f).map (idR f)) (idR f n) = n := by
  refine owner_best I (place_id I.dom n) hn fun y hy => ?_
  have pn := place_id I.dom n
  have py := place_id I.dom y
  generalize idR f n = u at *
  generalize idR f y = v at *
  unfold dist isPlace at *
  omega
end
end Go.Proofs.YthbijjpaljjapaaGreatDoor

/-
  The document's layer 11: Owner, Start, Finger.
-/
namespace Go.Proofs.YthbijjpaljjapaaGreatDoor
open Go.RowKit Go.Maps Go.Sort
set_option linter.unusedVariables false
set_option linter.unusedSimpArgs false
attribute [local go_sem] later_cell later_frozen later_lt cell_set_off cell_set_block

/-- The nearest of the first k. -/
def bestK (f : RS) (x : Int) : Nat → Int
  | 0 => -1
  | k + 1 => if bestK f x k < 0 then nth (liveL f) k else if dist x (idR f (nth (liveL f) k)) < dist x (idR f (bestK f x k)) then nth (liveL f) k else bestK f x k
theorem bestK_first {f : RS} {x : Int} {k : Nat} (h : bestK f x k = -1) : bestK f x (k + 1) = nth (liveL f) k := by
  show (if _ then _ else _) = _
  rw [h]; rfl
theorem bestK_take {f : RS} {x b : Int} {k : Nat} (h : bestK f x k = b) (h0 : 0 ≤ b) (hd : dist x (idR f (nth (liveL f) k)) < dist x (idR f b)) : bestK f x (k + 1) = nth (liveL f) k := by
  show (if _ then _ else _) = _
  rw [h, if_neg (by omega), if_pos hd]
theorem bestK_skip {f : RS} {x b : Int} {k : Nat} (h : bestK f x k = b) (h0 : 0 ≤ b) (hd : ¬ dist x (idR f (nth (liveL f) k)) < dist x (idR f b)) : bestK f x (k + 1) = b := by
  show (if _ then _ else _) = _
  rw [h, if_neg (by omega), if_neg hd]
theorem live_nth {f : RS} (I : Inv f) {k : Nat} (hk : k < (liveL f).length) : livesR f (nth (liveL f) k) = true := (mem_liveL I.dom).1 (nth_mem.2 ⟨k, hk, rfl⟩)
theorem bestK_spec {f : RS} (I : Inv f) (x : Int) : ∀ k, k ≤ (liveL f).length → (k = 0 ∧ bestK f x k = -1) ∨ (0 < k ∧ livesR f (bestK f x k) = true ∧ ∀ j, j < k → dist x (idR f (bestK f x k)) ≤ dist x (idR f (nth (liveL f) j))) := by
  intro k
  induction k with
  | zero => intro _; exact Or.inl ⟨rfl, rfl⟩
  | succ k ih =>
    intro hk
    have hl := live_nth I (show k < (liveL f).length by omega)
    refine Or.inr ⟨by omega, ?_⟩
    rcases ih (by omega) with ⟨h0, h1⟩ | ⟨h0, h1, h2⟩
    · rw [bestK_first h1]
      refine ⟨hl, fun j hj => ?_⟩
      obtain rfl : j = k := by omega
      exact Int.le_refl _
    · have hp := (livesR_dom I.dom h1).1
      by_cases hd : dist x (idR f (nth (liveL f) k)) < dist x (idR f (bestK f x k))
      · rw [bestK_take rfl hp hd]
        refine ⟨hl, fun j hj => ?_⟩
        by_cases e : j = k
        · rw [e]; exact Int.le_refl _
        · have := h2 j (by omega); omega
      · rw [bestK_skip rfl hp hd]
        refine ⟨h1, fun j hj => ?_⟩
        by_cases e : j = k
        · rw [e]; omega
        · exact h2 j (by omega)
theorem bestK_all {f : RS} (I : Inv f) {x : Int} (hx : isPlace x) : bestK f x (liveL f).length = cOwner (circ f) ((circ f).map (idR f)) x := by
  have h4 := live4 I
  rcases bestK_spec I x _ (Nat.le_refl _) with ⟨h0, _⟩ | ⟨_, h1, h2⟩
  · omega
  · refine (owner_best I hx h1 fun y hy => ?_).symm
    obtain ⟨j, hj, rfl⟩ := nth_mem.1 ((mem_liveL I.dom).2 hy)
    exact h2 j hj

variable {Q : Nat → Prop} {w : World} {p : Where} {f : RS} {V : Nat → Value}
set_option maxRecDepth 100000 in
set_option maxHeartbeats 8000000 in
theorem rown_any (h : RefRows Q w p f V) (I : Inv f) (x : Int) (hx : isPlace x) : Calls Tryz.prog 21 #[(.agg #[.slice (some ⟨(p).b1, (p).o1, none⟩) 32 (p).k1, .slice (some ⟨(p).b2, (p).o2, none⟩) 32 (p).k2, .slice (some ⟨(p).b3, (p).o3, none⟩) 32 (p).k3, .slice (some ⟨(p).b4, (p).o4, none⟩) 32 (p).k4]), .int .u64 x] w fun e w' => e = .returned (.int .i64 (cOwner (circ f) ((circ f).map (idR f)) x)) ∧ RowKit.Below w.heap.size w w' := by
  have HR := Lib.hid h
  have HI := Lib.hid I
  have HA := Lib.hid (bestK_all I hx)
  have CD := Lib.hid fun (a : Int) (ha : isPlace a) (wr : World) => rdist_any x a wr hx ha
  have hll := length_liveL f
  clear h I hx
  go_enter Tryz.func21, Tryz.ntmps21
  go_upto_region 1 with (fail)
  obtain ⟨w1, hw1⟩ : ∃ z, z = w.alloc (.cells #[.slice (some ⟨p.b1, p.o1, none⟩) 32 p.k1, .slice (some ⟨p.b2, p.o2, none⟩) 32 p.k2, .slice (some ⟨p.b3, p.o3, none⟩) 32 p.k3, .slice (some ⟨p.b4, p.o4, none⟩) 32 p.k4] 35) := ⟨_, rfl⟩
  obtain ⟨T, hT⟩ : ∃ T, T = w.heap.size := ⟨_, rfl⟩
  have B1 : Hid (RowKit.Below w.heap.size w w1) := by rw [hw1]; exact bel_alloc (RowKit.Below.refl _ _) _
  have T1 : Hid (BoxOf w1 T p) := by rw [hw1, hT]; exact ⟨by simp [go_sem], by simp [go_sem], by simp [go_sem], by simp [go_sem], by simp [go_sem], by simp [go_sem], by simp [go_sem], by simp [go_sem], by simp⟩
  rw [← hw1, ← hT]
  clear hw1 hT
  have t0 := T1.out.c0
  have t1 := T1.out.c1
  have t2 := T1.out.c2
  have t3 := T1.out.c3
  have zT := T1.out.z
  go_wp2_with fail
  refine (rlive_any (HR.out.below B1.out)).mono ?_
  rintro e w2 ⟨v, rfl, hv, hb2⟩
  obtain ⟨va, vc, rfl, _⟩ := hv.slice
  have B2 := Lib.hid (bel_below B1.out hb2)
  have T2 := Lib.hid (T1.out.later hb2)
  have SV : Hid (SlAt 0 (fun i => .int .i64 (nth (liveL f) i)) (liveL f).length w2 (.slice va (liveL f).length vc)) := hv.base (Nat.zero_le _)
  clear hv hb2 t0 t1 t2 t3 zT T1 B1
  obtain ⟨L, hL⟩ : ∃ L, L = liveL f := ⟨_, rfl⟩
  rw [← hL] at SV hll HA ⊢
  have HL := Lib.hid hL
  clear hL
  go_wp2_with fail
  go_loopw [5, 7, 11] (fun b _ i wr => ∃ k : Nat, k ≤ L.length ∧ i = .int .i64 k ∧ b = .int .i64 (bestK f x k) ∧ Hid (RowKit.Below w2.heap.size w2 wr)) (fun _ _ i _ => L.length - (intOf i).toNat)
  case atStart => exact ⟨0, Nat.zero_le _, rfl, rfl, RowKit.Below.refl _ _⟩
  case round =>
    obtain ⟨k, hk, rfl, rfl, hB⟩ := hrel
    obtain ⟨b, hb⟩ : ∃ b, b = bestK f x k := ⟨_, rfl⟩
    rw [← hb]
    have HB := Lib.hid hb
    clear hb
    by_cases hlt : k < L.length
    · have T3 := T2.out.later hB.out
      have t0 := T3.c0
      have t1 := T3.c1
      have t2 := T3.c2
      have t3 := T3.c3
      have zT := T3.z
      obtain ⟨vb, off, rfl, _, hvz, hvc⟩ := SV.out.at k hlt wr hB.out
      have hnl : livesR f (nth L k) = true := by rw [HL.out]; exact live_nth HI.out (by rw [← HL.out]; exact hlt)
      obtain ⟨n, hn⟩ : ∃ n, n = nth L k := ⟨_, rfl⟩
      rw [← hn] at hvc hnl
      obtain ⟨hn0, hn1⟩ := livesR_dom HI.out.dom hnl
      obtain ⟨m, rfl⟩ : ∃ m : Nat, n = m := ⟨n.toNat, by omega⟩
      have pn := idR_place HI.out.dom m
      have HN : Hid ((m : Int) = nth (liveL f) k) := by rw [← HL.out]; exact hn
      have hm : m < 32 := by omega
      have RR := HR.out.below (bel_below B2.out hB.out)
      have c1 := RR.at_id hm
      have z1 := RR.ids.z
      have hk1 := RR.ids.c0
      clear hn T3
      rcases bestK_spec HI.out x k (by rw [← HL.out]; omega) with ⟨h0, h1⟩ | ⟨h0, h1, _⟩
      · rw [← HB.out] at h1
        have hb0 : b < 0 := by omega
        clear RR h0
        have H1 := Lib.hid h1
        clear h1
        go_wp2_with fail
        refine wp_region_calm (by kernel_rfl) (by kernel_rfl) ?_
        repeat (first | (go_big_quiet_step ((fail))) | (refine wpQuiet_step (fun K hK => ?_); go_simp; first | (refine hK _ ?_; clear hK K) | (apply Exists.intro; refine ⟨fun _ => ?_, hK _ ?_⟩; (fail); clear hK K)))
        refine wpQuiet_nil ?_
        intro _ hw'
        obtain ⟨xq, hw''⟩ := hw'
        subst hw''
        have B3 := Lib.hid (bel_below hB.out xq.below)
        obtain ⟨w3, hB3⟩ := xq
        dsimp only at B3 ⊢
        clear t0 t1 t2 t3 zT hvc hvz c1 z1 hB3
        go_wp2_with fail
        go_roundw
        case rel => go_light; exact ⟨k + 1, by omega, by go_num, by rw [bestK_first (HB.out ▸ H1.out), HN.out], B3.out⟩
        case measure => go_light; simp [intOf]; omega
      · rw [← HB.out] at h1
        obtain ⟨hb0, hb1⟩ := livesR_dom HI.out.dom h1
        obtain ⟨q, rfl⟩ : ∃ q : Nat, b = q := ⟨b.toNat, by omega⟩
        have pb := idR_place HI.out.dom q
        have c2 := RR.at_id (k := q) (by omega)
        have hbn : ¬ (q : Int) < 0 := by omega
        clear RR h1
        by_cases hd : dist x (idR f m) < dist x (idR f q)
        · go_wp2_with fail
          refine wp_region_calm (by kernel_rfl) (by kernel_rfl) ?_
          repeat (first | (go_big_quiet_step ((go_at_call 58; exact calls_calm_same (CD.out _ (by assumption) _)))) | (refine wpQuiet_step (fun K hK => ?_); go_simp; first | (refine hK _ ?_; clear hK K) | (apply Exists.intro; refine ⟨fun _ => ?_, hK _ ?_⟩; (go_at_call 58; exact calls_calm_same (CD.out _ (by assumption) _)); clear hK K)))
          refine wpQuiet_nil ?_
          intro _ hw'
          obtain ⟨xq, hw''⟩ := hw'
          subst hw''
          have B3 := Lib.hid (bel_below hB.out xq.below)
          obtain ⟨w3, hB3⟩ := xq
          dsimp only at B3 ⊢
          clear t0 t1 t2 t3 zT hvc hvz c1 z1 hB3 c2
          go_wp2_with fail
          go_roundw
          case rel => go_light; exact ⟨k + 1, by omega, by go_num, by rw [bestK_take HB.out.symm hb0 (by rw [← HN.out]; exact hd), HN.out], B3.out⟩
          case measure => go_light; simp [intOf]; omega
        · go_wp2_with fail
          refine wp_region_calm (by kernel_rfl) (by kernel_rfl) ?_
          repeat (first | (go_big_quiet_step ((go_at_call 58; exact calls_calm_same (CD.out _ (by assumption) _)))) | (refine wpQuiet_step (fun K hK => ?_); go_simp; first | (refine hK _ ?_; clear hK K) | (apply Exists.intro; refine ⟨fun _ => ?_, hK _ ?_⟩; (go_at_call 58; exact calls_calm_same (CD.out _ (by assumption) _)); clear hK K)))
          refine wpQuiet_nil ?_
          intro _ hw'
          obtain ⟨xq, hw''⟩ := hw'
          subst hw''
          have B3 := Lib.hid (bel_below hB.out xq.below)
          obtain ⟨w3, hB3⟩ := xq
          dsimp only at B3 ⊢
          clear t0 t1 t2 t3 zT hvc hvz c1 z1 hB3 c2
          go_wp2_with fail
          go_roundw
          case rel => go_light; exact ⟨k + 1, by omega, by go_num, by rw [bestK_skip HB.out.symm hb0 (by rw [← HN.out]; exact Int.not_lt.2 hd)], B3.out⟩
          case measure => go_light; simp [intOf]; omega
    · obtain hkl : k = L.length := by omega
      have hE : b = cOwner (circ f) ((circ f).map (idR f)) x := by rw [HB.out, hkl]; exact HA.out
      have HE := Lib.hid hE
      clear hkl hE
      go_wp2_with fail
      go_ret
      exact ⟨by rw [HE.out]; first | done | rfl, bel_below B2.out hB.out⟩
end Go.Proofs.YthbijjpaljjapaaGreatDoor

/-
  The document's layer 11: Peer, what an address that lives should know.
-/
namespace Go.Proofs.YthbijjpaljjapaaGreatDoor
open Go.RowKit Go.Maps Go.Sort
set_option linter.unusedVariables false
set_option linter.unusedSimpArgs false
attribute [local go_sem] later_cell later_frozen later_lt cell_set_off cell_set_block

/-- Three cells of a box. -/
structure Box3 (u : World) (b : Nat) (x0 x1 x2 : Value) : Prop where
  c0 : u.cell? ⟨b, 0, none⟩ = some x0
  c1 : u.cell? ⟨b, 1, none⟩ = some x1
  c2 : u.cell? ⟨b, 2, none⟩ = some x2
  f0 : u.frozen? ⟨b, 0, none⟩ = false
  f1 : u.frozen? ⟨b, 1, none⟩ = false
  f2 : u.frozen? ⟨b, 2, none⟩ = false
  z : b < u.heap.size
theorem Box3.block {u u' : World} {b : Nat} {x0 x1 x2 : Value} (h : Box3 u b x0 x1 x2) (hs : u.heap.size ≤ u'.heap.size) (hb : u'.heap[b]? = u.heap[b]?) : Box3 u' b x0 x1 x2 :=
  ⟨(World.cell?_of_block hb).trans h.c0, (World.cell?_of_block hb).trans h.c1, (World.cell?_of_block hb).trans h.c2, (World.frozen?_of_block hb).trans h.f0, (World.frozen?_of_block hb).trans h.f1, (World.frozen?_of_block hb).trans h.f2, Nat.lt_of_lt_of_le h.z hs⟩
theorem Box3.later {u u' : World} {b : Nat} {x0 x1 x2 : Value} (h : Box3 u b x0 x1 x2) (hb : RowKit.Below u.heap.size u u') : Box3 u' b x0 x1 x2 := h.block hb.size (hb.block _ h.z)
theorem Box3.set1 {u : World} {b : Nat} {x0 x1 x2 : Value} (h : Box3 u b x0 x1 x2) (y : Value) : Box3 (u.setCell ⟨b, 1, none⟩ y) b x0 y x2 :=
  ⟨by rw [cell_set_off _ _ _ _ _ (by decide)]; exact h.c0, World.cell?_setCell_same _ _ _ h.c1, by rw [cell_set_off _ _ _ _ _ (by decide)]; exact h.c2, by rw [World.frozen?_setCell]; exact h.f0, by rw [World.frozen?_setCell]; exact h.f1, by rw [World.frozen?_setCell]; exact h.f2, by rw [size_set]; exact h.z⟩
theorem Box3.set2 {u : World} {b : Nat} {x0 x1 x2 : Value} (h : Box3 u b x0 x1 x2) (y : Value) : Box3 (u.setCell ⟨b, 2, none⟩ y) b x0 x1 y :=
  ⟨by rw [cell_set_off _ _ _ _ _ (by decide)]; exact h.c0, by rw [cell_set_off _ _ _ _ _ (by decide)]; exact h.c1, World.cell?_setCell_same _ _ _ h.c2, by rw [World.frozen?_setCell]; exact h.f0, by rw [World.frozen?_setCell]; exact h.f1, by rw [World.frozen?_setCell]; exact h.f2, by rw [size_set]; exact h.z⟩

/-- The list behind i turns, and who is told to be ahead. -/
def sucK (c : List Int) (x : Int) (i : Nat) : List Int := (List.range (min i 3)).map fun j : Nat => cAt c (x + ((j : Int) + 1))
def preK (c : List Int) (x : Int) (i : Nat) : Int := if i = 0 then -1 else cAt c (x + (i : Int))
theorem sucK_len (c : List Int) (x : Int) (i : Nat) : (sucK c x i).length = min i 3 := by simp [sucK]
theorem sucK_more {c : List Int} {x : Int} {i : Nat} (h : i < 3) : sucK c x (i + 1) = sucK c x i ++ [cAt c (x + ((i : Int) + 1))] := by
  unfold sucK
  rw [show min (i + 1) 3 = min i 3 + 1 by omega, List.range_succ, List.map_append, show min i 3 = i by omega]; rfl
theorem sucK_same {c : List Int} {x : Int} {i : Nat} (h : ¬ i < 3) : sucK c x (i + 1) = sucK c x i := by
  unfold sucK
  rw [show min (i + 1) 3 = min i 3 by omega]
theorem sucK_all {c : List Int} {x : Int} {i : Nat} (h : 3 ≤ i) : sucK c x i = [cAt c (x + 1), cAt c (x + 2), cAt c (x + 3)] := by
  unfold sucK
  rw [show min i 3 = 3 by omega]
  simp [List.range_succ]
theorem preK_all {f : RS} (I : Inv f) (x : Int) : preK (circ f) x ((circ f).length - 1) = cAt (circ f) (x - 1) := by
  have h4 : 4 ≤ (circ f).length := by rw [circ_len]; exact live4 I
  unfold preK
  rw [if_neg (by omega)]
  unfold cAt
  rw [show x + (((circ f).length - 1 : Nat) : Int) = x - 1 + ((circ f).length : Int) by omega, Int.add_emod_right]
def PeerPost (w : World) (f : RS) (x : Int) (e : Ending) (w' : World) : Prop :=
  ∃ v, e = .returned (.agg #[.int .u64 (idR f (cAt (circ f) x)), .int .i64 (cAt (circ f) (x - 1)), v]) ∧
    SlAt w.heap.size (fun i => .int .i64 (nth [cAt (circ f) (x + 1), cAt (circ f) (x + 2), cAt (circ f) (x + 3)] i)) 3 w' v ∧ RowKit.Below w.heap.size w w'

variable {Q : Nat → Prop} {w : World} {p : Where} {f : RS} {V : Nat → Value}
set_option maxRecDepth 100000 in
set_option maxHeartbeats 8000000 in
theorem rpeer_any (h : RefRows Q w p f V) (I : Inv f) (x : Int) (n : Int) (hn : n = cAt (circ f) x) : Calls Tryz.prog 30 #[(.agg #[.slice (some ⟨(p).b1, (p).o1, none⟩) 32 (p).k1, .slice (some ⟨(p).b2, (p).o2, none⟩) 32 (p).k2, .slice (some ⟨(p).b3, (p).o3, none⟩) 32 (p).k3, .slice (some ⟨(p).b4, (p).o4, none⟩) 32 (p).k4]), .int .i64 n] w (PeerPost w f x) := by
  obtain ⟨i0, hi, hz0, hz1, hz2⟩ : ∃ i0, Tryz.prog.info? 3 = some i0 ∧ i0.zero = some (Value.int .i64 0) ∧ i0.size = 1 ∧ i0.bytes = 8 := ⟨intRI, intRI_at, by kernel_rfl, by kernel_rfl, by kernel_rfl⟩
  have HR := Lib.hid h
  have HI := Lib.hid I
  have h4 : 4 ≤ (circ f).length := by rw [circ_len]; exact live4 I
  have hlen : (circ f).length ≤ 32 := by rw [circ_len]; exact length_liveL f
  have HPR := Lib.hid (preK_all I x)
  have HSU := Lib.hid (fun i (hi : 3 ≤ i) => sucK_all (c := circ f) (x := x) hi)
  have HLV := Lib.hid (circ_len f)
  have HOW := Lib.hid fun (y : Int) => owner_next I y
  have HLI := Lib.hid fun (y : Int) => livesR_dom I.dom (cAt_lives I y)
  obtain ⟨m, rfl⟩ : ∃ m : Nat, n = m := ⟨n.toNat, by have := (HLI.out x).1; omega⟩
  have hm : m < 32 := by have := (HLI.out x).2; omega
  have c0 := h.at_id hm
  have zc := h.ids.z
  have hkc := h.ids.c0
  have HN := Lib.hid hn
  obtain ⟨idm, hid⟩ : ∃ a, a = idR f m := ⟨_, rfl⟩
  rw [← hid] at c0
  have HID : Hid (idm = idR f (cAt (circ f) x)) := by show _ = _; rw [hid, hn]
  clear h I hn hid
  go_enter Tryz.func30, Tryz.ntmps30
  go_upto_region 2 with (fail)
  obtain ⟨w1, hw1⟩ : ∃ z, z = ((w.alloc (.cells #[.slice (some ⟨p.b1, p.o1, none⟩) 32 p.k1, .slice (some ⟨p.b2, p.o2, none⟩) 32 p.k2, .slice (some ⟨p.b3, p.o3, none⟩) 32 p.k3, .slice (some ⟨p.b4, p.o4, none⟩) 32 p.k4] 35)).alloc (.cells #[.int .u64 0, .int .i64 0, .slice none 0 0] 71)).alloc (.cells #[.int .u64 idm, .int .i64 (-1), .slice none 0 0] 71) := ⟨_, rfl⟩
  obtain ⟨T, hT⟩ : ∃ T, T = w.heap.size := ⟨_, rfl⟩
  have B1 : Hid (RowKit.Below w.heap.size w w1) := by rw [hw1]; exact bel_alloc (bel_alloc (bel_alloc (RowKit.Below.refl _ _) _) _) _
  have T1 : Hid (BoxOf w1 T p) := by rw [hw1, hT]; exact ⟨by simp [go_sem], by simp [go_sem], by simp [go_sem], by simp [go_sem], by simp [go_sem], by simp [go_sem], by simp [go_sem], by simp [go_sem], by simp; omega⟩
  have U1 : Hid (Box3 w1 (T + 1) (.int .u64 0) (.int .i64 0) (.slice none 0 0)) := by rw [hw1, hT]; exact ⟨by simp [go_sem], by simp [go_sem], by simp [go_sem], by simp [go_sem], by simp [go_sem], by simp [go_sem], by simp⟩
  have X1 : Hid (Box3 w1 (T + 1 + 1) (.int .u64 idm) (.int .i64 (-1)) (.slice none 0 0)) := by rw [hw1, hT]; exact ⟨by simp [go_sem], by simp [go_sem], by simp [go_sem], by simp [go_sem], by simp [go_sem], by simp [go_sem], by simp⟩
  have hz1' : w1.heap.size = T + 1 + 1 + 1 := by rw [hw1, hT]; simp
  have HT := Lib.hid hT
  rw [← hw1, ← hT]
  clear hw1 hT c0 zc
  have t0 := T1.out.c0
  have t1 := T1.out.c1
  have t2 := T1.out.c2
  have t3 := T1.out.c3
  have zT := T1.out.z
  have x0 := X1.out.c0
  have zX := X1.out.z
  go_wp2_with fail
  refine (rlive_any (HR.out.below B1.out)).mono ?_
  rintro e w2 ⟨v, rfl, hv, hb2⟩
  obtain ⟨va, vc, rfl, _⟩ := hv.slice
  have B2 : Hid (RowKit.Below w.heap.size w w2) := bel_below B1.out hb2
  have T2 := Lib.hid (T1.out.later hb2)
  have U2 := Lib.hid (U1.out.later hb2)
  have X2 := Lib.hid (X1.out.later hb2)
  rw [← HLV.out]
  clear hv hb2 t0 t1 t2 t3 zT x0 zX T1 U1 X1 B1 hz1'
  obtain ⟨cl, hcl⟩ : ∃ cl, cl = (circ f).length := ⟨_, rfl⟩
  rw [← hcl] at h4 hlen HPR ⊢
  clear hcl
  have hst : Hid (idm = idR f (cAt (circ f) (x + ((0 : Nat) : Int)))) := by show _ = _; rw [HID.out]; simp
  go_wp2_with fail
  go_loopw [6, 8, 9] (fun xv i _ wr => ∃ (k : Nat) (sv : Value), k ≤ cl - 1 ∧ i = .int .i64 k ∧ xv = .int .u64 (idR f (cAt (circ f) (x + (k : Int)))) ∧ Hid (RowKit.Below w.heap.size w wr) ∧ Hid (BoxOf wr T p) ∧ Hid (Box3 wr (T + 1) (.int .u64 0) (.int .i64 0) (.slice none 0 0)) ∧ Hid (Box3 wr (T + 1 + 1) (.int .u64 idm) (.int .i64 (preK (circ f) x k)) sv) ∧ Hid (wr.ownsRow (T + 1 + 1 + 1) 3 1 sv (min k 3) ((sucK (circ f) x k).map (Value.int .i64)))) (fun _ i _ _ => cl - (intOf i).toNat)
  case atStart => exact ⟨0, .slice none 0 0, Nat.zero_le _, rfl, by rw [hst.out], B2.out, T2.out, U2.out, X2.out, World.ownsRow_nil _ _ _ _⟩
  case round =>
    obtain ⟨k, sv, hk, rfl, rfl, hB, hT, hU, hX, hO⟩ := hrel
    obtain ⟨y, hy⟩ : ∃ y, y = idR f (cAt (circ f) (x + (k : Int))) := ⟨_, rfl⟩
    rw [← hy]
    have HY := Lib.hid hy
    clear hy
    by_cases hlt : k < cl - 1
    · have hkI : (k : Int) < (cl : Int) - 1 := by omega
      have t0 := hT.out.c0
      have t1 := hT.out.c1
      have t2 := hT.out.c2
      have t3 := hT.out.c3
      have zT := hT.out.z
      have ho : cOwner (circ f) ((circ f).map (idR f)) (IntKind.u64.wrap (y + 1)) = cAt (circ f) (x + (k : Int) + 1) := by rw [IntKind.wrap_u64, HY.out]; exact HOW.out _
      obtain ⟨q, hq⟩ : ∃ q : Nat, (q : Int) = cAt (circ f) (x + (k : Int) + 1) := ⟨(cAt (circ f) (x + (k : Int) + 1)).toNat, by have := (HLI.out (x + (k : Int) + 1)).1; omega⟩
      have hq32 : q < 32 := by have := (HLI.out (x + (k : Int) + 1)).2; omega
      have CO := rown_any (HR.out.below hB.out) HI.out (IntKind.u64.wrap (y + 1)) (by rw [IntKind.wrap_u64]; unfold isPlace; omega)
      rw [ho, ← hq] at CO
      have COO := Lib.hid CO
      have HQ : Hid ((q : Int) = cAt (circ f) (x + ((k + 1 : Nat) : Int))) := by show _ = _; rw [hq, show x + (k : Int) + 1 = x + ((k + 1 : Nat) : Int) by omega]
      clear CO ho hq
      go_wp2_with fail
      refine COO.out.mono ?_
      rintro e w3 ⟨rfl, hb3⟩
      have B3 : Hid (RowKit.Below w.heap.size w w3) := bel_below hB.out hb3
      have T3 := Lib.hid (hT.out.later hb3)
      have U3 := Lib.hid (hU.out.later hb3)
      have X3 := Lib.hid (hX.out.later hb3)
      have O3 : Hid (w3.ownsRow (T + 1 + 1 + 1) 3 1 sv (min k 3) ((sucK (circ f) x k).map (Value.int .i64))) := owns_block hO.out fun g hg => hb3.block g (hO.out.lt g hg).2
      have hz3 := hb3.size
      clear hb3 COO t0 t1 t2 t3 zT
      by_cases h3 : k < 3
      · have h3I : (k : Int) < 3 := by omega
        have hmk : min k 3 = k := by omega
        rw [hmk] at O3
        obtain ⟨sa, sc, rfl⟩ : ∃ a c, sv = .slice a k c := by
          rcases O3.out.2 with ⟨e, h0⟩ | ⟨g, cap, cur, e, _⟩
          · exact ⟨none, 0, by rw [e, h0]⟩
          · exact ⟨_, cap, e⟩
        have x0 := X3.out.c0
        have x1 := X3.out.c1
        have x2 := X3.out.c2
        have xf := X3.out.f2
        have zX := X3.out.z
        go_wp2_with (at_builtin; refine wpList_app rfl _ _ 52 rfl (T + 1 + 1 + 1) 3 i0 (.int .i64 0) 8 Tryz.underlying52 hi hz0 hz1 hz2 rfl _ k _ rfl (O3.out.alloc _) 0 _ 1 _ rfl (sl_new _ .i64 [(q : Int)] 3 _ 1 rfl rfl (by simp [maxLen])) (fun _ => rfl) ?qa1 ?qa2 ?qa3 ?_)
        case qa1 => simp only [maxLen]; omega
        case qa2 => omega
        case qa3 => simp; omega
        intro v' w4 ho hg
        have b34 : RowKit.Below (T + 1 + 1 + 1) w3 w4 := ((RowKit.Below.refl _ _).alloc (by omega) _).grown hg (by simp; omega) (fun j hj => by have := O3.out.lt j hj; omega)
        obtain ⟨va', vc', rfl⟩ := owns_shape ho (by omega)
        have T4 := Lib.hid (T3.out.block b34.size (b34.block _ (by omega)))
        have U4 := Lib.hid (U3.out.block b34.size (b34.block _ (by omega)))
        have X4 := Lib.hid (X3.out.block b34.size (b34.block _ (by omega)))
        have B4 : Hid (RowKit.Below w.heap.size w w4) := B3.out.trans (b34.mono (by have := HT.out; omega))
        have O4 : Hid (w4.ownsRow (T + 1 + 1 + 1) 3 1 (.slice (some ⟨va', 0, none⟩) (k + 1) vc') (k + 1) ((sucK (circ f) x (k + 1)).map (Value.int .i64))) := by
          rw [sucK_more h3, List.map_append]
          rw [show cAt (circ f) (x + ((k : Int) + 1)) = (q : Int) by rw [HQ.out]; congr 1]
          show World.ownsRow _ _ _ _ _ _ _
          simpa [nth] using ho
        clear x0 x1 x2 xf zX ho hg b34 O3 X3 U3 T3 B3
        have x0 := X4.out.c0
        have x1 := X4.out.c1
        have x2 := X4.out.c2
        have xf := X4.out.f2
        have zX := X4.out.z
        go_upto_region 10 with (fail)
        obtain ⟨w5, hw5⟩ : ∃ z, z = w4.setCell ⟨T + 1 + 1, 2, none⟩ (.slice (some ⟨va', 0, none⟩) (k + 1) vc') := ⟨_, rfl⟩
        have hs5 : w5.heap.size = w4.heap.size := by rw [hw5]; exact size_set _ _ _
        have hk5 : ∀ b, b ≠ T + 1 + 1 → w5.heap[b]? = w4.heap[b]? := fun b hb => by rw [hw5]; exact Below.heap_setCell _ _ _ _ hb
        have X5 : Hid (Box3 w5 (T + 1 + 1) (.int .u64 idm) (.int .i64 (preK (circ f) x k)) (.slice (some ⟨va', 0, none⟩) (k + 1) vc')) := by rw [hw5]; exact X4.out.set2 _
        have T5 := Lib.hid (T4.out.block (Nat.le_of_eq hs5.symm) (hk5 _ (by omega)))
        have U5 := Lib.hid (U4.out.block (Nat.le_of_eq hs5.symm) (hk5 _ (by omega)))
        have B5 : Hid (RowKit.Below w.heap.size w w5) := by rw [hw5]; exact bel_set B4.out (by have := HT.out; dsimp only; omega) _
        have O5 : Hid (w5.ownsRow (T + 1 + 1 + 1) 3 1 (.slice (some ⟨va', 0, none⟩) (k + 1) vc') (min (k + 1) 3) ((sucK (circ f) x (k + 1)).map (Value.int .i64))) := by
          rw [hw5, show min (k + 1) 3 = k + 1 by omega]; exact ownsRow_setCell_below O4.out (by dsimp only; omega) _
        rw [← hw5]
        clear hw5 hs5 hk5 O4 B4 U4 T4 X4 x0 x1 x2 xf zX
        generalize (.slice (some ⟨va', 0, none⟩) (k + 1) vc' : Value) = sv5 at X5 O5
        have hp1 : preK (circ f) x (k + 1) = q := by unfold preK; rw [if_neg (by omega)]; exact HQ.out.symm
        have HP1 := Lib.hid hp1
        clear hp1
        have x0 := X5.out.c0
        have x1 := X5.out.c1
        have x2 := X5.out.c2
        have xf := X5.out.f1
        have zX := X5.out.z
        go_upto_region 11 with (fail)
        obtain ⟨w6, hw6⟩ : ∃ z, z = w5.setCell ⟨T + 1 + 1, 1, none⟩ (.int .i64 q) := ⟨_, rfl⟩
        have hs6 : w6.heap.size = w5.heap.size := by rw [hw6]; exact size_set _ _ _
        have hk6 : ∀ b, b ≠ T + 1 + 1 → w6.heap[b]? = w5.heap[b]? := fun b hb => by rw [hw6]; exact Below.heap_setCell _ _ _ _ hb
        have X6 : Hid (Box3 w6 (T + 1 + 1) (.int .u64 idm) (.int .i64 q) sv5) := by rw [hw6]; exact X5.out.set1 _
        have T6 := Lib.hid (T5.out.block (Nat.le_of_eq hs6.symm) (hk6 _ (by omega)))
        have U6 := Lib.hid (U5.out.block (Nat.le_of_eq hs6.symm) (hk6 _ (by omega)))
        have B6 : Hid (RowKit.Below w.heap.size w w6) := by rw [hw6]; exact bel_set B5.out (by have := HT.out; dsimp only; omega) _
        have O6 : Hid (w6.ownsRow (T + 1 + 1 + 1) 3 1 sv5 (min (k + 1) 3) ((sucK (circ f) x (k + 1)).map (Value.int .i64))) := by rw [hw6]; exact ownsRow_setCell_below O5.out (by dsimp only; omega) _
        rw [← hw6]
        clear hw6 hs6 hk6 O5 B5 U5 T5 X5 x0 x1 x2 xf zX
        have t0 := T6.out.c0
        have t1 := T6.out.c1
        have t2 := T6.out.c2
        have t3 := T6.out.c3
        have zT := T6.out.z
        have RR := HR.out.below B6.out
        have cq := RR.at_id hq32
        have zq := RR.ids.z
        have hqI : (q : Int) < 32 := by omega
        clear RR
        go_wp2_with fail
        go_roundw
        case rel => go_light; exact ⟨k + 1, sv5, by omega, by go_num, by rw [HQ.out], B6.out, T6.out, U6.out, by show Box3 _ _ _ _ _; rw [HP1.out]; exact X6.out, O6.out⟩
        case measure => go_light; simp [intOf]; omega
      · have h3I : ¬ (k : Int) < 3 := by omega
        have T5 := T3
        have U5 := U3
        have X5 := X3
        have B5 := B3
        have O5 : Hid (w3.ownsRow (T + 1 + 1 + 1) 3 1 sv (min (k + 1) 3) ((sucK (circ f) x (k + 1)).map (Value.int .i64))) := by
          rw [show min (k + 1) 3 = min k 3 by omega, sucK_same h3]; exact O3.out
        obtain ⟨sv5, hsv⟩ : ∃ s, s = sv := ⟨_, rfl⟩
        obtain ⟨w5, hw5⟩ : ∃ s, s = w3 := ⟨_, rfl⟩
        rw [← hsv] at X5 O5
        rw [← hw5] at X5 O5 T5 U5 B5 ⊢
        clear T3 U3 X3 B3 O3 hsv hw5
        have hp1 : preK (circ f) x (k + 1) = q := by unfold preK; rw [if_neg (by omega)]; exact HQ.out.symm
        have HP1 := Lib.hid hp1
        clear hp1
        have x0 := X5.out.c0
        have x1 := X5.out.c1
        have x2 := X5.out.c2
        have xf := X5.out.f1
        have zX := X5.out.z
        go_upto_region 11 with (fail)
        obtain ⟨w6, hw6⟩ : ∃ z, z = w5.setCell ⟨T + 1 + 1, 1, none⟩ (.int .i64 q) := ⟨_, rfl⟩
        have hs6 : w6.heap.size = w5.heap.size := by rw [hw6]; exact size_set _ _ _
        have hk6 : ∀ b, b ≠ T + 1 + 1 → w6.heap[b]? = w5.heap[b]? := fun b hb => by rw [hw6]; exact Below.heap_setCell _ _ _ _ hb
        have X6 : Hid (Box3 w6 (T + 1 + 1) (.int .u64 idm) (.int .i64 q) sv5) := by rw [hw6]; exact X5.out.set1 _
        have T6 := Lib.hid (T5.out.block (Nat.le_of_eq hs6.symm) (hk6 _ (by omega)))
        have U6 := Lib.hid (U5.out.block (Nat.le_of_eq hs6.symm) (hk6 _ (by omega)))
        have B6 : Hid (RowKit.Below w.heap.size w w6) := by rw [hw6]; exact bel_set B5.out (by have := HT.out; dsimp only; omega) _
        have O6 : Hid (w6.ownsRow (T + 1 + 1 + 1) 3 1 sv5 (min (k + 1) 3) ((sucK (circ f) x (k + 1)).map (Value.int .i64))) := by rw [hw6]; exact ownsRow_setCell_below O5.out (by dsimp only; omega) _
        rw [← hw6]
        clear hw6 hs6 hk6 O5 B5 U5 T5 X5 x0 x1 x2 xf zX
        have t0 := T6.out.c0
        have t1 := T6.out.c1
        have t2 := T6.out.c2
        have t3 := T6.out.c3
        have zT := T6.out.z
        have RR := HR.out.below B6.out
        have cq := RR.at_id hq32
        have zq := RR.ids.z
        have hqI : (q : Int) < 32 := by omega
        clear RR
        go_wp2_with fail
        go_roundw
        case rel => go_light; exact ⟨k + 1, sv5, by omega, by go_num, by rw [HQ.out], B6.out, T6.out, U6.out, by show Box3 _ _ _ _ _; rw [HP1.out]; exact X6.out, O6.out⟩
        case measure => go_light; simp [intOf]; omega
    · have hkI : ¬ (k : Int) < (cl : Int) - 1 := by omega
      have hkl : k = cl - 1 := by omega
      have hmk : min k 3 = 3 := by omega
      rw [hmk] at hO
      have hsl := own_ints hO.out
      rw [HSU.out k (by omega)] at hsl
      obtain ⟨sa, sc, rfl, _⟩ := hsl.slice
      have hpr : preK (circ f) x k = cAt (circ f) (x - 1) := by rw [hkl]; exact HPR.out
      rw [hpr] at hX
      obtain ⟨pr, hprn⟩ : ∃ a, a = cAt (circ f) (x - 1) := ⟨_, rfl⟩
      rw [← hprn] at hX
      have HP := Lib.hid hprn
      have O9 : Hid (wr.ownsRow (T + 1 + 1 + 1) 3 1 (.slice sa 3 sc) 3 ([cAt (circ f) (x + 1), cAt (circ f) (x + 2), cAt (circ f) (x + 3)].map (Value.int .i64))) := by
        have := hO.out; rwa [HSU.out k (by omega)] at this
      have x0 := hX.out.c0
      have x1 := hX.out.c1
      have x2 := hX.out.c2
      have zX := hX.out.z
      have u0 := hU.out.c0
      have u1 := hU.out.c1
      have u2 := hU.out.c2
      have uf0 := hU.out.f0
      have uf1 := hU.out.f1
      have uf2 := hU.out.f2
      have zU := hU.out.z
      clear hsl hpr hprn hkl hmk hO
      go_wp2_with fail
      refine bodyPost_ret (v := .agg #[.int .u64 idm, .int .i64 pr, .slice sa 3 sc]) ?_ rfl ?_
      · simp [results, Tryz.results30, go_sem, u0, u1, u2]
      refine ⟨.slice sa 3 sc, by rw [HID.out, HP.out], ?_, ?_⟩
      · have := own_ints (ownsRow_setCell_below (ownsRow_setCell_below (ownsRow_setCell_below O9.out (a := ⟨T + 1, 0, none⟩) (by dsimp only; omega) (.int .u64 idm)) (a := ⟨T + 1, 1, none⟩) (by dsimp only; omega) (.int .i64 pr)) (a := ⟨T + 1, 2, none⟩) (by dsimp only; omega) (.slice sa 3 sc))
        exact this.base (by have := HT.out; omega)
      · exact bel_set (bel_set (bel_set hB.out (by have := HT.out; dsimp only; omega) _) (by have := HT.out; dsimp only; omega) _) (by have := HT.out; dsimp only; omega) _
end Go.Proofs.YthbijjpaljjapaaGreatDoor

/-
  The document's layer 11: Start, Finger, Same, Is.
-/
namespace Go.Proofs.YthbijjpaljjapaaGreatDoor
open Go.RowKit Go.Maps Go.Sort
set_option linter.unusedVariables false
set_option linter.unusedSimpArgs false
attribute [local go_sem] later_cell later_frozen later_lt cell_set_off cell_set_block

set_option linter.unusedSectionVars false
section
variable {f : RS} (I : Inv f)
include I
theorem circ_nodup : (circ f).Nodup := by
  refine List.pairwise_iff_getElem.2 fun i j hi hj hij e => ?_
  have := circ_mono I hij hj
  rw [nth_eq hj, nth_eq hi, e] at this
  omega
theorem cAt_idx (x : Int) : idxI (circ f) (cAt (circ f) x) = x % ((circ f).length : Int) := by
  obtain ⟨i, hi, e1, _, e2⟩ := cAt_nat I x
  rw [e1, idxI_at (circ_nodup I) hi, e2]
theorem cAt_mod (x y : Int) : cAt (circ f) (x % ((circ f).length : Int) + y) = cAt (circ f) (x + y) := by
  unfold cAt
  rw [Int.emod_add_emod]
theorem cAt_inj {x y : Int} (h : cAt (circ f) x = cAt (circ f) y) : x % ((circ f).length : Int) = y % ((circ f).length : Int) := by
  rw [← cAt_idx I, ← cAt_idx I, h]
theorem cAt_zero : ∃ i0 : Nat, i0 < (circ f).length ∧ cAt (circ f) i0 = 0 := by
  obtain ⟨i, hi, e⟩ := nth_mem.1 ((circ_mem I).2 (I.base 0 (by omega) (by omega)))
  refine ⟨i, hi, ?_⟩
  unfold cAt
  rw [show ((i : Int) % ((circ f).length : Int)).toNat = i by rw [Int.emod_eq_of_lt (by omega) (by omega)]; simp]
  exact e
/-- What a member of the circle is told. -/
theorem know_at (x : Int) {w w' : World} {e : Ending} (h : KnowPost w (circ f) ((circ f).map (idR f)) (cAt (circ f) x) e w') :
    ∃ (v : Value) (l : List Int), e = .returned (.tuple #[.agg #[.int .u64 (idR f (cAt (circ f) x)), .int .i64 (cAt (circ f) (x - 1)), v], .bool true]) ∧ l.length = 3 ∧ nth l 0 = cAt (circ f) (x + 1) ∧
      l = [cAt (circ f) (x + 1), cAt (circ f) (x + 2), cAt (circ f) (x + 3)] ∧ SlAt w.heap.size (fun i => .int .i64 (nth l i)) 3 w' v ∧ RowKit.Below w.heap.size w w' := by
  have h4 : 4 ≤ (circ f).length := by rw [circ_len]; exact live4 I
  have hge : ¬ idxI (circ f) (cAt (circ f) x) < 0 := by rw [cAt_idx I]; have := Int.emod_nonneg x (show ((circ f).length : Int) ≠ 0 by omega); omega
  obtain ⟨v, rfl, hs, hb⟩ := h.yes hge
  have hn : cNum (circ f) = 3 := by unfold cNum; omega
  rw [hn, cAt_idx I] at hs
  rw [cAt_idx I]
  obtain ⟨i, hi, e1, _, e2⟩ := cAt_nat I x
  have l0 : cSuc (circ f) (x % ((circ f).length : Int)) 3 = [cAt (circ f) (x + 1), cAt (circ f) (x + 2), cAt (circ f) (x + 3)] := by
    simp only [cSuc, List.range_succ, List.range_zero, List.nil_append, List.map_append, List.map_cons, List.map_nil, List.cons_append]
    rw [show x % ((circ f).length : Int) + 1 + ((0 : Nat) : Int) = x % ((circ f).length : Int) + 1 by omega, show x % ((circ f).length : Int) + 1 + ((1 : Nat) : Int) = x % ((circ f).length : Int) + 2 by omega, show x % ((circ f).length : Int) + 1 + ((2 : Nat) : Int) = x % ((circ f).length : Int) + 3 by omega, cAt_mod I, cAt_mod I, cAt_mod I]
  rw [l0] at hs
  refine ⟨v, _, ?_, rfl, rfl, rfl, hs, hb⟩
  rw [show x % ((circ f).length : Int) - 1 = x % ((circ f).length : Int) + (-1) by omega, cAt_mod I, show x + -1 = x - 1 by omega, e2, e1]
  rw [show ((i : Int)).toNat = i by simp, nth_ids I hi]
end

theorem pow_bdR (n : Nat) (h : n ≤ 63) : (1 : Int) ≤ 2 ^ n ∧ (2 : Int) ^ n ≤ 9223372036854775808 := by
  have h1 : (1 : Nat) ≤ 2 ^ n := Nat.one_le_two_pow
  have h2 : (2 : Nat) ^ n ≤ 2 ^ 63 := Nat.pow_le_pow_right (by omega) h
  have h3 : (2 : Nat) ^ 63 = 9223372036854775808 := by decide +kernel
  rw [h3] at h2
  have e : ((2 : Int) ^ n) = ((2 ^ n : Nat) : Int) := by rw [Int.natCast_pow]; rfl
  rw [e]; generalize (2 : Nat) ^ n = t at *; omega
theorem start_outR {x n : Int} (h : ¬ (0 ≤ n ∧ n ≤ 63)) : start x n = x := by unfold start; rw [if_neg h]
theorem start_inR {x n : Int} (h : 0 ≤ n ∧ n ≤ 63) : start x n = (x + 2 ^ n.toNat) % 18446744073709551616 := by unfold start; rw [if_pos h]

theorem rstart_any (x n : Int) (w : World) (hn : -9223372036854775808 ≤ n ∧ n < 9223372036854775808) :
    Calls Tryz.prog 65 #[.int .u64 x, .int .i64 n] w fun e w' => e = .returned (.int .u64 (start x n)) ∧ w = w' := by
  by_cases h : 0 ≤ n ∧ n ≤ 63
  · have E := Lib.hid (start_inR (x := x) h)
    obtain ⟨m, rfl⟩ : ∃ m : Nat, n = m := ⟨n.toNat, by omega⟩
    have h1 : ¬ (m : Int) < 0 := by omega
    have h2 : ¬ (63 : Int) < m := by omega
    have h3 : m ≤ 63 := by omega
    clear h hn
    go_enter Tryz.func65, Tryz.ntmps65
    go_wp2
    go_loop [5, 6] (fun p i => ∃ k : Nat, k ≤ m ∧ i = .int .i64 k ∧ p = .int .u64 (2 ^ k)) (fun _ i => m - (intOf i).toNat)
    case atStart => exact ⟨0, Nat.zero_le _, rfl, rfl⟩
    case round =>
      obtain ⟨k, hk, rfl, rfl⟩ := hrel
      have hp := pow_bdR k (by omega)
      by_cases hlt : k < m
      · have hp2 := pow_bdR (k + 1) (by omega)
        have e : IntKind.u64.wrap (2 * 2 ^ k) = 2 ^ (k + 1) := by
          rw [IntKind.wrap_u64, show (2 : Int) * 2 ^ k = 2 ^ (k + 1) from by rw [Int.pow_succ]; omega, Int.emod_eq_of_lt (by omega) (by omega)]
        have E2 := Lib.hid e
        clear e hp hp2
        go_wp2
        go_round
        case rel => go_light; exact ⟨k + 1, by omega, by go_num, by rw [E2.out]⟩
        case measure => go_light; simp [intOf]; omega
      · go_wp2
        go_ret
        obtain rfl : k = m := by omega
        exact ⟨by rw [E.out]; show Ending.returned (.int .u64 (IntKind.u64.wrap (x + 2 ^ k))) = _; rw [IntKind.wrap_u64]; rfl, rfl⟩
  · have e := start_outR (x := x) h
    have E := Lib.hid e
    have h1 : n < 0 ∨ ¬ n < 0 ∧ 63 < n := by omega
    clear e h
    rcases h1 with h1 | ⟨h1, h2⟩ <;>
    · go_enter Tryz.func65, Tryz.ntmps65
      go_wp2
      go_ret
      exact ⟨by rw [E.out]; first | done | rfl, rfl⟩


set_option maxRecDepth 100000 in
theorem rsamek_any (w : World) (i1 p1 : Int) (v1 : Value) (l1 : List Int) (i2 p2 : Int) (v2 : Value) (l2 : List Int) (h1 : SlAt 0 (fun i => .int .i64 (nth l1 i)) l1.length w v1) (h2 : SlAt 0 (fun i => .int .i64 (nth l2 i)) l2.length w v2) (hl : l1.length ≤ 4000000000) :
    Calls Tryz.prog 28 #[.agg #[.int .u64 i1, .int .i64 p1, v1], .agg #[.int .u64 i2, .int .i64 p2, v2]] w fun e w' => e = .returned (.bool (sameK i1 p1 l1 i2 p2 l2)) ∧ RowKit.Below w.heap.size w w' := by
  have CE := Lib.hid (fun wr (hb : RowKit.Below w.heap.size w wr) => rints_any wr v1 v2 l1 l2 (h1.below hb) (h2.below hb) hl)
  obtain ⟨a1, c1, rfl, _⟩ := h1.slice
  obtain ⟨a2, c2, rfl, _⟩ := h2.slice
  unfold sameK
  clear h1 h2
  cases q1 : i1 == i2 with
  | false =>
    go_enter Tryz.func28, Tryz.ntmps28
    go_wp2_with fail
    go_ret
    exact ⟨by simp, by (repeat (first | exact Below.refl _ _ | (with_reducible assumption) | (with_reducible refine bel_later ?_ _) | (with_reducible refine bel_alloc ?_ _) | (with_reducible refine bel_drew ?_) | (with_reducible refine bel_drewN ?_ _) | (with_reducible refine bel_set ?_ (by first | (simp; done) | (simp; omega) | (dsimp only; omega)) _)))⟩
  | true =>
    cases q2 : p1 == p2 with
    | false =>
      go_enter Tryz.func28, Tryz.ntmps28
      go_wp2_with fail
      go_ret
      exact ⟨by simp, by (repeat (first | exact Below.refl _ _ | (with_reducible assumption) | (with_reducible refine bel_later ?_ _) | (with_reducible refine bel_alloc ?_ _) | (with_reducible refine bel_drew ?_) | (with_reducible refine bel_drewN ?_ _) | (with_reducible refine bel_set ?_ (by first | (simp; done) | (simp; omega) | (dsimp only; omega)) _)))⟩
    | true =>
      go_enter Tryz.func28, Tryz.ntmps28
      go_wp2_with fail
      refine (CE.out _ (by (repeat (first | exact Below.refl _ _ | (with_reducible assumption) | (with_reducible refine bel_later ?_ _) | (with_reducible refine bel_alloc ?_ _) | (with_reducible refine bel_drew ?_) | (with_reducible refine bel_drewN ?_ _) | (with_reducible refine bel_set ?_ (by first | (simp; done) | (simp; omega) | (dsimp only; omega)) _))))).mono ?_
      rintro e w1 ⟨rfl, hB1⟩
      have B1 := Lib.hid (bel_below (bel_alloc (bel_alloc (RowKit.Below.refl _ w) _) _) hB1)
      clear hB1
      go_wp2_with fail
      go_ret
      exact ⟨by simp, B1.out⟩

variable {Q : Nat → Prop} {w : World} {p : Where} {f : RS} {V : Nat → Value}
theorem cFinger_at {f : RS} (I : Inv f) (x : Int) {k : Int} (hk : 0 ≤ k ∧ k ≤ 63) : cFinger (circ f) ((circ f).map (idR f)) (cAt (circ f) x) k = cOwner (circ f) ((circ f).map (idR f)) (start (idR f (cAt (circ f) x)) k) := by
  obtain ⟨i, hi, e1, _, e2⟩ := cAt_nat I x
  unfold cFinger
  rw [cAt_idx I, e2, if_neg (by omega), show ((i : Int)).toNat = i by simp, nth_ids I hi, ← e1, start_inR hk]
set_option maxRecDepth 100000 in
set_option maxHeartbeats 4000000 in
theorem rfing_any (h : RefRows Q w p f V) (I : Inv f) (x : Int) (n : Int) (hn : n = cAt (circ f) x) (k : Int) (hk : 0 ≤ k ∧ k ≤ 63) :
    Calls Tryz.prog 27 #[(.agg #[.slice (some ⟨(p).b1, (p).o1, none⟩) 32 (p).k1, .slice (some ⟨(p).b2, (p).o2, none⟩) 32 (p).k2, .slice (some ⟨(p).b3, (p).o3, none⟩) 32 (p).k3, .slice (some ⟨(p).b4, (p).o4, none⟩) 32 (p).k4]), .int .i64 n, .int .i64 k] w fun e w' => e = .returned (.int .i64 (cFinger (circ f) ((circ f).map (idR f)) n k)) ∧ RowKit.Below w.heap.size w w' := by
  have hE : cFinger (circ f) ((circ f).map (idR f)) n k = cOwner (circ f) ((circ f).map (idR f)) (start (idR f n) k) := by rw [hn]; exact cFinger_at I x hk
  have HE := Lib.hid hE
  have hd := livesR_dom I.dom (cAt_lives I x)
  rw [← hn] at hd
  obtain ⟨m, rfl⟩ : ∃ m : Nat, n = m := ⟨n.toNat, by omega⟩
  have hm : m < 32 := by omega
  have c0 := h.at_id hm
  have zc := h.ids.z
  have CS := Lib.hid fun (wr : World) => rstart_any (idR f m) k wr (by omega)
  have CO := Lib.hid fun (wr : World) (hb : RowKit.Below w.heap.size w wr) => rown_any (h.below hb) I (start (idR f m) k) (by have := idR_place I.dom m; rw [start_inR hk]; unfold isPlace; omega)
  have hk0 := hk.1
  have hk1 := hk.2
  clear h I hn hE hk hd
  go_enter Tryz.func27, Tryz.ntmps27
  go_wp2_with fail
  refine wp_region_calm (by kernel_rfl) (by kernel_rfl) ?_
  repeat (first | (go_big_quiet_step ((first | (go_at_call 65; exact calls_calm_same (CS.out _)) | (go_at_call 21; exact calls_calm (CO.out _ (by (repeat (first | exact Below.refl _ _ | (with_reducible assumption) | (with_reducible refine bel_later ?_ _) | (with_reducible refine bel_alloc ?_ _) | (with_reducible refine bel_drew ?_) | (with_reducible refine bel_drewN ?_ _) | (with_reducible refine bel_set ?_ (by first | (simp; done) | (simp; omega) | (dsimp only; omega)) _))))))))) | (refine wpQuiet_step (fun K hK => ?_); go_simp; first | (refine hK _ ?_; clear hK K) | (apply Exists.intro; refine ⟨fun _ => ?_, hK _ ?_⟩; (first | (go_at_call 65; exact calls_calm_same (CS.out _)) | (go_at_call 21; exact calls_calm (CO.out _ (by (repeat (first | exact Below.refl _ _ | (with_reducible assumption) | (with_reducible refine bel_later ?_ _) | (with_reducible refine bel_alloc ?_ _) | (with_reducible refine bel_drew ?_) | (with_reducible refine bel_drewN ?_ _) | (with_reducible refine bel_set ?_ (by first | (simp; done) | (simp; omega) | (dsimp only; omega)) _))))))); clear hK K)))
  refine wpQuiet_nil ?_
  intro _ hw'
  obtain ⟨xq, hw''⟩ := hw'
  subst hw''
  go_wp2_with fail
  go_ret
  exact ⟨by rw [HE.out]; first | done | rfl, by (repeat (first | exact Below.refl _ _ | (with_reducible assumption) | (with_reducible refine bel_later ?_ _) | (with_reducible refine bel_alloc ?_ _) | (with_reducible refine bel_drew ?_) | (with_reducible refine bel_drewN ?_ _) | (with_reducible refine bel_set ?_ (by first | (simp; done) | (simp; omega) | (dsimp only; omega)) _)))⟩
theorem isB_live {f : RS} (I : Inv f) : isB f = (liveL f).all (okN f (circ f)) := by
  unfold isB
  rw [Bool.eq_iff_iff, List.all_eq_true, List.all_eq_true]
  exact ⟨fun h x hx => h x ((circ_mem I).2 ((mem_liveL I.dom).1 hx)), fun h x hx => h x ((mem_liveL I.dom).2 ((circ_mem I).1 hx))⟩
theorem all_to {l : List Int} {g : Int → Bool} (h : ∀ j, j < l.length → g (nth l j) = true) : l.all g = true := by
  rw [List.all_eq_true]
  intro x hx
  obtain ⟨j, hj, rfl⟩ := nth_mem.1 hx
  exact h j hj
theorem all_not {l : List Int} {g : Int → Bool} {j : Nat} (hj : j < l.length) (h : g (nth l j) = false) : l.all g = false := by
  cases e : l.all g
  · rfl
  · rw [List.all_eq_true] at e
    rw [e _ (nth_mem.2 ⟨j, hj, rfl⟩)] at h
    cases h
theorem okN_at {f : RS} (I : Inv f) {n : Int} (hn : livesR f n = true) : ∃ x, n = cAt (circ f) x ∧ okN f (circ f) n = sameK (idR f n) (predR f n) (succR f n) (idR f n) (cAt (circ f) (x - 1)) [cAt (circ f) (x + 1), cAt (circ f) (x + 2), cAt (circ f) (x + 3)] := by
  have h4 : 4 ≤ (circ f).length := by rw [circ_len]; exact live4 I
  obtain ⟨i, hi, rfl⟩ := nth_mem.1 ((circ_mem I).2 hn)
  have e : nth (circ f) i = cAt (circ f) i := by unfold cAt; rw [Int.emod_eq_of_lt (by omega) (by omega)]; simp
  refine ⟨i, e, ?_⟩
  unfold okN
  have hx : idxI (circ f) (nth (circ f) i) = i := by rw [e, cAt_idx I, Int.emod_eq_of_lt (by omega) (by omega)]
  rw [hx, show ((i : Int)).toNat = i by simp, nth_ids I hi, show cNum (circ f) = 3 by unfold cNum; omega]
  congr 1
set_option maxRecDepth 100000 in
set_option maxHeartbeats 8000000 in
theorem ris_any (h : RefIs Q w p f V) (I : Inv f) : Calls Tryz.prog 23 #[(.agg #[.slice (some ⟨(p).b1, (p).o1, none⟩) 32 (p).k1, .slice (some ⟨(p).b2, (p).o2, none⟩) 32 (p).k2, .slice (some ⟨(p).b3, (p).o3, none⟩) 32 (p).k3, .slice (some ⟨(p).b4, (p).o4, none⟩) 32 (p).k4])] w fun e w' => e = .returned (.bool (isB f)) ∧ RowKit.Below w.heap.size w w' := by
  have HR := Lib.hid h
  have HI := Lib.hid I
  have HB := Lib.hid (isB_live I)
  have hll := length_liveL f
  clear h I
  go_enter Tryz.func23, Tryz.ntmps23
  go_upto_region 1 with (fail)
  obtain ⟨w1, hw1⟩ : ∃ z, z = w.alloc (.cells #[.slice (some ⟨p.b1, p.o1, none⟩) 32 p.k1, .slice (some ⟨p.b2, p.o2, none⟩) 32 p.k2, .slice (some ⟨p.b3, p.o3, none⟩) 32 p.k3, .slice (some ⟨p.b4, p.o4, none⟩) 32 p.k4] 35) := ⟨_, rfl⟩
  obtain ⟨T, hT⟩ : ∃ T, T = w.heap.size := ⟨_, rfl⟩
  have B1 : Hid (RowKit.Below w.heap.size w w1) := by rw [hw1]; exact bel_alloc (RowKit.Below.refl _ _) _
  have T1 : Hid (BoxOf w1 T p) := by rw [hw1, hT]; exact ⟨by simp [go_sem], by simp [go_sem], by simp [go_sem], by simp [go_sem], by simp [go_sem], by simp [go_sem], by simp [go_sem], by simp [go_sem], by simp⟩
  rw [← hw1, ← hT]
  clear hw1 hT
  have t0 := T1.out.c0
  have t1 := T1.out.c1
  have t2 := T1.out.c2
  have t3 := T1.out.c3
  have zT := T1.out.z
  go_wp2_with fail
  refine (rlive_any (HR.out.rows.below B1.out)).mono ?_
  rintro e w2 ⟨v, rfl, hv, hb2⟩
  obtain ⟨va, vc, rfl, _⟩ := hv.slice
  have B2 := Lib.hid (bel_below B1.out hb2)
  have T2 := Lib.hid (T1.out.later hb2)
  have SV : Hid (SlAt 0 (fun i => .int .i64 (nth (liveL f) i)) (liveL f).length w2 (.slice va (liveL f).length vc)) := hv.base (Nat.zero_le _)
  clear hv hb2 t0 t1 t2 t3 zT T1 B1
  obtain ⟨L, hL⟩ : ∃ L, L = liveL f := ⟨_, rfl⟩
  rw [← hL] at SV hll HB ⊢
  have HL := Lib.hid hL
  clear hL
  go_wp2_with fail
  go_loopw [4, 8] (fun _ i wr => ∃ k : Nat, k ≤ L.length ∧ i = .int .i64 k ∧ Hid (∀ j, j < k → okN f (circ f) (nth L j) = true) ∧ Hid (RowKit.Below w2.heap.size w2 wr)) (fun _ i _ => L.length - (intOf i).toNat)
  case atStart => exact ⟨0, Nat.zero_le _, rfl, fun j hj => absurd hj (by omega), RowKit.Below.refl _ _⟩
  case round =>
    obtain ⟨k, hk, rfl, hA, hB⟩ := hrel
    by_cases hlt : k < L.length
    · have T3 := T2.out.later hB.out
      have t0 := T3.c0
      have t1 := T3.c1
      have t2 := T3.c2
      have t3 := T3.c3
      have zT := T3.z
      obtain ⟨vb, off, rfl, _, hvz, hvc⟩ := SV.out.at k hlt wr hB.out
      have hnl : livesR f (nth L k) = true := by rw [HL.out]; exact live_nth HI.out (by rw [← HL.out]; exact hlt)
      obtain ⟨n, hn⟩ : ∃ n, n = nth L k := ⟨_, rfl⟩
      rw [← hn] at hvc hnl
      obtain ⟨hn0, hn1⟩ := livesR_dom HI.out.dom hnl
      obtain ⟨m, rfl⟩ : ∃ m : Nat, n = m := ⟨n.toNat, by omega⟩
      have HN := Lib.hid hn
      have hm : m < 32 := by omega
      have RR := HR.out.below (bel_below B2.out hB.out)
      obtain ⟨p0, p1, p2⟩ := RR.rows.at_peer hm
      have zp := RR.rows.peers.z
      have SL := RR.list m hm
      obtain ⟨ua, uc, hu⟩ := SL.len
      rw [hu] at p2 SL
      obtain ⟨x, hx, hok⟩ := okN_at HI.out hnl
      have hl3 := (dom_len HI.out.dom m).1
      have CP := Lib.hid fun (y : World) (hb : RowKit.Below wr.heap.size wr y) => rpeer_any (RR.rows.below hb) HI.out x m hx
      have SLL := Lib.hid SL.slAt
      have HX := Lib.hid hx
      have HOK := Lib.hid hok
      clear hn T3 RR SL hu hx hok
      obtain ⟨sl, hsl⟩ : ∃ a, a = succR f m := ⟨_, rfl⟩
      obtain ⟨idm, hid⟩ : ∃ a, a = idR f m := ⟨_, rfl⟩
      obtain ⟨prm, hpr⟩ : ∃ a, a = predR f m := ⟨_, rfl⟩
      rw [← hid] at p0 HOK
      rw [← hpr] at p1 HOK
      rw [← hsl] at p2 SLL HOK hl3
      have HID := Lib.hid hid
      clear hid hpr hsl
      go_wp2_with fail
      refine wp_region_heads [0, 1, 2, 3, 4, 5, 6] 9 (fun w' => ∃ y : Later wr, w' = y.world) (by kernel_rfl) (by kernel_rfl) ⟨⟨{ wr with drawn := wr.drawn + 1 }, bel_drew (RowKit.Below.refl _ _)⟩, rfl⟩ ?_ ?_
      · intro d v c a w h
        cases d <;> exact h
      · simp only [headOps]
        repeat (refine wpTame_step (fun K hK => ?_); go_simp; refine hK _ ?_; clear hK K)
        refine wpTame_nil ?_
        clear t0 t1 t2 t3 zT p0 p1 p2 zp hvc hvz
        refine wpAnyC_step (f := 2) [7] (by kernel_rfl) rfl rfl (fun i hi => ?_)
        simp only [List.mem_cons, List.not_mem_nil, or_false] at hi
        subst hi
        refine ⟨_, rfl, fun R hR => ?_⟩
        go_wp2_with fail
        refine (CP.out _ (bel_drew (RowKit.Below.refl _ _))).mono ?_
        rintro e w3 ⟨v3, rfl, hv3, hb3⟩
        have b3 : RowKit.Below wr.heap.size wr w3 := (bel_drew (RowKit.Below.refl _ _)).trans (hb3.mono (by simp))
        have B3 := Lib.hid b3
        have SP : Hid (SlAt 0 (fun i => .int .i64 (nth [cAt (circ f) (x + 1), cAt (circ f) (x + 2), cAt (circ f) (x + 3)] i)) 3 w3 v3) := hv3.base (Nat.zero_le _)
        have SM := Lib.hid (SLL.out.below b3)
        obtain ⟨va3, vc3, rfl, _⟩ := hv3.slice
        rw [← HX.out, ← HID.out]
        obtain ⟨pr2, hpr2⟩ : ∃ a, a = cAt (circ f) (x - 1) := ⟨_, rfl⟩
        rw [← hpr2] at HOK ⊢
        obtain ⟨l2, hl2⟩ : ∃ l, l = [cAt (circ f) (x + 1), cAt (circ f) (x + 2), cAt (circ f) (x + 3)] := ⟨_, rfl⟩
        have hl2n : l2.length = 3 := by rw [hl2]; rfl
        rw [← hl2] at HOK SP
        clear hb3 hv3 b3 CP hpr2 hl2
        go_wp2_with fail
        refine hR _ _ ⟨⟨w3, B3.out⟩, rfl⟩ ?_
        clear hR R
        refine wpAnyC_step (f := 1) [8] (by kernel_rfl) rfl rfl (fun i hi => ?_)
        simp only [List.mem_cons, List.not_mem_nil, or_false] at hi
        subst hi
        refine ⟨_, rfl, fun R hR => ?_⟩
        go_wp2_with fail
        refine (rsamek_any _ _ _ _ sl _ _ _ l2 SM.out (by rw [hl2n]; exact SP.out) (by omega)).mono ?_
        rw [← HOK.out]
        rintro e w4 ⟨rfl, hb4⟩
        have B4 := Lib.hid (bel_below B3.out hb4)
        clear hb4 SP SM B3
        go_wp2_with fail
        refine hR _ _ ⟨⟨w4, B4.out⟩, rfl⟩ ?_
        clear hR R
        refine wpAnyC_end (k := 9) (by decide) rfl rfl (by kernel_rfl) ?_
        cases hq : okN f (circ f) m
        · have HF : Hid (isB f = false) := by
            show _ = _
            rw [HB.out]; exact all_not hlt (by rw [← HN.out]; exact hq)
          go_wp2_with fail
          go_ret
          exact ⟨by rw [HF.out]; first | done | rfl, bel_below B2.out (bel_below hB.out B4.out)⟩
        · have hA2 : Hid (∀ j, j < k + 1 → okN f (circ f) (nth L j) = true) := fun j hj => by
            by_cases e : j = k
            · rw [e, ← HN.out]; exact hq
            · exact hA.out j (by omega)
          go_wp2_with fail
          go_roundw
          case rel => go_light; exact ⟨k + 1, by omega, by go_num, hA2.out, bel_below hB.out B4.out⟩
          case measure => go_light; simp [intOf]; omega
    · obtain hkl : k = L.length := by omega
      have HT : Hid (isB f = true) := by
        show _ = _
        rw [HB.out]; exact all_to fun j hj => hA.out j (by omega)
      clear hkl
      go_wp2_with fail
      go_ret
      exact ⟨by rw [HT.out]; first | done | rfl, bel_below B2.out hB.out⟩
end Go.Proofs.YthbijjpaljjapaaGreatDoor
