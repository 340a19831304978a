/-
  The ring of the base members, in plain words.
-/
import Derived.Test.YthbijjpaljjapaaDoorChordJ
namespace Go.Proofs.YthbijjpaljjapaaDoor
open Go.RowKit Go.Maps Go.Sort
set_option linter.unusedVariables false
set_option linter.unusedSimpArgs false

/-- What the base member of the i-th place knows. -/
def memAt (ids s : List Int) (i : Nat) : Mem := ⟨true, nth s i, atI ids s (i - 1), [atI ids s (i + 1), atI ids s (i + 2), atI ids s (i + 3)]⟩
def newF (ids s : List Int) : Nat → RS
  | 0 => fun _ => none
  | k + 1 => setM (newF ids s k) (atI ids s k) (memAt ids s k)
/-- Four places, sorted. -/
structure Four (ids s : List Int) : Prop where
  li : ids.length = 4
  ls : s.length = 4
  nodup : ids.Nodup
  up : Up s
  mem : ∀ x, x ∈ s ↔ x ∈ ids
  place : ∀ x ∈ ids, isPlace x
theorem Four.pos {ids s : List Int} (h : Four ids s) {j : Nat} (hj : j < 4) : ∃ k : Nat, k < 4 ∧ nth ids k = nth s j ∧ idxI ids (nth s j) = k := by
  have h1 : nth s j ∈ ids := (h.mem _).1 (nth_mem.2 ⟨j, by rw [h.ls]; exact hj, rfl⟩)
  obtain ⟨k, hk, e⟩ := nth_mem.1 h1
  exact ⟨k, by rw [← h.li]; exact hk, e, by rw [← e]; exact idxI_at h.nodup hk⟩
theorem Four.at {ids s : List Int} (h : Four ids s) (i : Int) : 0 ≤ atI ids s i ∧ atI ids s i < 4 := by
  obtain ⟨k, hk, _, e⟩ := h.pos (j := ((i + 4) % 4).toNat) (by omega)
  unfold atI
  rw [e]; omega
theorem Four.inj {ids s : List Int} (h : Four ids s) {i j : Nat} (hi : i < 4) (hj : j < 4) (e : atI ids s i = atI ids s j) : i = j := by
  have ei : (((i : Int) + 4) % 4).toNat = i := by omega
  have ej : (((j : Int) + 4) % 4).toNat = j := by omega
  unfold atI at e
  rw [ei, ej] at e
  obtain ⟨k, _, e1, e2⟩ := h.pos hi
  obtain ⟨k', _, e3, e4⟩ := h.pos hj
  rw [e2, e4] at e
  have : k = k' := by omega
  subst this
  rw [e1] at e3
  rcases Nat.lt_trichotomy i j with h1 | h1 | h1
  · have := up_nth h.up h1 (by rw [h.ls]; exact hj); omega
  · exact h1
  · have := up_nth h.up h1 (by rw [h.ls]; exact hi); omega
theorem newF_old {ids s : List Int} (h : Four ids s) : ∀ (k : Nat), k ≤ 4 → ∀ j, k ≤ j → j < 4 → newF ids s k (atI ids s j) = none
  | 0, _, _, _, _ => rfl
  | k + 1, hk, j, hj, hj4 => by
    show setM _ _ _ _ = none
    rw [setM_ne _ _ (fun e => by have := h.inj (i := j) (j := k) hj4 (by omega) e; omega)]
    exact newF_old h k (by omega) j (by omega) hj4
theorem newF_dom {ids s : List Int} (h : Four ids s) : ∀ k, k ≤ 4 → Dom (newF ids s k)
  | 0, _ => fun n m e => by cases e
  | k + 1, hk => fun n m e => by
    have hd := newF_dom h k (by omega)
    by_cases en : n = atI ids s k
    · subst en
      have e' : some (memAt ids s k) = some m := by rw [← e]; exact (setM_same _ _ _).symm
      cases e'
      have a0 := h.at k
      have a1 := h.at (k + 1)
      have a2 := h.at (k + 2)
      have a3 := h.at (k + 3)
      have a4 := h.at (k - 1)
      refine ⟨a0.1, by omega, ?_, by simp [memAt], ⟨by show -1 ≤ atI ids s (k - 1); omega, by show atI ids s (k - 1) < 32; omega⟩, fun x hx => ?_⟩
      · obtain ⟨k', hk', e1, _⟩ := h.pos (j := k) (by omega)
        show isPlace (nth s k)
        rw [← e1]
        exact h.place _ (nth_mem.2 ⟨k', by rw [h.li]; exact hk', rfl⟩)
      · simp only [memAt, List.mem_cons, List.not_mem_nil, or_false] at hx
        rcases hx with rfl | rfl | rfl <;> omega
    · have e' : newF ids s k n = some m := by rw [← e]; exact (setM_ne _ _ en).symm
      exact hd n m e'
end Go.Proofs.YthbijjpaljjapaaDoor
