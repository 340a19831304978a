/-
  Places that are sorted, each once: what sorting and compacting answers, in plain words. No program is named here.
-/
import Derived.Test.YtacdgfkahppmdaaBase
import Derived.Lib.SlicesCompact
import Derived.Sort.Grow
namespace Go.Proofs.Ytacdgfkahppmdaa
open Go.RowKit Go.Sort Go.Lib
set_option linter.unusedVariables false
set_option linter.unusedSimpArgs false

/-- Some numbers, rising, each once. -/
def setI (l : List Int) : List Int := compact (l.mergeSort fun x y => decide (x ≤ y))

/-- Rising. -/
def Up (l : List Int) : Prop := l.Pairwise (· < ·)
theorem up_uniq : ∀ {a b : List Int}, Up a → Up b → (∀ x, x ∈ a ↔ x ∈ b) → a = b
  | [], [], _, _, _ => rfl
  | [], y :: b, _, _, h => by have := (h y).2 (by simp); simp at this
  | x :: a, [], _, _, h => by have := (h x).1 (by simp); simp at this
  | x :: a, y :: b, ha, hb, h => by
    have ha' := List.pairwise_cons.1 ha
    have hb' := List.pairwise_cons.1 hb
    have hxy : x = y := by
      have h1 := (h x).1 (by simp)
      have h2 := (h y).2 (by simp)
      rcases List.mem_cons.1 h1 with e | e
      · exact e
      · rcases List.mem_cons.1 h2 with e2 | e2
        · exact e2.symm
        · have := ha'.1 y e2; have := hb'.1 x e; omega
    subst hxy
    rw [up_uniq ha'.2 hb'.2 fun z => ?_]
    constructor
    · intro hz
      have := (h z).1 (List.mem_cons_of_mem _ hz)
      rcases List.mem_cons.1 this with e | e
      · have := ha'.1 z hz; omega
      · exact e
    · intro hz
      have := (h z).2 (List.mem_cons_of_mem _ hz)
      rcases List.mem_cons.1 this with e | e
      · have := hb'.1 z hz; omega
      · exact e
theorem up_sub_len : ∀ {s a : List Int}, Up s → Up a → (∀ x ∈ a, x ∈ s) → a.length ≤ s.length
  | [], [], _, _, _ => Nat.le_refl _
  | [], y :: a, _, _, h => by have := h y (by simp); simp at this
  | z :: s, [], _, _, _ => Nat.zero_le _
  | z :: s, y :: a, hs, ha, h => by
    have hs' := List.pairwise_cons.1 hs
    have ha' := List.pairwise_cons.1 ha
    by_cases e : y = z
    · subst e
      have := up_sub_len hs'.2 ha'.2 fun x hx => by
        rcases List.mem_cons.1 (h x (List.mem_cons_of_mem _ hx)) with e | e
        · have := ha'.1 x hx; omega
        · exact e
      simp; omega
    · have hy : y ∈ s := by
        rcases List.mem_cons.1 (h y (by simp)) with e2 | e2
        · exact absurd e2 e
        · exact e2
      have hzy := hs'.1 y hy
      have := up_sub_len hs'.2 ha fun x hx => by
        rcases List.mem_cons.1 (h x hx) with e2 | e2
        · rcases List.mem_cons.1 hx with e3 | e3
          · omega
          · have := ha'.1 x e3; omega
        · exact e2
      simp at this ⊢; omega

theorem getD_arr (l : List Int) (j : Nat) : l.toArray[j]! = nth l j := by
  unfold nth
  by_cases h : j < l.length
  · rw [getElem!_pos _ j (by simpa using h)]; simp [h]
  · rw [getElem!_neg _ j (by simpa using h)]; simp [h]
theorem compact_up {l : List Int} (hs : l.Pairwise (· ≤ ·)) : ∀ m, m ≤ l.length →
    Up (compactUpTo l.toArray m) ∧ (∀ x, x ∈ compactUpTo l.toArray m ↔ ∃ j, j < m ∧ nth l j = x) ∧ (∀ x ∈ compactUpTo l.toArray m, 0 < m ∧ x ≤ nth l (m - 1)) := by
  have hm : ∀ i j, i ≤ j → j < l.length → nth l i ≤ nth l j := fun i j hij hj => by
    rw [nth_eq hj, nth_eq (by omega)]
    rcases Nat.eq_or_lt_of_le hij with rfl | h
    · exact Int.le_refl _
    · exact List.pairwise_iff_getElem.1 hs i j (by omega) hj h
  intro m
  induction m with
  | zero => intro _; simp [compactUpTo, Up]
  | succ m ih =>
    intro hl
    obtain ⟨h1, h2, h3⟩ := ih (by omega)
    rw [compactUpTo_succ]
    by_cases hk : keeps l.toArray m = true
    · rw [if_pos hk, getD_arr]
      have hbig : ∀ x ∈ compactUpTo l.toArray m, x < nth l m := fun x hx => by
        obtain ⟨h0, hx'⟩ := h3 x hx
        have : nth l m ≠ nth l (m - 1) := by
          simp only [keeps, decide_eq_true_eq] at hk
          rcases hk with e | e
          · omega
          · simpa only [getD_arr] using e
        have := hm (m - 1) m (by omega) (by omega)
        omega
      refine ⟨?_, fun x => ?_, fun x hx => ?_⟩
      · exact List.pairwise_append.2 ⟨h1, by simp, fun x hx y hy => by simp at hy; subst hy; exact hbig x hx⟩
      · rw [List.mem_append, h2]
        constructor
        · rintro (⟨j, hj, e⟩ | e)
          · exact ⟨j, by omega, e⟩
          · simp at e; exact ⟨m, by omega, e.symm⟩
        · rintro ⟨j, hj, e⟩
          by_cases hjm : j = m
          · subst hjm; right; simp [e]
          · left; exact ⟨j, by omega, e⟩
      · refine ⟨by omega, ?_⟩
        rw [Nat.add_sub_cancel]
        rcases List.mem_append.1 hx with h | h
        · exact Int.le_of_lt (hbig x h)
        · simp at h; omega
    · rw [if_neg hk, List.append_nil]
      have hm0 : m ≠ 0 ∧ nth l m = nth l (m - 1) := by
        simp only [keeps, decide_eq_true_eq, not_or, Decidable.not_not, ne_eq] at hk
        simpa only [getD_arr] using hk
      refine ⟨h1, fun x => ?_, fun x hx => ⟨by omega, ?_⟩⟩
      · rw [h2]
        constructor
        · rintro ⟨j, hj, e⟩; exact ⟨j, by omega, e⟩
        · rintro ⟨j, hj, e⟩
          by_cases hjm : j = m
          · subst hjm; exact ⟨j - 1, by omega, by rw [← hm0.2]; exact e⟩
          · exact ⟨j, by omega, e⟩
      · rw [Nat.add_sub_cancel, hm0.2]; exact (h3 x hx).2
theorem nth_mem {l : List Int} {x : Int} : x ∈ l ↔ ∃ j, j < l.length ∧ nth l j = x := by
  constructor
  · intro h; obtain ⟨j, hj, e⟩ := List.getElem_of_mem h; exact ⟨j, hj, by rw [nth_eq hj]; exact e⟩
  · rintro ⟨j, hj, e⟩; rw [nth_eq hj] at e; rw [← e]; exact List.getElem_mem hj
theorem setI_facts (l : List Int) : Up (setI l) ∧ ∀ x, x ∈ setI l ↔ x ∈ l := by
  have hs : (l.mergeSort fun x y => decide (x ≤ y)).Pairwise (· ≤ ·) := by
    have := List.pairwise_mergeSort (le := fun x y : Int => decide (x ≤ y)) (by intro a b c; simp; omega) (by intro a b; simp; omega) l
    exact this.imp (by intro a b h; simpa using h)
  obtain ⟨h1, h2, _⟩ := compact_up hs _ (Nat.le_refl _)
  refine ⟨h1, fun x => ?_⟩
  show x ∈ compactUpTo _ _ ↔ _
  rw [h2, ← nth_mem]
  exact List.mem_mergeSort
theorem setI_up (l : List Int) : Up (setI l) := (setI_facts l).1
theorem mem_setI {l : List Int} {x : Int} : x ∈ setI l ↔ x ∈ l := (setI_facts l).2 x
theorem setI_len (l : List Int) : (setI l).length ≤ l.length := by
  unfold setI compact compactUpTo
  rw [List.length_map]
  refine Nat.le_trans (List.length_filter_le _ _) ?_
  simp
theorem setI_of_up {l : List Int} (h : Up l) : setI l = l := up_uniq (setI_up l) h fun x => mem_setI
theorem up_nth {l : List Int} (h : Up l) {i j : Nat} (hij : i < j) (hj : j < l.length) : nth l i < nth l j := by
  rw [nth_eq hj, nth_eq (by omega)]; exact List.pairwise_iff_getElem.1 h i j (by omega) hj hij

/-! ### Slices, opened -/
theorem SlAt.slice {B : Nat} {g : Nat → Value} {n : Nat} {w : World} {v : Value} (h : SlAt B g n w v) : ∃ a cap, v = .slice a n cap ∧ n ≤ cap ∧ cap ≤ maxLen := by
  obtain ⟨a, cap, rfl, h1, h2, _⟩ := h; exact ⟨a, cap, rfl, h1, h2⟩
theorem SlAt.at {B : Nat} {g : Nat → Value} {n : Nat} {w : World} {a : Option Addr} {cap : Nat} (h : SlAt B g n w (.slice a n cap)) (k : Nat) (hk : k < n) (wr : World) (hB : Below w.heap.size w wr) :
    ∃ b off : Nat, a = some ⟨b, off, none⟩ ∧ B ≤ b ∧ b < wr.heap.size ∧ wr.cell? ⟨b, off + k, none⟩ = some (g k) := by
  obtain ⟨a', cap', e, _, _, _, h3⟩ := h
  injection e with e1 e2 e3
  subst e1
  obtain ⟨b, off, rfl, h4, h5, h6⟩ := h3.resolve_left (by omega)
  exact ⟨b, off, rfl, h4, Nat.lt_of_lt_of_le h5 hB.size, (hB.cell (p := ⟨b, off + k, none⟩) h5).trans (h6 k hk)⟩

/-! ### Worlds -/
theorem holds_of {enc : Int → Value} {w : World} {b off : Nat} {l : List Int} (h : ∀ j, j < l.length → w.cell? ⟨b, off + j, none⟩ = some (enc (nth l j)) ∧ w.frozen? ⟨b, off + j, none⟩ = false) : Holds enc w b off l.toArray := by
  intro j hj
  rw [getD_arr]
  exact h j (by simpa using hj)
theorem below_putRow {enc : Int → Value} (w : World) (b off : Nat) (d : Array Int) {B : Nat} (h : B ≤ b) : Go.RowKit.Below B w (putRow enc w b off d) :=
  ⟨rfl, rfl, rfl, by simp, fun k hk => by
    show (w.heap.modify b _)[k]? = _
    rw [Array.getElem?_modify, if_neg (by omega)]⟩
theorem below_grow (w : World) (os : Array Obj) {B : Nat} (h : B ≤ w.heap.size) : Go.RowKit.Below B w (grow w os) :=
  ⟨rfl, rfl, rfl, by simp, fun k hk => heap_grow_old w os (by omega)⟩
theorem below_ahead (w : World) (n : Nat) {B : Nat} : Go.RowKit.Below B w (Sort.ahead w n) := ⟨rfl, rfl, rfl, Nat.le_refl _, fun _ _ => rfl⟩
end Go.Proofs.Ytacdgfkahppmdaa
