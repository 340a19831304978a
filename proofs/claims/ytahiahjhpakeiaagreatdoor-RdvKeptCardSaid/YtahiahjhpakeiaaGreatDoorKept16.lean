/-
  Texts in order, filters made clean, a table's entries sorted by group and child: the plain law. No walk stands here, and no program is named. append onto a slice of the call's own: where the new row lies: where the old one did, or in a new block. No program is named here.
-/
import Derived.Test.YtahiahjhpakeiaaGreatDoorKept1
import Derived.Lib.SlicesCompact
import Derived.Sort.Grow
import Derived.Laws.AppendOwn
import Derived.Laws.Append
section
namespace Go.Proofs.YtahiahjhpakeiaaGreatDoor
open Go.RowKit Go.Sort Go.Lib
set_option linter.unusedVariables false
set_option linter.unusedSimpArgs false

/-! ### Texts -/
abbrev Str := List UInt8
theorem str_irrefl (a : Str) : ¬ a < a := List.lt_irrefl a
theorem str_trans {a b c : Str} (h : a < b) (k : b < c) : a < c := List.lt_trans h k
theorem str_asymm {a b : Str} (h : a < b) : ¬ b < a := fun k => str_irrefl _ (str_trans h k)
theorem str_tri (a b : Str) : a < b ∨ a = b ∨ b < a := by
  by_cases h : a < b
  · exact Or.inl h
  · by_cases k : b < a
    · exact Or.inr (Or.inr k)
    · exact Or.inr (Or.inl (List.le_antisymm (List.not_lt.1 k) (List.not_lt.1 h)))
theorem str_le {a b : Str} : a ≤ b ↔ a < b ∨ a = b := by
  constructor
  · intro h
    rcases str_tri a b with k | k | k
    · exact Or.inl k
    · exact Or.inr k
    · exact absurd k (List.not_lt.2 h)
  · rintro (h | rfl)
    · exact List.not_lt.1 (str_asymm h)
    · exact List.le_refl _
def nthT (l : List Str) (k : Nat) : Str := l.getD k []
theorem nthT_eq {l : List Str} {k : Nat} (h : k < l.length) : nthT l k = l[k] := by unfold nthT; simp [h]
theorem getD_arrT (l : List Str) (j : Nat) : l.toArray[j]! = nthT l j := by
  unfold nthT
  by_cases h : j < l.length
  · rw [getElem!_pos _ j (by simpa using h)]; simp [h]
  · rw [getElem!_neg _ j (by simpa using h)]; simp [h]; rfl
/-- Two lists in a strict order with the same members are one. -/
theorem pw_uniq {α : Type} {R : α → α → Prop} (asy : ∀ x y, R x y → ¬ R y x) : ∀ {a b : List α}, a.Pairwise R → b.Pairwise R → (∀ x, x ∈ a ↔ x ∈ b) → a = b
  | [], [], _, _, _ => rfl
  | [], y :: b, _, _, h => by have := (h y).2 (by simp); simp at this
  | x :: a, [], _, _, h => by have := (h x).1 (by simp); simp at this
  | x :: a, y :: b, ha, hb, h => by
    have ha' := List.pairwise_cons.1 ha
    have hb' := List.pairwise_cons.1 hb
    have hxy : x = y := by
      have h1 := (h x).1 (by simp)
      have h2 := (h y).2 (by simp)
      rcases List.mem_cons.1 h1 with e | e
      · exact e
      · rcases List.mem_cons.1 h2 with e2 | e2
        · exact e2.symm
        · exact absurd (hb'.1 x e) (asy _ _ (ha'.1 y e2))
    subst hxy
    have irr : ¬ R x x := fun r => asy _ _ r r
    rw [pw_uniq asy ha'.2 hb'.2 fun z => ?_]
    constructor
    · intro hz
      rcases List.mem_cons.1 ((h z).1 (List.mem_cons_of_mem _ hz)) with e | e
      · subst e; exact absurd (ha'.1 _ hz) irr
      · exact e
    · intro hz
      rcases List.mem_cons.1 ((h z).2 (List.mem_cons_of_mem _ hz)) with e | e
      · subst e; exact absurd (hb'.1 _ hz) irr
      · exact e
/-- Rising. -/
def UpS (l : List Str) : Prop := l.Pairwise (· < ·)
theorem upS_uniq {a b : List Str} (ha : UpS a) (hb : UpS b) (h : ∀ x, x ∈ a ↔ x ∈ b) : a = b := pw_uniq (fun _ _ h => str_asymm h) ha hb h
theorem upS_nodup {a : List Str} (h : UpS a) : a.Nodup := by
  unfold List.Nodup
  exact h.imp fun {x y} hxy e => by subst e; exact str_irrefl _ hxy
/-- Some texts, rising, each once. -/
def setS (l : List Str) : List Str := compact (l.mergeSort fun x y => decide (x ≤ y))
theorem compactS_up {l : List Str} (hs : l.Pairwise (· ≤ ·)) : ∀ m, m ≤ l.length →
    UpS (compactUpTo l.toArray m) ∧ (∀ x, x ∈ compactUpTo l.toArray m ↔ ∃ j, j < m ∧ nthT l j = x) ∧ (∀ x ∈ compactUpTo l.toArray m, 0 < m ∧ x ≤ nthT l (m - 1)) := by
  have hm : ∀ i j, i ≤ j → j < l.length → nthT l i ≤ nthT l j := fun i j hij hj => by
    rw [nthT_eq hj, nthT_eq (by omega)]
    rcases Nat.eq_or_lt_of_le hij with rfl | h
    · exact List.le_refl _
    · exact List.pairwise_iff_getElem.1 hs i j (by omega) hj h
  intro m
  induction m with
  | zero => intro _; simp [compactUpTo, UpS]
  | succ m ih =>
    intro hl
    obtain ⟨h1, h2, h3⟩ := ih (by omega)
    rw [compactUpTo_succ]
    by_cases hk : keeps l.toArray m = true
    · rw [if_pos hk, getD_arrT]
      have hbig : ∀ x ∈ compactUpTo l.toArray m, x < nthT l m := fun x hx => by
        obtain ⟨h0, hx'⟩ := h3 x hx
        have hne : nthT l m ≠ nthT l (m - 1) := by
          simp only [keeps, decide_eq_true_eq] at hk
          rcases hk with e | e
          · omega
          · simpa only [getD_arrT] using e
        have hle := hm (m - 1) m (by omega) (by omega)
        rcases str_le.1 hle with h | h
        · rcases str_le.1 hx' with k | k
          · exact str_trans k h
          · rw [k]; exact h
        · exact absurd h.symm hne
      refine ⟨?_, fun x => ?_, fun x hx => ?_⟩
      · exact List.pairwise_append.2 ⟨h1, by simp, fun x hx y hy => by simp at hy; subst hy; exact hbig x hx⟩
      · rw [List.mem_append, h2]
        constructor
        · rintro (⟨j, hj, e⟩ | e)
          · exact ⟨j, by omega, e⟩
          · simp at e; exact ⟨m, by omega, e.symm⟩
        · rintro ⟨j, hj, e⟩
          by_cases hjm : j = m
          · subst hjm; right; simp [e]
          · left; exact ⟨j, by omega, e⟩
      · refine ⟨by omega, ?_⟩
        rw [Nat.add_sub_cancel]
        rcases List.mem_append.1 hx with h | h
        · exact str_le.2 (Or.inl (hbig x h))
        · simp at h; subst h; exact List.le_refl _
    · rw [if_neg hk, List.append_nil]
      have hm0 : m ≠ 0 ∧ nthT l m = nthT l (m - 1) := by
        simp only [keeps, decide_eq_true_eq, not_or, Decidable.not_not, ne_eq] at hk
        exact ⟨hk.1, by simpa only [getD_arrT] using hk.2⟩
      refine ⟨h1, fun x => ?_, fun x hx => ?_⟩
      · rw [h2]
        constructor
        · rintro ⟨j, hj, e⟩; exact ⟨j, by omega, e⟩
        · rintro ⟨j, hj, e⟩
          by_cases hjm : j = m
          · subst hjm; exact ⟨j - 1, by omega, by rw [← hm0.2]; exact e⟩
          · exact ⟨j, by omega, e⟩
      · obtain ⟨h0, hx'⟩ := h3 x hx
        refine ⟨by omega, ?_⟩
        rw [Nat.add_sub_cancel, hm0.2]; exact hx'
theorem sortS_le (l : List Str) : (l.mergeSort fun x y => decide (x ≤ y)).Pairwise (· ≤ ·) := by
  have h := List.pairwise_mergeSort (le := fun (x y : Str) => decide (x ≤ y)) (fun a b c h k => by
      simp only [decide_eq_true_eq] at *; exact List.le_trans h k) (fun a b => by
      simp only [Bool.or_eq_true, decide_eq_true_eq]; exact List.le_total a b) l
  exact h.imp fun h => by simpa using h
theorem setS_up (l : List Str) : UpS (setS l) := by
  have := (compactS_up (sortS_le l) _ (Nat.le_refl _)).1
  exact this
theorem mem_setS (l : List Str) (x : Str) : x ∈ setS l ↔ x ∈ l := by
  have h := (compactS_up (sortS_le l) _ (Nat.le_refl _)).2.1 x
  have e : setS l = compactUpTo (l.mergeSort fun x y => decide (x ≤ y)).toArray (l.mergeSort fun x y => decide (x ≤ y)).length := rfl
  rw [e, h]
  constructor
  · rintro ⟨j, hj, rfl⟩
    rw [nthT_eq hj]
    exact List.mem_mergeSort.1 (List.getElem_mem hj)
  · intro hx
    obtain ⟨j, hj, e⟩ := List.getElem_of_mem (List.mem_mergeSort.2 hx)
    exact ⟨j, hj, by rw [nthT_eq hj]; exact e⟩
theorem setS_set (l : List Str) : setS (setS l) = setS l := upS_uniq (setS_up _) (setS_up _) fun x => mem_setS _ x
theorem setS_len (l : List Str) : (setS l).length ≤ l.length := by
  have h1 : (setS l).length ≤ (l.mergeSort fun x y => decide (x ≤ y)).length := by
    unfold setS compact compactUpTo
    rw [List.length_map]
    exact Nat.le_trans (List.length_filter_le _ _) (by simp)
  simpa using h1
/-! ### Entries -/
/-- An entry: group, child, filters, all?, tick. -/
structure Ent where
  g : Str
  c : Int
  fs : List Str
  any : Bool
  t : Int
deriving Inhabited
/-- Filters rising, each once; or all. -/
def cleanE (e : Ent) : Ent := if e.any = true ∨ 16 < (setS e.fs).length then ⟨e.g, e.c, [], true, e.t⟩ else ⟨e.g, e.c, setS e.fs, false, e.t⟩
theorem clean_g (e : Ent) : (cleanE e).g = e.g := by unfold cleanE; split <;> rfl
theorem clean_c (e : Ent) : (cleanE e).c = e.c := by unfold cleanE; split <;> rfl
theorem clean_clean (e : Ent) : cleanE (cleanE e) = cleanE e := by
  by_cases h : e.any = true ∨ 16 < (setS e.fs).length
  · rw [show cleanE e = ⟨e.g, e.c, [], true, e.t⟩ from if_pos h]; simp [cleanE]
  · rw [show cleanE e = ⟨e.g, e.c, setS e.fs, false, e.t⟩ from if_neg h]
    unfold cleanE
    rw [setS_set, if_neg (by rintro (k | k); · cases k
                             exact h (Or.inr k))]
/-- The order of keys. -/
def klt (g : Str) (c : Int) (g' : Str) (c' : Int) : Prop := g < g' ∨ (g = g' ∧ c < c')
instance (g : Str) (c : Int) (g' : Str) (c' : Int) : Decidable (klt g c g' c') := inferInstanceAs (Decidable (_ ∨ _))
theorem klt_asymm {g g' : Str} {c c' : Int} (h : klt g c g' c') : ¬ klt g' c' g c := by
  rintro (k | ⟨rfl, k⟩)
  · rcases h with h | ⟨rfl, h⟩
    · exact str_asymm h k
    · exact str_irrefl _ k
  · rcases h with h | ⟨_, h⟩
    · exact str_irrefl _ h
    · omega
theorem klt_irrefl (g : Str) (c : Int) : ¬ klt g c g c := fun h => klt_asymm h h
theorem klt_trans {a b c : Str} {x y z : Int} (h : klt a x b y) (k : klt b y c z) : klt a x c z := by
  rcases h with h | ⟨rfl, h⟩ <;> rcases k with k | ⟨rfl, k⟩
  · exact Or.inl (str_trans h k)
  · exact Or.inl h
  · exact Or.inl k
  · exact Or.inr ⟨rfl, by omega⟩
theorem klt_tri (g : Str) (c : Int) (g' : Str) (c' : Int) : klt g c g' c' ∨ (g = g' ∧ c = c') ∨ klt g' c' g c := by
  rcases str_tri g g' with h | rfl | h
  · exact Or.inl (Or.inl h)
  · rcases Int.lt_trichotomy c c' with k | k | k
    · exact Or.inl (Or.inr ⟨rfl, k⟩)
    · exact Or.inr (Or.inl ⟨rfl, k⟩)
    · exact Or.inr (Or.inr (Or.inr ⟨rfl, k⟩))
  · exact Or.inr (Or.inr (Or.inl h))
/-- What order answers. -/
def cmpK (g : Str) (c : Int) (g' : Str) (c' : Int) : Int := if g < g' then -1 else if g' < g then 1 else if c < c' then -1 else if c' < c then 1 else 0
theorem cmpK_lt {g g' : Str} {c c' : Int} : cmpK g c g' c' < 0 ↔ klt g c g' c' := by
  unfold cmpK klt
  by_cases h1 : g < g'
  · simp [h1]
  · by_cases h2 : g' < g
    · have : g ≠ g' := fun e => by subst e; exact h1 h2
      simp [h1, h2, this]
    · have e : g = g' := by
        rcases str_tri g g' with h | h | h
        · exact absurd h h1
        · exact h
        · exact absurd h h2
      subst e
      by_cases h3 : c < c'
      · simp [h3, str_irrefl]
      · by_cases h4 : c' < c <;> simp [h3, h4, str_irrefl]
theorem cmpK_eq {g g' : Str} {c c' : Int} : cmpK g c g' c' = 0 ↔ g = g' ∧ c = c' := by
  unfold cmpK
  by_cases h1 : g < g'
  · have : g ≠ g' := fun e => by subst e; exact str_irrefl _ h1
    simp [h1, this]
  · by_cases h2 : g' < g
    · have : g ≠ g' := fun e => by subst e; exact h1 h2
      simp [h1, h2, this]
    · have e : g = g' := by
        rcases str_tri g g' with h | h | h
        · exact absurd h h1
        · exact h
        · exact absurd h h2
      subst e
      by_cases h3 : c < c'
      · simp [h3, str_irrefl]; omega
      · by_cases h4 : c' < c
        · simp [h3, h4, str_irrefl]; omega
        · simp [h3, h4, str_irrefl]; omega
/-- The table is in order. -/
def OrdE (l : List Ent) : Prop := l.Pairwise fun a b => klt a.g a.c b.g b.c
def entAt (l : List Ent) (k : Nat) : Ent := l.getD k default
theorem entAt_eq {l : List Ent} {k : Nat} (h : k < l.length) : entAt l k = l[k] := by unfold entAt; simp [h]
/-- How many stand ahead of a key. -/
def findI (l : List Ent) (g : Str) (c : Int) : Nat := l.countP fun e => decide (klt e.g e.c g c)
theorem findI_le (l : List Ent) (g : Str) (c : Int) : findI l g c ≤ l.length := List.countP_le_length
theorem findI_lo {l : List Ent} (h : OrdE l) (g : Str) (c : Int) : ∀ k, k < findI l g c → klt (entAt l k).g (entAt l k).c g c := by
  induction l with
  | nil => intro k hk; simp [findI] at hk
  | cons y l ih =>
    intro k hk
    have hp := List.pairwise_cons.1 h
    by_cases hy : klt y.g y.c g c
    · cases k with
      | zero => exact hy
      | succ k =>
        have : findI (y :: l) g c = findI l g c + 1 := by unfold findI; rw [List.countP_cons_of_pos (by simpa using hy)]
        exact ih hp.2 k (by omega)
    · have h0 : findI (y :: l) g c = 0 := by
        unfold findI
        rw [List.countP_eq_zero]
        intro e he
        simp only [decide_eq_true_eq]
        rcases List.mem_cons.1 he with rfl | he
        · exact hy
        · intro hk; exact hy (klt_trans (hp.1 e he) hk)
      omega
theorem findI_hi {l : List Ent} (h : OrdE l) (g : Str) (c : Int) : ∀ k, findI l g c ≤ k → k < l.length → ¬ klt (entAt l k).g (entAt l k).c g c := by
  induction l with
  | nil => intro k _ hk; simp at hk
  | cons y l ih =>
    intro k hk hl
    have hp := List.pairwise_cons.1 h
    by_cases hy : klt y.g y.c g c
    · have : findI (y :: l) g c = findI l g c + 1 := by unfold findI; rw [List.countP_cons_of_pos (by simpa using hy)]
      cases k with
      | zero => omega
      | succ k => exact ih hp.2 k (by omega) (by simpa using hl)
    · cases k with
      | zero => exact hy
      | succ k =>
        intro hkk
        have hm : entAt (y :: l) (k + 1) ∈ l := by
          have : k < l.length := by simpa using hl
          rw [show entAt (y :: l) (k + 1) = entAt l k from rfl, entAt_eq this]
          exact List.getElem_mem this
        exact hy (klt_trans (hp.1 _ hm) hkk)
/-- Where the ahead ones end. -/
theorem findI_at {l : List Ent} (h : OrdE l) {g : Str} {c : Int} {i : Nat} (hi : i ≤ l.length) (h1 : ∀ k, k < i → klt (entAt l k).g (entAt l k).c g c) (h2 : ∀ k, i ≤ k → k < l.length → ¬ klt (entAt l k).g (entAt l k).c g c) : i = findI l g c := by
  have hf := findI_le l g c
  rcases Nat.lt_trichotomy i (findI l g c) with h' | h' | h'
  · exact absurd (findI_lo h g c i h') (h2 i (Nat.le_refl _) (by omega))
  · exact h'
  · exact absurd (h1 _ h') (findI_hi h g c _ (Nat.le_refl _) (by omega))
def hitB (l : List Ent) (g : Str) (c : Int) : Bool := decide (findI l g c < l.length ∧ (entAt l (findI l g c)).g = g ∧ (entAt l (findI l g c)).c = c)
theorem hit_iff {l : List Ent} (h : OrdE l) (g : Str) (c : Int) : hitB l g c = true ↔ ∃ e ∈ l, e.g = g ∧ e.c = c := by
  unfold hitB
  rw [decide_eq_true_eq]
  constructor
  · rintro ⟨h1, h2, h3⟩
    exact ⟨_, by rw [entAt_eq h1]; exact List.getElem_mem h1, h2, h3⟩
  · rintro ⟨e, he, rfl, rfl⟩
    obtain ⟨k, hk, rfl⟩ := List.getElem_of_mem he
    have hlo := findI_lo h l[k].g l[k].c
    have hhi := findI_hi h l[k].g l[k].c
    have hke : findI l l[k].g l[k].c = k := by
      rcases Nat.lt_trichotomy (findI l l[k].g l[k].c) k with h' | h' | h'
      · have h4 := hhi _ (Nat.le_refl _) (by omega)
        have h5 := List.pairwise_iff_getElem.1 h _ _ (by omega) hk h'
        rw [entAt_eq (by omega)] at h4
        exact absurd h5 h4
      · exact h'
      · have h4 := hlo k h'
        rw [entAt_eq hk] at h4
        exact absurd h4 (klt_irrefl _ _)
    rw [hke, entAt_eq hk]
    exact ⟨hk, rfl, rfl⟩
/-- An entry takes the place of that of its group and child. -/
def putE (l : List Ent) (x : Ent) : List Ent :=
  if hitB l x.g x.c = true then l.set (findI l x.g x.c) x else l.take (findI l x.g x.c) ++ x :: l.drop (findI l x.g x.c)
theorem mem_putE {l : List Ent} (h : OrdE l) (x e : Ent) : e ∈ putE l x ↔ e = x ∨ (e ∈ l ∧ ¬ (e.g = x.g ∧ e.c = x.c)) := by
  unfold putE
  by_cases hh : hitB l x.g x.c = true
  · rw [if_pos hh]
    unfold hitB at hh
    rw [decide_eq_true_eq] at hh
    obtain ⟨h1, h2, h3⟩ := hh
    rw [entAt_eq h1] at h2 h3
    constructor
    · intro he
      obtain ⟨k, hk, rfl⟩ := List.getElem_of_mem he
      rw [List.length_set] at hk
      rw [List.getElem_set]
      split
      · exact Or.inl rfl
      · rename_i hne
        refine Or.inr ⟨List.getElem_mem hk, fun ⟨e1, e2⟩ => ?_⟩
        rcases Nat.lt_or_gt_of_ne hne with h' | h'
        · have := List.pairwise_iff_getElem.1 h _ _ h1 hk h'
          rw [h2, h3, e1, e2] at this; exact klt_irrefl _ _ this
        · have := List.pairwise_iff_getElem.1 h _ _ hk h1 h'
          rw [h2, h3, e1, e2] at this; exact klt_irrefl _ _ this
    · rintro (he | ⟨he, hne⟩)
      · rw [he, List.mem_iff_getElem]
        exact ⟨findI l x.g x.c, by simpa using h1, by simp⟩
      · obtain ⟨k, hk, rfl⟩ := List.getElem_of_mem he
        have hki : findI l x.g x.c ≠ k := fun e => hne (by subst e; exact ⟨h2, h3⟩)
        rw [List.mem_iff_getElem]
        exact ⟨k, by simpa using hk, by rw [List.getElem_set, if_neg hki]⟩
  · rw [if_neg hh]
    have hno : ∀ e ∈ l, ¬ (e.g = x.g ∧ e.c = x.c) := fun e he hk => hh ((hit_iff h x.g x.c).2 ⟨e, he, hk⟩)
    constructor
    · intro he
      rcases List.mem_append.1 he with he | he
      · have := List.mem_of_mem_take he
        exact Or.inr ⟨this, hno e this⟩
      · rcases List.mem_cons.1 he with he | he
        · exact Or.inl he
        · have := List.mem_of_mem_drop he
          exact Or.inr ⟨this, hno e this⟩
    · rintro (rfl | ⟨he, _⟩)
      · exact List.mem_append_right _ (by simp)
      · rw [← List.take_append_drop (findI l x.g x.c) l] at he
        rcases List.mem_append.1 he with he | he
        · exact List.mem_append_left _ he
        · exact List.mem_append_right _ (List.mem_cons_of_mem _ he)
theorem ord_putE {l : List Ent} (h : OrdE l) (x : Ent) : OrdE (putE l x) := by
  have hlo := findI_lo h x.g x.c
  have hhi := findI_hi h x.g x.c
  unfold putE
  by_cases hh : hitB l x.g x.c = true
  · rw [if_pos hh]
    unfold hitB at hh
    rw [decide_eq_true_eq] at hh
    obtain ⟨h1, h2, h3⟩ := hh
    rw [entAt_eq h1] at h2 h3
    refine List.pairwise_iff_getElem.2 fun i j hi hj hij => ?_
    rw [List.length_set] at hi hj
    have hP := List.pairwise_iff_getElem.1 h i j hi hj hij
    rw [List.getElem_set, List.getElem_set]
    split
    · rename_i e1
      subst e1
      rw [if_neg (by omega)]
      rw [h2, h3] at hP
      exact hP
    · split
      · rename_i e1
        subst e1
        rw [h2, h3] at hP
        exact hP
      · exact hP
  · rw [if_neg hh]
    have hno : ∀ e ∈ l, ¬ (e.g = x.g ∧ e.c = x.c) := fun e he hk => hh ((hit_iff h x.g x.c).2 ⟨e, he, hk⟩)
    refine List.pairwise_append.2 ⟨h.sublist (List.take_sublist _ _), List.pairwise_cons.2 ⟨fun e he => ?_, h.sublist (List.drop_sublist _ _)⟩, fun a ha b hb => ?_⟩
    · obtain ⟨k, hk, rfl⟩ := List.getElem_of_mem he
      rw [List.length_drop] at hk
      rw [List.getElem_drop]
      have := hhi (findI l x.g x.c + k) (by omega) (by omega)
      rw [entAt_eq (by omega)] at this
      rcases klt_tri l[findI l x.g x.c + k].g l[findI l x.g x.c + k].c x.g x.c with q | q | q
      · exact absurd q this
      · exact absurd q (hno _ (List.getElem_mem _))
      · exact q
    · obtain ⟨k, hk, rfl⟩ := List.getElem_of_mem ha
      rw [List.length_take] at hk
      rw [List.getElem_take]
      have hk' := hlo k (by omega)
      rw [entAt_eq (by omega)] at hk'
      rcases List.mem_cons.1 hb with rfl | hb
      · exact hk'
      · obtain ⟨m, hm, rfl⟩ := List.getElem_of_mem hb
        rw [List.length_drop] at hm
        rw [List.getElem_drop]
        exact List.pairwise_iff_getElem.1 h _ _ (by omega) (by omega) (by omega)
theorem len_putE (l : List Ent) (x : Ent) : (putE l x).length = if hitB l x.g x.c = true then l.length else l.length + 1 := by
  have := findI_le l x.g x.c
  unfold putE
  split
  · simp
  · simp; omega
def keyOf (e : Ent) : Str × Int := (e.g, e.c)
def keysE (l : List Ent) : List (Str × Int) := l.map keyOf
theorem keys_ord {l : List Ent} (h : OrdE l) : (keysE l).Pairwise fun a b => klt a.1 a.2 b.1 b.2 := List.pairwise_map.2 h
theorem key_clean (e : Ent) : keyOf (cleanE e) = keyOf e := by unfold keyOf; rw [clean_g, clean_c]
/-- The entries of a group, clean. -/
def kidsE (l : List Ent) (g : Str) : List Ent := (l.filter fun e => decide (e.g = g)).map cleanE
/-- The groups, each once. -/
def groupsE (l : List Ent) : List Str := compact (l.map (·.g))
end Go.Proofs.YtahiahjhpakeiaaGreatDoor
end
section
namespace Go.Proofs.YtahiahjhpakeiaaGreatDoor
open Go.RowKit Go
set_option linter.unusedVariables false
set_option linter.unusedSimpArgs false

section
variable {P : Program}
/-- Where an append's result lies. -/
theorem append_row (w : World) (base : Nat) (t ty e : TypeId) (i : TypeInfo) (z : Value) (bytes : Nat) (ht : P.underlying t = some (.slice e)) (hi : P.info? e = some i) (hz : i.zero = some z)
    (hsize : i.size = 1) (hby : i.bytes = bytes) (hzs : z.cells.size = 1)
    (v : Value) (n : Nat) (xs : List Value) (hown : w.ownsRow base e 1 v n xs)
    (a : Addr) (m c : Nat) (news : List Value) (hl : news.length = m) (hm0 : 0 < m) (hnews : ∀ j u, news[j]? = some u → w.cell? (a.add j) = some u) (h1 : ∀ u ∈ news, u.oneCell' = true)
    (h63 : n + m ≤ maxLen) (hbytes : (n + m) * bytes ≤ 140737488355328) {v' : Value} {w' : World} (hr : (Builtin.append_ #[t, t] ty #[v, .slice (some a) m c]).run P w = .ok v' w') :
    v'.ownBlock = v.ownBlock ∨ v'.ownBlock = some w.heap.size := by
  have hsmall : n + m ≤ 9223372036854775807 := by simp only [maxLen] at h63; omega
  rcases hown.2 with ⟨rfl, rfl⟩ | ⟨g, cap, cur, rfl, hbg, hg, hnc, hcm, hcs, htake⟩
  · right
    have h2 := run_append_nil (P := P) w t ty e i z ht hi hz a m c news (by rw [hsize, hl, Nat.mul_one]) hnews hm0 (by omega) (by rw [hby]; have hb := hbytes; simp only [Nat.zero_add] at hb; omega)
    rw [hr] at h2
    injection h2 with h2 _
    rw [h2]; rfl
  · by_cases hroom : n + m ≤ cap
    · left
      have hfit : n * i.size + news.length ≤ cur.size := by rw [hsize, hl, hcs]; omega
      have h2 := run_append_room (P := P) w t ty e i ht hi g n cap cur hg a m c news (by rw [hsize, hl, Nat.mul_one]) hnews h1 hroom hfit
      rw [hr] at h2
      injection h2 with h2 _
      rw [h2]; rfl
    · right
      have holds : ∀ j u, xs[j]? = some u → w.cell? ((⟨g, 0, none⟩ : Addr).add j) = some u := hown.cells (g := g) rfl
      have h2 := run_append_grow (P := P) w t ty e i z ht hi hz ⟨g, 0, none⟩ n cap xs (by rw [hsize]; exact hown.1) holds a m c news (by rw [hsize, hl, Nat.mul_one]) hnews (by omega) (by omega) (growslice_fits (by omega) (by rw [hby]; exact hbytes))
      rw [hr] at h2
      injection h2 with h2 _
      rw [h2]; rfl
/-- 'append(s, x...)', s of the call's own, x of elements of one cell, not empty: the row is told. -/
theorem wpList_app_row {w : World} {ops : Array Oper} {rest : List Oper} {o : Oper} {a : Act} {Q : Exit → Act → World → Prop} (hgd : o.guard = none) (s x : Operand) (t : TypeId)
    (ho : o.op = .call { callee := .builtin .append, args := #[s, x], argTypes := #[t, t] })
    (base : Nat) (e : TypeId) (i : TypeInfo) (z : Value) (bytes : Nat) (ht : P.underlying t = some (.slice e)) (hi : P.info? e = some i) (hz : i.zero = some z)
    (hsize : i.size = 1) (hby : i.bytes = bytes) (hzs : z.cells.size = 1)
    (v : Value) (n : Nat) (xs : List Value) (hs : a.eval s = v) (hown : w.ownsRow base e 1 v n xs)
    (B : Nat) (g : Nat → Value) (m : Nat) (sv : Value) (hx : a.eval x = sv) (hsl : SlAt B g m w sv) (hm0 : 0 < m) (h1 : ∀ i, (g i).oneCell' = true)
    (h63 : n + m ≤ maxLen) (hbytes : (n + m) * bytes ≤ 140737488355328) (hbase : base ≤ w.heap.size)
    (h : ∀ v' w', w'.ownsRow base e 1 v' (n + m) (xs ++ (List.range m).map g) → w.grownBy w' v.ownBlock → (v'.ownBlock = v.ownBlock ∨ v'.ownBlock = some w.heap.size) → wpList P ops Q rest (a.put o.dst v') w') : wpList P ops Q (o :: rest) a w := by
  obtain ⟨ad, cap, rfl, hn, hm, hnil, hcs⟩ := hsl
  obtain ⟨b, off, rfl, _, h4, h5⟩ := hcs.resolve_left (by omega)
  have hnews : ∀ j u, ((List.range m).map g)[j]? = some u → w.cell? ((⟨b, off, none⟩ : Addr).add j) = some u := fun j u hu => by
    have hj : j < m := by
      rcases Nat.lt_or_ge j m with h' | h'
      · exact h'
      · simp [h'] at hu
    rw [show ((⟨b, off, none⟩ : Addr).add j) = ⟨b, off + j, none⟩ from by unfold Addr.add; by_cases e : j = 0 <;> simp [e], h5 j hj]
    simp [hj] at hu
    rw [hu]
  have hone : ∀ u ∈ (List.range m).map g, u.oneCell' = true := fun u hu => by
    obtain ⟨j, _, rfl⟩ := List.mem_map.1 hu
    exact h1 j
  refine wpList_plain hgd fun _ hK => ?_
  obtain ⟨v', w', hr, h2, h3, _⟩ := run_append_own (P := P) w base t o.type e i z 1 bytes ht hi hz hsize hby hzs (by decide) v n xs hown ⟨b, off, none⟩ m cap ((List.range m).map g) (by simp) hnews hone h63 hbytes hbase
  have hrow := append_row w base t o.type e i z bytes ht hi hz hsize hby hzs v n xs hown ⟨b, off, none⟩ m cap ((List.range m).map g) (by simp) hm0 hnews hone h63 hbytes hr
  unfold Oper.wp execOp
  simp only [ho, resolve, invoke, builtin, Sem.run_bind, Sem.run_pure, Result.andThen_ok, List.map_toArray, List.map_cons, List.map_nil, hs, hx, hr]
  exact hK _ _ (h v' w' h2 h3 hrow)
end
end Go.Proofs.YtahiahjhpakeiaaGreatDoor
end
