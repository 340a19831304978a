/-
  Who keeps what, and what goes where: the plain law. No walk stands here.
-/
import Derived.Test.YtahiahjhpakeiaaGreatDoorRouteM
import Derived.Test.YtahiahjhpakeiaaGreatDoorTabM
namespace Go.Proofs.YtahiahjhpakeiaaGreatDoor
open Go.RowKit Go.Maps Go.Sort
set_option linter.unusedVariables false
set_option linter.unusedSimpArgs false
set_option linter.unusedSectionVars false

/-- The keepers, by the number of the owner on the circle. -/
def keepL (f : RS) (i : Int) : List Int := [cAt (circ f) i, cAt (circ f) (i + 1), cAt (circ f) (i + 2)]
/-- The keepers of a place. -/
def keepK (f : RS) (X : Int) : List Int := keepL f (idxI (circ f) (own f X))
section
variable {f : RS} (I : Inv f)
include I
theorem own_at (X : Int) : ∃ i : Nat, own f X = cAt (circ f) i := cAt_of I (owner_lives I X)
theorem keepK_eq {X i : Int} (h : own f X = cAt (circ f) i) : keepK f X = keepL f i := by
  unfold keepK keepL
  rw [h, cAt_idx I, cAt_mod I, cAt_mod I]
  have := cAt_mod I i 0
  rw [Int.add_zero, Int.add_zero] at this
  rw [this]
theorem keepL_ne (i : Int) {a b : Int} (h0 : 0 ≤ a) (h1 : a < b) (h2 : b < 4) : cAt (circ f) (i + a) ≠ cAt (circ f) (i + b) := fun e => by
  have h4 : 4 ≤ (circ f).length := by rw [circ_len]; exact live4 I
  have h := cAt_inj I e
  have h5 := Int.emod_emod_of_dvd (i + b - (i + a)) (Int.dvd_refl ((circ f).length : Int))
  have h6 : (i + b - (i + a)) % ((circ f).length : Int) = 0 := by
    rw [Int.sub_emod, h]; simp
  rw [show i + b - (i + a) = b - a by omega, Int.emod_eq_of_lt (by omega) (by omega)] at h6
  omega
theorem keepL_nodup (i : Int) : (keepL f i).Nodup := by
  have h1 := keepL_ne I i (a := 0) (b := 1) (by omega) (by omega) (by omega)
  have h2 := keepL_ne I i (a := 0) (b := 2) (by omega) (by omega) (by omega)
  have h3 := keepL_ne I i (a := 1) (b := 2) (by omega) (by omega) (by omega)
  rw [Int.add_zero] at h1 h2
  unfold keepL
  simp only [List.nodup_cons, List.mem_cons, List.not_mem_nil, or_false, not_false_eq_true, List.nodup_nil, and_true, not_or]
  exact ⟨⟨h1, h2⟩, h3⟩
theorem keepL_lives (i : Int) : ∀ n ∈ keepL f i, livesR f n = true := fun n hn => by
  unfold keepL at hn
  simp only [List.mem_cons, List.not_mem_nil, or_false] at hn
  rcases hn with rfl | rfl | rfl <;> exact cAt_lives I _
theorem keepK_len (X : Int) : (keepK f X).length = 3 := rfl
theorem keepK_nodup (X : Int) : (keepK f X).Nodup := keepL_nodup I _
theorem keepK_lives (X : Int) : ∀ n ∈ keepK f X, livesR f n = true := keepL_lives I _
theorem keepK_head (X : Int) : nth (keepK f X) 0 = own f X := by
  obtain ⟨i, hi⟩ := own_at I X
  rw [keepK_eq I hi, hi]; rfl
end
/-- Wishes of a group go from a member to another one. -/
structure Mv where
  g : Str
  fr : Int
  to : Int
instance : Inhabited Mv := ⟨⟨[], 0, 0⟩⟩
/-- What goes where, of one group; X: its place. -/
def planG (f f' : RS) (X : Int) (g : Str) : List Mv := match (keepK f X).find? (livesR f') with
  | none => []
  | some o => ((keepK f' X).filter fun n => !(keepK f X).contains n).map fun n => ⟨g, o, n⟩
/-- Of all groups, in their order. -/
def planU (X : Str → Int) (f f' : RS) (gs : List Str) : List Mv := gs.flatMap fun g => planG f f' (X g) g
theorem planU_snoc (X : Str → Int) (f f' : RS) (gs : List Str) (g : Str) : planU X f f' (gs ++ [g]) = planU X f f' gs ++ planG f f' (X g) g := by unfold planU; rw [List.flatMap_append]; simp
theorem planG_len (f f' : RS) (X : Int) (g : Str) : (planG f f' X g).length ≤ 3 := by
  unfold planG
  split
  · simp
  · rw [List.length_map]
    exact List.length_filter_le _ _
theorem planU_len (X : Str → Int) (f f' : RS) (gs : List Str) : (planU X f f' gs).length ≤ 3 * gs.length := by
  induction gs with
  | nil => simp [planU]
  | cons g gs ih =>
    have := planG_len f f' (X g) g
    unfold planU at *
    rw [List.flatMap_cons, List.length_append, List.length_cons]
    omega
/-- Whoever is a keeper of a place in the same ring gets nothing. -/
theorem planG_same {f : RS} (I : Inv f) (X : Int) (g : Str) : planG f f X g = [] := by
  unfold planG
  split
  · rfl
  · rw [List.map_eq_nil_iff, List.filter_eq_nil_iff]
    intro n hn
    simp [hn]
theorem planU_same {f : RS} (I : Inv f) (X : Str → Int) (gs : List Str) : planU X f f gs = [] := by
  unfold planU
  rw [List.flatMap_eq_nil_iff]
  exact fun g _ => planG_same I (X g) g

/-! ### The keepers are the three that lie least far behind a place -/
theorem has_least (g : Int → Int) : ∀ {l : List Int}, l ≠ [] → ∃ m ∈ l, ∀ y ∈ l, g m ≤ g y
  | [], h => absurd rfl h
  | [x], _ => ⟨x, by simp, fun y hy => by simp at hy; rw [hy]; exact Int.le_refl _⟩
  | x :: z :: l, _ => by
    obtain ⟨m, hm, h⟩ := has_least g (l := z :: l) (by simp)
    by_cases e : g x ≤ g m
    · refine ⟨x, by simp, fun y hy => ?_⟩
      rcases List.mem_cons.1 hy with rfl | hy
      · exact Int.le_refl _
      · exact Int.le_trans e (h y hy)
    · refine ⟨m, List.mem_cons_of_mem _ hm, fun y hy => ?_⟩
      rcases List.mem_cons.1 hy with rfl | hy
      · omega
      · exact h y hy
section
variable {f : RS} (I : Inv f) {X : Int} (hX : isPlace X)
include I hX
theorem own_min {y : Int} (hy : livesR f y = true) : dist X (idR f (own f X)) ≤ dist X (idR f y) := by
  obtain ⟨m, hm, h⟩ := has_least (fun z => dist X (idR f z)) (l := liveL f) (by have := live4 I; intro e; rw [e] at this; simp at this)
  have hml := (mem_liveL I.dom).1 hm
  have e : own f X = m := owner_best I hX hml fun z hz => h z ((mem_liveL I.dom).2 hz)
  rw [e]
  exact h y ((mem_liveL I.dom).2 hy)
theorem keep_order {i : Int} (h : own f X = cAt (circ f) i) :
    dist X (idR f (cAt (circ f) i)) < dist X (idR f (cAt (circ f) (i + 1))) ∧ dist X (idR f (cAt (circ f) (i + 1))) < dist X (idR f (cAt (circ f) (i + 2))) ∧
    ∀ z, livesR f z = true → z ≠ cAt (circ f) i → z ≠ cAt (circ f) (i + 1) → z ≠ cAt (circ f) (i + 2) → dist X (idR f (cAt (circ f) (i + 2))) < dist X (idR f z) := by
  have n01 := keepL_ne I i (a := 0) (b := 1) (by omega) (by omega) (by omega)
  have n02 := keepL_ne I i (a := 0) (b := 2) (by omega) (by omega) (by omega)
  have n12 := keepL_ne I i (a := 1) (b := 2) (by omega) (by omega) (by omega)
  rw [Int.add_zero] at n01 n02
  have l0 := cAt_lives I i
  have l1 := cAt_lives I (i + 1)
  have l2 := cAt_lives I (i + 2)
  have m1 := own_min I hX l1
  have m2 := own_min I hX l2
  rw [h] at m1 m2
  have a2 := next_near I i l2 (Ne.symm n02)
  have q0 := place_id I.dom (cAt (circ f) i)
  have q1 := place_id I.dom (cAt (circ f) (i + 1))
  have q2 := place_id I.dom (cAt (circ f) (i + 2))
  have d01 : idR f (cAt (circ f) i) ≠ idR f (cAt (circ f) (i + 1)) := fun e => n01 (I.uniq _ _ l0 l1 e)
  have d02 : idR f (cAt (circ f) i) ≠ idR f (cAt (circ f) (i + 2)) := fun e => n02 (I.uniq _ _ l0 l2 e)
  have d12 : idR f (cAt (circ f) (i + 1)) ≠ idR f (cAt (circ f) (i + 2)) := fun e => n12 (I.uniq _ _ l1 l2 e)
  have key : ∀ z, livesR f z = true → z ≠ cAt (circ f) i → z ≠ cAt (circ f) (i + 1) → z ≠ cAt (circ f) (i + 2) → dist X (idR f (cAt (circ f) (i + 2))) < dist X (idR f z) := fun z hz z0 z1 z2 => by
    have mz := own_min I hX hz
    rw [h] at mz
    have az := next_near I i hz z0
    have bz := next_near I (i + 1) hz z1
    rw [show i + 1 + 1 = i + 2 by omega] at bz
    have qz := place_id I.dom z
    have dz0 : idR f z ≠ idR f (cAt (circ f) i) := fun e => z0 (I.uniq _ _ hz l0 e)
    have dz1 : idR f z ≠ idR f (cAt (circ f) (i + 1)) := fun e => z1 (I.uniq _ _ hz l1 e)
    have dz2 : idR f z ≠ idR f (cAt (circ f) (i + 2)) := fun e => z2 (I.uniq _ _ hz l2 e)
    generalize idR f (cAt (circ f) i) = u0 at *
    generalize idR f (cAt (circ f) (i + 1)) = u1 at *
    generalize idR f (cAt (circ f) (i + 2)) = u2 at *
    generalize idR f z = v at *
    clear l0 l1 l2 n01 n02 n12 h
    unfold dist isPlace at *
    omega
  refine ⟨?_, ?_, key⟩
  · clear key
    generalize idR f (cAt (circ f) i) = u0 at *
    generalize idR f (cAt (circ f) (i + 1)) = u1 at *
    generalize idR f (cAt (circ f) (i + 2)) = u2 at *
    clear l0 l1 l2 n01 n02 n12 h
    unfold dist isPlace at *
    omega
  · clear key
    generalize idR f (cAt (circ f) i) = u0 at *
    generalize idR f (cAt (circ f) (i + 1)) = u1 at *
    generalize idR f (cAt (circ f) (i + 2)) = u2 at *
    clear l0 l1 l2 n01 n02 n12 h
    unfold dist isPlace at *
    omega
end
/-- When one member comes, nobody else becomes a keeper. -/
theorem keep_mono {f f' : RS} (I : Inv f) (I' : Inv f') {X n : Int} (hX : isPlace X) (h1 : ∀ y, livesR f y = true → livesR f' y = true ∧ idR f' y = idR f y) (h2 : ∀ y, livesR f' y = true → livesR f y = true ∨ y = n) {y : Int}
    (hy : y ∈ keepK f' X) (hn : y ≠ n) : y ∈ keepK f X := by
  obtain ⟨i, hi⟩ := own_at I X
  obtain ⟨j, hj⟩ := own_at I' X
  have hyl' := keepK_lives I' X y hy
  have hyl := (h2 y hyl').resolve_right hn
  rw [keepK_eq I hi]
  rw [keepK_eq I' hj] at hy
  by_cases hin : y ∈ keepL f i
  · exact hin
  · exfalso
    obtain ⟨o1, o2, o3⟩ := keep_order I hX hi
    obtain ⟨p1, p2, p3⟩ := keep_order I' hX hj
    unfold keepL at hin hy
    simp only [List.mem_cons, List.not_mem_nil, or_false, not_or] at hin hy
    have o4 := o3 y hyl hin.1 hin.2.1 hin.2.2
    have n01 := keepL_ne I (i : Int) (a := 0) (b := 1) (by omega) (by omega) (by omega)
    have n02 := keepL_ne I (i : Int) (a := 0) (b := 2) (by omega) (by omega) (by omega)
    have n12 := keepL_ne I (i : Int) (a := 1) (b := 2) (by omega) (by omega) (by omega)
    rw [Int.add_zero] at n01 n02
    have e0 := h1 _ (cAt_lives I (i : Int))
    have e1 := h1 _ (cAt_lives I ((i : Int) + 1))
    have e2 := h1 _ (cAt_lives I ((i : Int) + 2))
    have ey := (h1 y hyl).2
    rw [← e0.2, ← e1.2] at o1
    rw [← e1.2, ← e2.2] at o2
    rw [← e2.2, ← ey] at o4
    -- whoever is nearer than y is one of those ahead of it
    have key : ∀ z, livesR f' z = true → dist X (idR f' z) < dist X (idR f' y) → (y = cAt (circ f') (j : Int) → False) ∧ (y = cAt (circ f') ((j : Int) + 1) → z = cAt (circ f') (j : Int)) ∧ (y = cAt (circ f') ((j : Int) + 2) → z = cAt (circ f') (j : Int) ∨ z = cAt (circ f') ((j : Int) + 1)) := fun z hz hd => by
      have hz3 := p3 z hz
      by_cases z0 : z = cAt (circ f') (j : Int)
      · refine ⟨fun e => ?_, fun _ => z0, fun _ => Or.inl z0⟩
        rw [z0, e] at hd; omega
      · by_cases z1 : z = cAt (circ f') ((j : Int) + 1)
        · refine ⟨fun e => ?_, fun e => ?_, fun _ => Or.inr z1⟩
          · rw [z1, e] at hd; omega
          · rw [z1, e] at hd; omega
        · by_cases z2 : z = cAt (circ f') ((j : Int) + 2)
          · refine ⟨fun e => ?_, fun e => ?_, fun e => ?_⟩
            · rw [z2, e] at hd; omega
            · rw [z2, e] at hd; omega
            · rw [z2, e] at hd; omega
          · have h3 := hz3 z0 z1 z2
            refine ⟨fun e => ?_, fun e => ?_, fun e => ?_⟩
            · rw [e] at hd; omega
            · rw [e] at hd; omega
            · rw [e] at hd; omega
    have k0 := key _ e0.1 (by omega)
    have k1 := key _ e1.1 (by omega)
    have k2 := key _ e2.1 (by omega)
    rcases hy with hy | hy | hy
    · exact k0.1 hy
    · exact n01 ((k0.2.1 hy).trans (k1.2.1 hy).symm)
    · rcases k0.2.2 hy with a | a <;> rcases k1.2.2 hy with b | b <;> rcases k2.2.2 hy with c | c <;>
        first | exact n01 (a.trans b.symm) | exact n02 (a.trans c.symm) | exact n12 (b.trans c.symm)
/-- When one member comes a group has at most one move, from its owner to that one. -/
theorem planG_few {f f' : RS} (I : Inv f) (I' : Inv f') {X n : Int} (hX : isPlace X) (h1 : ∀ y, livesR f y = true → livesR f' y = true ∧ idR f' y = idR f y) (h2 : ∀ y, livesR f' y = true → livesR f y = true ∨ y = n) (g : Str) :
    planG f f' X g = [] ∨ planG f f' X g = [⟨g, own f X, n⟩] := by
  have hfind : (keepK f X).find? (livesR f') = some (own f X) := by
    obtain ⟨i, hi⟩ := own_at I X
    rw [keepK_eq I hi, hi]
    unfold keepL
    rw [List.find?_cons_of_pos]
    exact (h1 _ (cAt_lives I _)).1
  unfold planG
  rw [hfind]
  dsimp only
  have hsub : ∀ y ∈ (keepK f' X).filter (fun m => !(keepK f X).contains m), y = n := fun y hy => by
    obtain ⟨hy1, hy2⟩ := List.mem_filter.1 hy
    by_cases e : y = n
    · exact e
    · exfalso
      have := keep_mono I I' hX h1 h2 hy1 e
      simp [this] at hy2
  have hnd : ((keepK f' X).filter (fun m => !(keepK f X).contains m)).Nodup := (keepK_nodup I' X).sublist List.filter_sublist
  revert hsub hnd
  generalize (keepK f' X).filter (fun m => !(keepK f X).contains m) = l
  intro hsub hnd
  rcases l with _ | ⟨a, _ | ⟨b, l⟩⟩
  · exact Or.inl rfl
  · right
    rw [hsub a (by simp)]; rfl
  · exfalso
    have ha := hsub a (by simp)
    have hb := hsub b (by simp)
    rw [ha, hb] at hnd
    simp at hnd
end Go.Proofs.YtahiahjhpakeiaaGreatDoor
