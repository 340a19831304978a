
/-
  Trees on a ring on which all is as it should be: whose root the owner is, whose nodes are those on the members' ways. No walk stands here.
  How a tree is made, of fingers.
-/
import Derived.Test.YtekinomnjgbgmaaGreatTreeB
import Derived.Test.YtekinomnjgbgmaaGreatRouteD
namespace Go.Proofs.YtekinomnjgbgmaaGreat
open Go.RowKit Go.Maps Go.Sort
set_option linter.unusedVariables false
set_option linter.unusedSimpArgs false
set_option linter.unusedSectionVars false

/-- Who is next on the way to X, of members that live. -/
def nxG (f : RS) (F : Int → List Int) (X : Int) (n : Int) : Option Int := if livesR f n = true then some (nextR f F n X) else none
section
variable {f : RS} (G : Good f) (F : Int → List Int) {X : Int} (hX : isPlace X)
include G hX
/-- The ways to X: from a member that lives, and what lies on it. -/
def wayOf (f : RS) (F : Int → List Int) (X n : Int) : List Int := (pathR (fun m => nextR f F m X) 65 n).getD []
theorem way_is {n : Int} (hn : livesR f n = true) : pathR (fun m => nextR f F m X) 65 n = some (wayOf f F X n) ∧ GoodWay f X n (wayOf f F X n) := by
  obtain ⟨l, hl, W⟩ := good_path G F hX hn
  unfold wayOf
  rw [hl]
  exact ⟨rfl, W⟩
/-- A way is its first member, and the way from the next one. -/
theorem way_cons {n : Int} (hn : livesR f n = true) : (own f X = n ∧ wayOf f F X n = [n]) ∨ (own f X ≠ n ∧ nextR f F n X ≠ n ∧ livesR f (nextR f F n X) = true ∧ wayOf f F X n = n :: wayOf f F X (nextR f F n X)) := by
  have h := (way_is G F hX hn).1
  have hol := owner_lives G.inv X
  have key : own f X ≠ n → nextR f F n X ≠ n → livesR f (nextR f F n X) = true → wayOf f F X n = n :: wayOf f F X (nextR f F n X) := fun _ e2 e3 => by
    obtain ⟨l, hl, _⟩ := good_path G F hX e3
    have hl2 := (way_is G F hX e3).1
    rw [hl] at hl2
    have h64 : pathR (fun m => nextR f F m X) 65 n = (pathR (fun m => nextR f F m X) 64 (nextR f F n X)).map (n :: ·) := by
      rw [pathR, if_neg e2]
    rw [h] at h64
    cases hp : pathR (fun m => nextR f F m X) 64 (nextR f F n X) with
    | none => rw [hp] at h64; cases h64
    | some m =>
      rw [hp] at h64
      have h65 := path_mono _ _ _ hp
      rw [hl] at h65
      have e1 : l = m := Option.some.inj h65
      have e4 : l = wayOf f F X (nextR f F n X) := Option.some.inj hl2
      have e5 : wayOf f F X n = n :: m := Option.some.inj h64
      rw [e5, ← e1, e4]
  rcases good_next G F hX hn with ⟨e1, e2⟩ | ⟨e1, e2⟩ | ⟨e1, e2, e3, _⟩
  · left
    refine ⟨e1, ?_⟩
    have h2 : pathR (fun m => nextR f F m X) 65 n = some [n] := by rw [pathR, if_pos e2]
    rw [h] at h2
    exact Option.some.inj h2
  · right
    have e3 : nextR f F n X ≠ n := by rw [e2]; exact e1
    have e4 : livesR f (nextR f F n X) = true := by rw [e2]; exact hol
    exact ⟨e1, e3, e4, key e1 e3 e4⟩
  · right
    exact ⟨e1, e2, e3, key e1 e2 e3⟩
/-- What lies on a way has its own way there. -/
theorem way_sub {n : Int} (hn : livesR f n = true) : ∀ x ∈ wayOf f F X n, livesR f x = true ∧ ∀ y ∈ wayOf f F X x, y ∈ wayOf f F X n := by
  intro x hx
  obtain ⟨h, W⟩ := way_is G F hX hn
  refine ⟨W.lives x hx, fun y hy => ?_⟩
  obtain ⟨i, hi, rfl⟩ := nth_mem.1 hx
  have hr := path_rest _ _ _ h i hi
  have h2 := (way_is G F hX (W.lives _ hx)).1
  rw [hr] at h2
  have e : (wayOf f F X n).drop i = wayOf f F X (nth (wayOf f F X n) i) := Option.some.inj h2
  rw [← e] at hy
  exact List.mem_of_mem_drop hy
theorem way_first {n : Int} (hn : livesR f n = true) : n ∈ wayOf f F X n := by
  rcases way_cons G F hX hn with h | h
  · rw [h.2]; simp
  · rw [h.2.2.2]; simp
theorem way_owner {n : Int} (hn : livesR f n = true) : own f X ∈ wayOf f F X n := by
  obtain ⟨h, W⟩ := way_is G F hX hn
  have hp := (path_way _ _ _ h).1.pos
  rw [← W.last]
  exact lastL_mem hp
theorem way_len {n : Int} (hn : livesR f n = true) : (wayOf f F X n).length ≤ (liveL f).length := good_len G (way_is G F hX hn).2

/-! ### The tree -/
/-- A tree whose nodes are, with each, all on its way. -/
structure TG (f : RS) (F : Int → List Int) (X : Int) (t : TS) : Prop where
  root : t.root = -1 ∨ t.root = own f X
  val : ∀ x v, t.up x = some v → v = nextR f F x X ∧ x ≠ own f X ∧ livesR f x = true
theorem own_ne : own f X ≠ -1 := fun e => by
  have := owner_lives G.inv X
  rw [show cOwner (circ f) ((circ f).map (idR f)) X = -1 from e, livesR_neg G.inv.dom] at this
  cases this
/-- One more member, that lives: its way is there too. -/
theorem climb_good : ∀ (k : Nat) (t : TS) (n : Int), TG f F X t → livesR f n = true → nearer f X n + 2 ≤ k →
    (∀ x ∈ wayOf f F X n, (t.up x).isSome = true → t.root = own f X ∧ ∀ y ∈ wayOf f F X x, y ≠ own f X → (t.up y).isSome = true) →
    ∃ t', climb (nxG f F X) k t n = .inl t' ∧ TG f F X t' ∧ t'.root = own f X ∧ ∀ x, (t'.up x).isSome = true ↔ ((t.up x).isSome = true ∨ (x ∈ wayOf f F X n ∧ x ≠ own f X))
  | 0, t, n, _, _, hk, _ => by omega
  | 1, t, n, _, _, hk, _ => by omega
  | k + 2, t, n, T, hn, hk, hc => by
    have hon := own_ne G hX
    unfold climb
    by_cases h0 : (t.up n).isSome = true ∨ (t.root ≠ -1 ∧ n = t.root)
    · rw [if_pos h0]
      refine ⟨t, rfl, T, ?_, fun x => ⟨Or.inl, ?_⟩⟩
      · rcases h0 with h0 | ⟨h0, _⟩
        · exact (hc n (way_first G F hX hn) h0).1
        · exact T.root.resolve_left h0
      · rintro (h | ⟨h1, h2⟩)
        · exact h
        · rcases h0 with h0 | ⟨h0, e⟩
          · exact (hc n (way_first G F hX hn) h0).2 x h1 h2
          · have en : n = own f X := e.trans (T.root.resolve_left h0)
            rcases way_cons G F hX hn with hw | hw
            · rw [hw.2] at h1
              simp at h1
              exact absurd (h1.trans en) h2
            · exact absurd en.symm hw.1
    · rw [if_neg h0]
      have hnx : nxG f F X n = some (nextR f F n X) := by unfold nxG; rw [if_pos hn]
      rw [hnx]
      show ∃ t', (if nextR f F n X = n then _ else _) = _ ∧ _
      have hun : t.up n = none := by
        cases e : t.up n with
        | none => rfl
        | some v => exact absurd (Or.inl (by rw [e]; rfl)) h0
      rcases way_cons G F hX hn with ⟨e1, e2⟩ | ⟨e1, e2, e3, e4⟩
      · have hself : nextR f F n X = n := by
          rcases good_next G F hX hn with h | h | h
          · exact h.2
          · exact absurd e1 h.1
          · exact absurd e1 h.1
        have hr : t.root = -1 := by
          rcases T.root with h | h
          · exact h
          · exact absurd (Or.inr ⟨by rw [h]; exact hon, by rw [h, e1]⟩) h0
        rw [if_pos hself, if_neg (by simpa using hr)]
        refine ⟨⟨n, t.ups⟩, rfl, ⟨Or.inr e1.symm, T.val⟩, e1.symm, fun x => ⟨fun h => Or.inl h, ?_⟩⟩
        rintro (h | ⟨h1, h2⟩)
        · exact h
        · rw [e2] at h1
          simp at h1
          exact absurd (h1.trans e1.symm) h2
      · rw [if_neg e2]
        have hadd : ∀ x, (t.add n (nextR f F n X)).up x = if x = n then some (nextR f F n X) else t.up x := fun x => by
          show upL (t.ups ++ [(n, nextR f F n X)]) x = _
          rw [upL_snoc]
          by_cases e : x = n
          · subst e
            rw [show upL t.ups x = none from hun]; simp
          · rw [if_neg e, if_neg e]
            show _ = upL t.ups x
            cases upL t.ups x <;> simp
        have hdist : nearer f X (nextR f F n X) + 2 ≤ k + 1 ∨ nextR f F n X = own f X := by
          rcases good_next G F hX hn with h | h | h
          · exact absurd h.1 e1
          · exact Or.inr h.2
          · have := nearer_lt G.inv.dom h.2.2.1 h.2.2.2
            exact Or.inl (by omega)
        have hT' : TG f F X (t.add n (nextR f F n X)) := ⟨T.root, fun x v h => by
          rw [hadd] at h
          by_cases e : x = n
          · rw [if_pos e] at h
            cases h
            rw [e]
            exact ⟨rfl, fun h => e1 h.symm, hn⟩
          · rw [if_neg e] at h; exact T.val x v h⟩
        have hnm : n ∉ wayOf f F X (nextR f F n X) := fun hm => by
          have W := (way_is G F hX hn).2.nodup
          rw [e4] at W
          exact (List.nodup_cons.1 W).1 hm
        have hc' : ∀ x ∈ wayOf f F X (nextR f F n X), ((t.add n (nextR f F n X)).up x).isSome = true → (t.add n (nextR f F n X)).root = own f X ∧ ∀ y ∈ wayOf f F X x, y ≠ own f X → ((t.add n (nextR f F n X)).up y).isSome = true := fun x hx hs => by
          have hxn : x ≠ n := fun e => hnm (e ▸ hx)
          rw [hadd, if_neg hxn] at hs
          obtain ⟨h1, h2⟩ := hc x (by rw [e4]; exact List.mem_cons_of_mem _ hx) hs
          refine ⟨h1, fun y hy hyo => ?_⟩
          rw [hadd]
          split
          · rfl
          · exact h2 y hy hyo
        have fin : (∃ t', climb (nxG f F X) (k + 1) (t.add n (nextR f F n X)) (nextR f F n X) = .inl t' ∧ TG f F X t' ∧ t'.root = own f X ∧ ∀ x, (t'.up x).isSome = true ↔ (((t.add n (nextR f F n X)).up x).isSome = true ∨ (x ∈ wayOf f F X (nextR f F n X) ∧ x ≠ own f X))) →
            ∃ t', climb (nxG f F X) (k + 1) (t.add n (nextR f F n X)) (nextR f F n X) = .inl t' ∧ TG f F X t' ∧ t'.root = own f X ∧ ∀ x, (t'.up x).isSome = true ↔ ((t.up x).isSome = true ∨ (x ∈ wayOf f F X n ∧ x ≠ own f X)) := by
          rintro ⟨t', h1, h2, h3, h4⟩
          refine ⟨t', h1, h2, h3, fun x => ?_⟩
          rw [h4, hadd, e4, List.mem_cons]
          by_cases e : x = n
          · subst e
            simp [hun, e1, Ne.symm e1]
          · simp [e]
        rcases hdist with hd | hd
        · exact fin (climb_good (k + 1) _ _ hT' e3 hd hc')
        · refine fin ?_
          have ho := way_cons G F hX e3
          rw [hd] at ho hc' e3 hT' hadd e2 ⊢
          have hw : wayOf f F X (own f X) = [own f X] := by
            rcases ho with h | h
            · exact h.2
            · exact absurd rfl h.1
          have hself : nextR f F (own f X) X = own f X := by
            rcases good_next G F hX e3 with h | h | h
            · exact h.2
            · exact absurd rfl h.1
            · exact absurd rfl h.1
          unfold climb
          have huo : ((t.add n (own f X)).up (own f X)).isSome = false := by
            cases e : (t.add n (own f X)).up (own f X) with
            | none => rfl
            | some v => exact absurd rfl (hT'.val _ v e).2.1
          rcases T.root with hr | hr
          · rw [if_neg (by
              rintro (h | ⟨h, _⟩)
              · rw [huo] at h; cases h
              · exact h hr)]
            have hnx2 : nxG f F X (own f X) = some (nextR f F (own f X) X) := by unfold nxG; rw [if_pos e3]
            rw [hnx2, hself]
            show ∃ t', (if own f X = own f X then _ else _) = _ ∧ _
            rw [if_pos rfl, if_neg (show ¬ (t.add n (own f X)).root ≠ -1 from fun h => h hr)]
            refine ⟨⟨own f X, (t.add n (own f X)).ups⟩, rfl, ⟨Or.inr rfl, hT'.val⟩, rfl, fun x => ⟨fun h => Or.inl h, ?_⟩⟩
            rintro (h | ⟨h1, h2⟩)
            · exact h
            · rw [hw] at h1; simp at h1; exact absurd h1 h2
          · rw [if_pos (Or.inr ⟨by show t.root ≠ -1; rw [hr]; exact hon, hr.symm⟩)]
            refine ⟨t.add n (own f X), rfl, hT', hr, fun x => ⟨fun h => Or.inl h, ?_⟩⟩
            rintro (h | ⟨h1, h2⟩)
            · exact h
            · rw [hw] at h1; simp at h1; exact absurd h1 h2
/-- The tree of members that live. -/
structure IsTree (f : RS) (F : Int → List Int) (X : Int) (ms : List Int) (t : TS) : Prop where
  tg : TG f F X t
  root : t.root = if ms = [] then -1 else own f X
  ups : ∀ x, (t.up x).isSome = true ↔ ∃ m ∈ ms, x ∈ wayOf f F X m ∧ x ≠ own f X
theorem grows_good (ms : List Int) (hm : ∀ m ∈ ms, livesR f m = true) : ∃ t, grows (nxG f F X) ms = .inl t ∧ IsTree f F X ms t := by
  have key : ∀ j, j ≤ ms.length → ∃ t, grows (nxG f F X) (ms.take j) = .inl t ∧ IsTree f F X (ms.take j) t := by
    intro j
    induction j with
    | zero =>
      intro _
      refine ⟨t0, rfl, ⟨⟨Or.inl rfl, fun x v h => by cases h⟩, by simp [t0], fun x => ?_⟩⟩
      simp [TS.up, t0, upL]
    | succ j ih =>
      intro hj
      obtain ⟨t, ht, T⟩ := ih (by omega)
      have hlt : j < ms.length := by omega
      have hl := hm _ (List.getElem_mem hlt)
      have hcl : ∀ x ∈ wayOf f F X ms[j], (t.up x).isSome = true → t.root = own f X ∧ ∀ y ∈ wayOf f F X x, y ≠ own f X → (t.up y).isSome = true := fun x hx hs => by
        obtain ⟨m, hmm, hmx, _⟩ := (T.ups x).1 hs
        have hne : ms.take j ≠ [] := fun e => by rw [e] at hmm; cases hmm
        refine ⟨by rw [T.root, if_neg hne], fun y hy hyo => (T.ups y).2 ⟨m, hmm, (way_sub G F hX (hm m (List.mem_of_mem_take hmm)) x hmx).2 y hy, hyo⟩⟩
      obtain ⟨t', h1, h2, h3, h4⟩ := climb_good G F hX 66 t ms[j] T.tg hl (by have := nearer_le f X ms[j]; omega) hcl
      refine ⟨t', ?_, ⟨h2, ?_, fun x => ?_⟩⟩
      · rw [List.take_succ_eq_append_getElem hlt, grows_snoc, ht]; exact h1
      · rw [h3, if_neg]
        intro e
        have h5 : (ms.take (j + 1)).length = 0 := by rw [e]; rfl
        rw [List.length_take] at h5
        omega
      · rw [h4, T.ups, List.take_succ_eq_append_getElem hlt]
        constructor
        · rintro (⟨m, a, b⟩ | h)
          · exact ⟨m, List.mem_append_left _ a, b⟩
          · exact ⟨ms[j], List.mem_append_right _ (List.mem_singleton.2 rfl), h⟩
        · rintro ⟨m, a, b⟩
          rcases List.mem_append.1 a with a | a
          · exact Or.inl ⟨m, a, b⟩
          · simp at a; rw [a] at b; exact Or.inr b
  obtain ⟨t, h1, h2⟩ := key ms.length (Nat.le_refl _)
  rw [List.take_length] at h1 h2
  exact ⟨t, h1, h2⟩
theorem tree_good (ms : List Int) (hm : ∀ m ∈ ms, livesR f m = true) : ∃ t, treeR (nxG f F X) ms = .inl t ∧ IsTree f F X ms t ∧ TInv t := by
  obtain ⟨t, h1, h2⟩ := grows_good G F hX ms hm
  refine ⟨t, ?_, h2, grows_inv h1⟩
  unfold treeR
  rw [h1]
  show (if _ then _ else _) = _
  rw [if_neg]
  rintro ⟨h3, h4⟩
  have hne : ms ≠ [] := fun e => by rw [e] at h3; simp at h3
  rw [h2.root, if_neg hne] at h4
  exact own_ne G hX h4
/-- In the tree the depth is how long the way is, less one. -/
theorem climbs_way {t : TS} {ms : List Int} (T : IsTree f F X ms t) (hm : ∀ m ∈ ms, livesR f m = true) : ∀ (k : Nat) (x : Int), livesR f x = true → (wayOf f F X x).length = k + 1 → (∃ m ∈ ms, x ∈ wayOf f F X m) → Climbs t k x
  | 0, x, hx, hk, ⟨m, hmm, hxm⟩ => by
    have hne : ms ≠ [] := fun e => by rw [e] at hmm; cases hmm
    show x = t.root
    rw [T.root, if_neg hne]
    rcases way_cons G F hX hx with h | h
    · exact h.1.symm
    · rw [h.2.2.2] at hk
      have := way_first G F hX h.2.2.1
      have := List.length_pos_of_mem this
      simp at hk
      rw [hk] at this
      simp at this
  | k + 1, x, hx, hk, ⟨m, hmm, hxm⟩ => by
    rcases way_cons G F hX hx with h | h
    · rw [h.2] at hk; simp at hk
    · have hs : (t.up x).isSome = true := (T.ups x).2 ⟨m, hmm, hxm, fun e => h.1 e.symm⟩
      obtain ⟨v, hv⟩ := Option.isSome_iff_exists.1 hs
      have hvn := (T.tg.val x v hv).1
      refine ⟨v, hv, ?_⟩
      rw [hvn]
      refine climbs_way T hm k _ h.2.2.1 (by rw [h.2.2.2] at hk; simpa using hk) ⟨m, hmm, ?_⟩
      exact (way_sub G F hX (hm m hmm) x hxm).2 _ (by rw [h.2.2.2]; exact List.mem_cons_of_mem _ (way_first G F hX h.2.2.1))
theorem depth_way {t : TS} {ms : List Int} (T : IsTree f F X ms t) (I : TInv t) (hm : ∀ m ∈ ms, livesR f m = true) {x : Int} (h : ∃ m ∈ ms, x ∈ wayOf f F X m) : livesR f x = true ∧ depthR t x = (wayOf f F X x).length - 1 ∧ 0 < (wayOf f F X x).length := by
  obtain ⟨m, hmm, hxm⟩ := h
  have hl := (way_sub G F hX (hm m hmm) x hxm).1
  have hp := List.length_pos_of_mem (way_first G F hX hl)
  have hne : ms ≠ [] := fun e => by rw [e] at hmm; cases hmm
  have hr : t.root ≠ -1 := by rw [T.root, if_neg hne]; exact own_ne G hX
  refine ⟨hl, ?_, hp⟩
  rw [depth_eq I hr (climbs_way G F hX T hm ((wayOf f F X x).length - 1) x hl (by omega) ⟨m, hmm, hxm⟩)]
  omega
/-- Its nodes are those on the ways. -/
theorem node_iff {t : TS} {ms : List Int} (T : IsTree f F X ms t) (hm : ∀ m ∈ ms, livesR f m = true) (x : Int) : ((t.up x).isSome = true ∨ (t.root ≠ -1 ∧ x = t.root)) ↔ ∃ m ∈ ms, x ∈ wayOf f F X m := by
  constructor
  · rintro (h | ⟨h1, h2⟩)
    · obtain ⟨m, a, b, _⟩ := (T.ups x).1 h
      exact ⟨m, a, b⟩
    · rw [T.root] at h1 h2
      by_cases e : ms = []
      · rw [if_pos e] at h1; exact absurd rfl h1
      · rw [if_neg e] at h2
        obtain ⟨m, hmm⟩ := List.exists_mem_of_ne_nil _ e
        exact ⟨m, hmm, by rw [h2]; exact way_owner G F hX (hm m hmm)⟩
  · rintro ⟨m, a, b⟩
    by_cases e : x = own f X
    · right
      have hne : ms ≠ [] := fun e => by rw [e] at a; cases a
      rw [T.root, if_neg hne]
      exact ⟨own_ne G hX, e⟩
    · exact Or.inl ((T.ups x).2 ⟨m, a, b, e⟩)
/-- A node that nobody tells is a member. -/
theorem leaf_in {t : TS} {ms : List Int} (T : IsTree f F X ms t) (hm : ∀ m ∈ ms, livesR f m = true) {x : Int} (h : ∃ m ∈ ms, x ∈ wayOf f F X m) (hk : ∀ c, t.up c ≠ some x) : x ∈ ms := by
  obtain ⟨m, hmm, hxm⟩ := h
  by_cases e : x = m
  · rw [e]; exact hmm
  · exfalso
    obtain ⟨hp, W⟩ := way_is G F hX (hm m hmm)
    have WW := (path_way _ _ _ hp).1
    obtain ⟨i, hi, rfl⟩ := nth_mem.1 hxm
    cases i with
    | zero => exact e WW.first
    | succ i =>
      have hs := WW.step i hi
      have hy : nth (wayOf f F X m) i ∈ wayOf f F X m := nth_mem.2 ⟨i, by omega, rfl⟩
      have hyo : nth (wayOf f F X m) i ≠ own f X := fun e2 => by
        have hn := W.nodup
        have hw := way_cons G F hX (W.lives _ hy)
        rw [e2] at hw hs
        have hself : nextR f F (own f X) X = own f X := by
          rcases good_next G F hX (owner_lives G.inv X) with h | h | h
          · exact h.2
          · exact absurd rfl h.1
          · exact absurd rfl h.1
        rw [hself] at hs
        have := List.pairwise_iff_getElem.1 hn i (i + 1) (by omega) hi (by omega)
        rw [← nth_eq (by omega : i < _), ← nth_eq hi, e2, ← hs] at this
        exact this rfl
      have hsome := (T.ups _).2 ⟨m, hmm, hy, hyo⟩
      obtain ⟨v, hv⟩ := Option.isSome_iff_exists.1 hsome
      refine hk (nth (wayOf f F X m) i) ?_
      rw [hv, (T.tg.val _ v hv).1]
      exact congrArg some hs
end
end Go.Proofs.YtekinomnjgbgmaaGreat
namespace Go.Proofs.YtekinomnjgbgmaaGreat
open Go.RowKit Go.Maps Go.Sort Go.WideShapes Go.ChangeShapes Go.Deep
set_option linter.unusedVariables false
set_option linter.unusedSimpArgs false
attribute [local go_sem] later_cell later_frozen later_lt cell_set_off cell_set_block


theorem method_fnext (k b : Nat) (w : World) : (method (k + 1) 39 (.pointer (some ⟨b, 0, none⟩)) "Next").run Tryz.prog w = .ok (80, .pointer (some ⟨b, 0, none⟩)) w := by kernel_rfl
theorem ahead_fnext (k b : Nat) (w : World) : (nilAhead (k + 1) 39 (.pointer (some ⟨b, 0, none⟩)) "Next").run Tryz.prog w = .ok (some false) w := by kernel_rfl
variable {S Q : Nat → Prop} {rb mb : Nat} {g : Int → Nat} {f : RS} {F : Int → List Int} {fb fm : Nat}
theorem fnext_any (wr : World) (h : RAt S wr rb mb g f) (hf : FinIs Q wr fb rb fm F) (hh : Heads f) (n x : Int) (hn : okInt n) (ho : ∀ m, livesR f m = true → okInt m) :
    Calls Tryz.prog 80 #[.pointer (some ⟨fb, 0, none⟩), .int .i64 n, .int .u64 x] wr (NxPost wr (nxG f F x) n) := by
  cases hl : livesR f n with
  | true =>
    refine (next_live h hf n x hn hl).mono fun e w' hq => ?_
    unfold NxPost nxG
    rw [if_pos hl]
    exact ⟨⟨hq.1, ho _ (next_lives hh F hl x)⟩, hq.2⟩
  | false =>
    refine (next_dead h hf n x hn hl).mono fun e w' hq => ?_
    unfold NxPost nxG
    rw [hl, if_neg (by decide)]
    obtain ⟨⟨v, he, hv⟩, hb⟩ := hq
    exact ⟨⟨v, he, Or.inr hv⟩, hb⟩
set_option maxRecDepth 100000 in
set_option maxHeartbeats 16000000 in
theorem of_fin (w : World) (mv : Value) (ms : List Int) (nm : ByteArray) (h : RAt S w rb mb g f) (hf : FinIs Q w fb rb fm F) (I : Inv f) (hm : SlAt 0 (fun i => .int .i64 (nth ms i)) ms.length w mv) (hmo : ∀ x ∈ ms, okInt x) (hm40 : ms.length ≤ 40) (hnm : nm.size ≤ 1000000) :
    Calls Tryz.prog 14 #[.iface 39 (.pointer (some ⟨fb, 0, none⟩)), .string nm, mv] w (OfPost w (nxG f F (keyH nm)) ms) := by
  obtain ⟨ma, mc, rfl, _⟩ := hm.slice
  obtain ⟨nx, hnx⟩ : ∃ z, z = nxG f F (keyH nm) := ⟨_, rfl⟩
  have CN := Lib.hid fun (wr : World) (hb : Below w.heap.size w wr) (n : Int) (hn : okInt n) => hnx ▸ fnext_any wr (h.below hb) (hf.below hb) I.heads n (keyH nm) hn (fun m hm => by have := livesR_dom I.dom hm; exact okInt_dom (by omega) (by omega))
  rw [← hnx]
  have SM := Lib.hid hm
  have HMO := Lib.hid hmo
  have hmm := method_fnext
  have hma := ahead_fnext
  clear hm hmo hnx h hf I
  have hmk : ∀ (w : World), (Instr.makeMap 44 none).run Tryz.prog w = .ok (.map (some w.heap.size)) (w.alloc (.map #[] 0)) := fun w => run_makeMap 44 w
  have HPL : Hid (∀ t mb w', treeR nx ms = .inl t → TreeAt w' mb t → w.heap.size ≤ mb → Below w.heap.size w w' → OfPost w nx ms (.returned (.tuple #[.agg #[.int .i64 t.root, .map (some mb)], .nilIface])) w') := show ∀ t mb w', _ from fun t mb w' h0 h1 h2 h3 => by
    unfold OfPost; rw [h0]; exact ⟨mb, rfl, h1, h2, h3⟩
  have HPR : Hid (∀ c v w', treeR nx ms = .inr c → ErrV w.heap.size w' v c → Below w.heap.size w w' → OfPost w nx ms (.returned (.tuple #[.agg #[.int .i64 0, .map none], v])) w') := show ∀ c v w', _ from fun c v w' h0 h1 h2 => by
    unfold OfPost; rw [h0]; exact ⟨v, rfl, h1, h2⟩
  go_enter Tryz.func14, Tryz.ntmps14
  go_wp2_with fail
  obtain ⟨w1, hw1⟩ : ∃ z, z = ((w.alloc (.cells #[.int .i64 0, .map none] 46)).alloc (.map #[] 0)).alloc (.cells #[.int .i64 (-1), .map (some (w.heap.size + 1))] 46) := ⟨_, rfl⟩
  have T1 : Hid (TreeW w w.heap.size (w.heap.size + 1) (w.heap.size + 1 + 1) w1 t0) := by
    show TreeW _ _ _ _ _ _
    rw [hw1]
    exact treeW_new w
  rw [← hw1]
  clear hw1
  refine (key_any nm _ hnm).mono ?_
  rintro e w2 ⟨rfl, hb2⟩
  have T2 := Lib.hid (T1.out.later hb2)
  clear hb2 T1
  go_wp2_with fail
  go_loopw [22] (fun i wr => ∃ (k : Nat) (t : TS), k ≤ ms.length ∧ i = .int .i64 k ∧ Hid (grows nx (ms.take k) = .inl t ∧ t.ups.length ≤ 66 * k) ∧ Hid (TreeW w w.heap.size (w.heap.size + 1) (w.heap.size + 1 + 1) wr t)) (fun i _ => ms.length - (intOf i).toNat)
  case atStart => exact ⟨0, t0, Nat.zero_le _, rfl, ⟨rfl, by simp [t0]⟩, T2⟩
  case round =>
    obtain ⟨k, t, hk, rfl, hgr, hT⟩ := hrel
    by_cases hlt : k < ms.length
    · obtain ⟨b, off, rfl, _, hbz, hck⟩ := SM.out.at k hlt wr hT.out.below
      have okn := HMO.out _ (nth_mem.2 ⟨k, hlt, rfl⟩)
      have HGR : Hid (grows nx (ms.take (k + 1)) = climb nx 66 t (nth ms k)) := show _ = _ by
        rw [List.take_succ_eq_append_getElem hlt, grows_snoc, hgr.out.1, ← nth_eq hlt]; rfl
      obtain ⟨n0, hn0⟩ : ∃ z, z = nth ms k := ⟨_, rfl⟩
      rw [← hn0] at hck okn HGR
      have hgl := hgr.out.2
      clear hn0
      go_wp2_with fail
      obtain ⟨wo, hwo⟩ : ∃ wo : World, wo = wr := ⟨_, rfl⟩
      rw [← hwo] at hT ⊢
      clear hwo hck hbz
      go_loopw [11, 26] (fun nv j wr => ∃ (q : Nat) (t' : TS) (y : Int), q ≤ 66 ∧ j = .int .i64 q ∧ nv = .int .i64 y ∧ Hid (climb nx 66 t n0 = climb nx (66 - q) t' y ∧ t'.ups.length ≤ 66 * k + q ∧ okInt y) ∧ Hid (TreeW w w.heap.size (w.heap.size + 1) (w.heap.size + 1 + 1) wr t')) (fun _ j _ => 66 - (intOf j).toNat)
      case atStart => exact ⟨0, t, n0, by omega, rfl, rfl, ⟨rfl, by omega, okn⟩, hT⟩
      case round =>
        obtain ⟨q, t', y, hq, rfl, rfl, hcl, hT⟩ := hrel
        by_cases hq66 : q < 66
        · have hqI : ((q : Nat) : Int) < 66 := by omega
          have hcc : climb nx (66 - q) t' y = if (t'.up y).isSome ∨ (t'.root ≠ -1 ∧ y = t'.root) then .inl t' else match nx y with
              | none => .inr 6
              | some m => if m = y then (if t'.root ≠ -1 then .inr 5 else .inl ⟨y, t'.ups⟩) else climb nx (66 - (q + 1)) (t'.add y m) m := by
            rw [show 66 - q = 66 - (q + 1) + 1 by omega]; rfl
          have hlk := hT.out.tree.look y hcl.out.2.2
          have x0 := hT.out.c0
          have x1 := hT.out.c1
          have xz := hT.out.zt
          cases hup : t'.up y with
          | some v =>
            have HC : Hid (climb nx (66 - q) t' y = .inl t') := show _ = _ by rw [hcc, if_pos (Or.inl (by rw [hup]; rfl))]
            rw [hup] at hlk
            dsimp only [Option.getD, Option.isSome] at hlk
            clear hcc hup
            go_wp2_with fail
            go_roundw
            case rel => go_light; exact ⟨k + 1, _, by omega, by go_num, ⟨HGR.out.trans (hcl.out.1.trans HC.out), by have := hcl.out.2.1; first | omega | (simp only [TS.add]; omega)⟩, hT⟩
            case measure => go_light; simp [intOf]; omega
          | none =>
            rw [hup] at hlk
            dsimp only [Option.getD, Option.isSome] at hlk
            by_cases hr0 : t'.root = -1
            · have hrb0 : (t'.root != -1) = false := by simpa using hr0
              rw [if_neg (by rw [hup]; simp [hr0])] at hcc
              clear hr0
              have CNy := CN.out wr hT.out.below y hcl.out.2.2
              obtain ⟨u, hu⟩ : ∃ u, u = nx y := ⟨_, rfl⟩
              rw [← hu] at hcc
              unfold NxPost at CNy
              rw [← hu] at CNy
              have CNY := Lib.hid CNy
              clear hu CNy
              cases u with
              | none =>
                have HC : Hid (climb nx (66 - q) t' y = .inr 6) := hcc
                obtain ⟨ec, hec⟩ : ∃ z : Int, z = 6 := ⟨_, rfl⟩
                rw [← hec] at HC
                have HEC := Lib.hid hec
                clear hcc hec
                go_wp2_with fail
                refine CNY.out.mono ?_
                rintro e w5 ⟨⟨v, rfl, hE⟩, hb5⟩
                have hzr := hT.out.zr
                have hlow := hT.out.below.size
                have hT5 := Lib.hid (hT.out.later hb5)
                clear CNY
                rcases hE with rfl | hE
                · have HTR : Hid (treeR nx ms = .inr ec) := show treeR nx ms = .inr ec by
                    have e := HGR.out.trans (hcl.out.1.trans HC.out)
                    have e2 : grows nx ms = .inr ec := by
                      unfold grows at e ⊢
                      rw [← List.take_append_drop (k + 1) ms, List.foldl_append, e]
                      exact grow_inr _ _ _
                    unfold treeR
                    rw [e2]
                  have BE := Lib.hid hT5.out.below
                  have rr0 := hT5.out.r0
                  have rr1 := hT5.out.r1
                  have rf0 := hT5.out.fr0
                  have rf1 := hT5.out.fr1
                  have rz := hT5.out.zr
                  have rl := hT5.out.low1
                  go_wp2_with fail
                  refine bodyPost_ret (v := .tuple #[.agg #[.int .i64 0, .map none], .iface 56 (.int .i64 6)]) ?_ rfl (HPR.out _ _ _ HTR.out ?_ ?_)
                  · simp [results, Tryz.results14, go_sem, rr0, rr1]
                  · exact Or.inl (by rw [HEC.out])
                  · exact bel_set (bel_set BE.out (by exact rl) _) (by exact rl) _
                · have hEE := Lib.hid (hE.set2 hzr hlow)
                  obtain ⟨b, rfl, _⟩ := hE
                  have HTR : Hid (treeR nx ms = .inr ec) := show treeR nx ms = .inr ec by
                    have e := HGR.out.trans (hcl.out.1.trans HC.out)
                    have e2 : grows nx ms = .inr ec := by
                      unfold grows at e ⊢
                      rw [← List.take_append_drop (k + 1) ms, List.foldl_append, e]
                      exact grow_inr _ _ _
                    unfold treeR
                    rw [e2]
                  have BE := Lib.hid hT5.out.below
                  have rr0 := hT5.out.r0
                  have rr1 := hT5.out.r1
                  have rf0 := hT5.out.fr0
                  have rf1 := hT5.out.fr1
                  have rz := hT5.out.zr
                  have rl := hT5.out.low1
                  go_wp2_with fail
                  refine bodyPost_ret (v := .tuple #[.agg #[.int .i64 0, .map none], .iface 90 (.pointer (some ⟨b, 0, none⟩))]) ?_ rfl (HPR.out _ _ _ HTR.out ?_ ?_)
                  · simp [results, Tryz.results14, go_sem, rr0, rr1]
                  · exact Or.inr (by rw [HEC.out]; exact hEE.out _ _)
                  · exact bel_set (bel_set BE.out (by exact rl) _) (by exact rl) _
              | some m =>
                have hcc' : climb nx (66 - q) t' y = if m = y then (if t'.root ≠ -1 then .inr 5 else .inl ⟨y, t'.ups⟩) else climb nx (66 - (q + 1)) (t'.add y m) m := hcc
                have HCC := Lib.hid hcc'
                clear hcc hcc'
                go_wp2_with fail
                refine CNY.out.mono ?_
                rintro e w5 ⟨⟨rfl, okm⟩, hb5⟩
                have hT5 := Lib.hid (hT.out.later hb5)
                have x0 := hT5.out.c0
                have x1 := hT5.out.c1
                have xf := hT5.out.fz
                have xz := hT5.out.zt
                clear CNY hb5
                by_cases hmy : m = y
                · have hmb : (m == y) = true := by simpa using hmy
                  have HC : Hid (climb nx (66 - q) t' y = .inl ⟨y, t'.ups⟩) := show _ = _ by rw [HCC.out, if_pos hmy, if_neg (by simpa using hrb0)]
                  have T6 := Lib.hid (hT5.out.setRoot hcl.out.2.2)
                  clear hmy
                  go_wp2_with fail
                  go_roundw
                  case rel => go_light; exact ⟨k + 1, _, by omega, by go_num, ⟨HGR.out.trans (hcl.out.1.trans HC.out), by have := hcl.out.2.1; first | omega | (simp only [TS.add]; omega)⟩, T6⟩
                  case measure => go_light; simp [intOf]; omega
                · have hmb : (m == y) = false := by simpa using hmy
                  have HC : Hid (climb nx (66 - q) t' y = climb nx (66 - (q + 1)) (t'.add y m) m) := show _ = _ by rw [HCC.out, if_neg hmy]
                  obtain ⟨w6, hrun, hT6⟩ := hT5.out.put hcl.out.2.2 okm hup (by have := hcl.out.2.1; omega)
                  have T6 := Lib.hid hT6
                  clear hmy hT6
                  go_wp2_with fail
                  go_roundw
                  case rel => go_light; exact ⟨q + 1, _, m, by omega, by go_num, rfl, ⟨hcl.out.1.trans HC.out, by have := hcl.out.2.1; simp only [TS.add, List.length_append, List.length_cons, List.length_nil]; omega, okm⟩, T6⟩
                  case measure => go_light; simp [intOf]; omega
            · have hrb0 : (t'.root != -1) = true := by simpa using hr0
              by_cases hyr : y = t'.root
              · have hyb : (y == t'.root) = true := by simpa using hyr
                have HC : Hid (climb nx (66 - q) t' y = .inl t') := show _ = _ by rw [hcc, if_pos (Or.inr ⟨hr0, hyr⟩)]
                clear hcc hyr hr0
                go_wp2_with fail
                go_roundw
                case rel => go_light; exact ⟨k + 1, _, by omega, by go_num, ⟨HGR.out.trans (hcl.out.1.trans HC.out), by have := hcl.out.2.1; first | omega | (simp only [TS.add]; omega)⟩, hT⟩
                case measure => go_light; simp [intOf]; omega
              · have hyb : (y == t'.root) = false := by simpa using hyr
                rw [if_neg (by rw [hup]; simp [hyr])] at hcc
                clear hyr hr0
                have CNy := CN.out wr hT.out.below y hcl.out.2.2
                obtain ⟨u, hu⟩ : ∃ u, u = nx y := ⟨_, rfl⟩
                rw [← hu] at hcc
                unfold NxPost at CNy
                rw [← hu] at CNy
                have CNY := Lib.hid CNy
                clear hu CNy
                cases u with
                | none =>
                  have HC : Hid (climb nx (66 - q) t' y = .inr 6) := hcc
                  obtain ⟨ec, hec⟩ : ∃ z : Int, z = 6 := ⟨_, rfl⟩
                  rw [← hec] at HC
                  have HEC := Lib.hid hec
                  clear hcc hec
                  go_wp2_with fail
                  refine CNY.out.mono ?_
                  rintro e w5 ⟨⟨v, rfl, hE⟩, hb5⟩
                  have hzr := hT.out.zr
                  have hlow := hT.out.below.size
                  have hT5 := Lib.hid (hT.out.later hb5)
                  clear CNY
                  rcases hE with rfl | hE
                  · have HTR : Hid (treeR nx ms = .inr ec) := show treeR nx ms = .inr ec by
                      have e := HGR.out.trans (hcl.out.1.trans HC.out)
                      have e2 : grows nx ms = .inr ec := by
                        unfold grows at e ⊢
                        rw [← List.take_append_drop (k + 1) ms, List.foldl_append, e]
                        exact grow_inr _ _ _
                      unfold treeR
                      rw [e2]
                    have BE := Lib.hid hT5.out.below
                    have rr0 := hT5.out.r0
                    have rr1 := hT5.out.r1
                    have rf0 := hT5.out.fr0
                    have rf1 := hT5.out.fr1
                    have rz := hT5.out.zr
                    have rl := hT5.out.low1
                    go_wp2_with fail
                    refine bodyPost_ret (v := .tuple #[.agg #[.int .i64 0, .map none], .iface 56 (.int .i64 6)]) ?_ rfl (HPR.out _ _ _ HTR.out ?_ ?_)
                    · simp [results, Tryz.results14, go_sem, rr0, rr1]
                    · exact Or.inl (by rw [HEC.out])
                    · exact bel_set (bel_set BE.out (by exact rl) _) (by exact rl) _
                  · have hEE := Lib.hid (hE.set2 hzr hlow)
                    obtain ⟨b, rfl, _⟩ := hE
                    have HTR : Hid (treeR nx ms = .inr ec) := show treeR nx ms = .inr ec by
                      have e := HGR.out.trans (hcl.out.1.trans HC.out)
                      have e2 : grows nx ms = .inr ec := by
                        unfold grows at e ⊢
                        rw [← List.take_append_drop (k + 1) ms, List.foldl_append, e]
                        exact grow_inr _ _ _
                      unfold treeR
                      rw [e2]
                    have BE := Lib.hid hT5.out.below
                    have rr0 := hT5.out.r0
                    have rr1 := hT5.out.r1
                    have rf0 := hT5.out.fr0
                    have rf1 := hT5.out.fr1
                    have rz := hT5.out.zr
                    have rl := hT5.out.low1
                    go_wp2_with fail
                    refine bodyPost_ret (v := .tuple #[.agg #[.int .i64 0, .map none], .iface 90 (.pointer (some ⟨b, 0, none⟩))]) ?_ rfl (HPR.out _ _ _ HTR.out ?_ ?_)
                    · simp [results, Tryz.results14, go_sem, rr0, rr1]
                    · exact Or.inr (by rw [HEC.out]; exact hEE.out _ _)
                    · exact bel_set (bel_set BE.out (by exact rl) _) (by exact rl) _
                | some m =>
                  have hcc' : climb nx (66 - q) t' y = if m = y then (if t'.root ≠ -1 then .inr 5 else .inl ⟨y, t'.ups⟩) else climb nx (66 - (q + 1)) (t'.add y m) m := hcc
                  have HCC := Lib.hid hcc'
                  clear hcc hcc'
                  go_wp2_with fail
                  refine CNY.out.mono ?_
                  rintro e w5 ⟨⟨rfl, okm⟩, hb5⟩
                  have hT5 := Lib.hid (hT.out.later hb5)
                  have x0 := hT5.out.c0
                  have x1 := hT5.out.c1
                  have xf := hT5.out.fz
                  have xz := hT5.out.zt
                  clear CNY hb5
                  by_cases hmy : m = y
                  · have hmb : (m == y) = true := by simpa using hmy
                    obtain ⟨ec, hec⟩ : ∃ z : Int, z = 5 := ⟨_, rfl⟩
                    have HC : Hid (climb nx (66 - q) t' y = .inr ec) := show _ = _ by rw [HCC.out, if_pos hmy, if_pos (by simpa using hrb0), hec]
                    have HEC := Lib.hid hec
                    clear hmy hec
                    go_wp2_with fail
                    refine (tfault_any _ _).mono ?_
                    rintro e w6 ⟨v, rfl, hE, hb6⟩
                    have hEE := Lib.hid (hE.set2 hT5.out.zr hT5.out.below.size)
                    have hT5 := Lib.hid (hT5.out.later hb6)
                    obtain ⟨b, rfl, _⟩ := hE
                    clear x0 x1 xf xz hb6
                    have HTR : Hid (treeR nx ms = .inr ec) := show treeR nx ms = .inr ec by
                      have e := HGR.out.trans (hcl.out.1.trans HC.out)
                      have e2 : grows nx ms = .inr ec := by
                        unfold grows at e ⊢
                        rw [← List.take_append_drop (k + 1) ms, List.foldl_append, e]
                        exact grow_inr _ _ _
                      unfold treeR
                      rw [e2]
                    have BE := Lib.hid hT5.out.below
                    have rr0 := hT5.out.r0
                    have rr1 := hT5.out.r1
                    have rf0 := hT5.out.fr0
                    have rf1 := hT5.out.fr1
                    have rz := hT5.out.zr
                    have rl := hT5.out.low1
                    go_wp2_with fail
                    refine bodyPost_ret (v := .tuple #[.agg #[.int .i64 0, .map none], .iface 90 (.pointer (some ⟨b, 0, none⟩))]) ?_ rfl (HPR.out _ _ _ HTR.out ?_ ?_)
                    · simp [results, Tryz.results14, go_sem, rr0, rr1]
                    · exact Or.inr (by rw [HEC.out]; exact hEE.out _ _)
                    · exact bel_set (bel_set BE.out (by exact rl) _) (by exact rl) _
                  · have hmb : (m == y) = false := by simpa using hmy
                    have HC : Hid (climb nx (66 - q) t' y = climb nx (66 - (q + 1)) (t'.add y m) m) := show _ = _ by rw [HCC.out, if_neg hmy]
                    obtain ⟨w6, hrun, hT6⟩ := hT5.out.put hcl.out.2.2 okm hup (by have := hcl.out.2.1; omega)
                    have T6 := Lib.hid hT6
                    clear hmy hT6
                    go_wp2_with fail
                    go_roundw
                    case rel => go_light; exact ⟨q + 1, _, m, by omega, by go_num, rfl, ⟨hcl.out.1.trans HC.out, by have := hcl.out.2.1; simp only [TS.add, List.length_append, List.length_cons, List.length_nil]; omega, okm⟩, T6⟩
                    case measure => go_light; simp [intOf]; omega
        · obtain rfl : q = 66 := by omega
          have hqI : ¬ ((66 : Nat) : Int) < 66 := by omega
          have HC : Hid (climb nx (66 - 66) t' y = .inl t') := show _ = _ from rfl
          go_wp2_with fail
          go_roundw
          case rel => go_light; exact ⟨k + 1, _, by omega, by go_num, ⟨HGR.out.trans (hcl.out.1.trans HC.out), by have := hcl.out.2.1; first | omega | (simp only [TS.add]; omega)⟩, hT⟩
          case measure => go_light; simp [intOf]; omega
    · obtain rfl : k = ms.length := by omega
      have hgr1 := hgr.out.1
      rw [List.take_length] at hgr1
      have x0 := hT.out.c0
      have x1 := hT.out.c1
      have xz := hT.out.zt
      have rr0 := hT.out.r0
      have rr1 := hT.out.r1
      have rf0 := hT.out.fr0
      have rf1 := hT.out.fr1
      have rz := hT.out.zr
      have rl := hT.out.low1
      by_cases hm0 : ms.length = 0
      · have hm0b : ¬ (0 : Int) < ((ms.length : Nat) : Int) := by omega
        have HTR : Hid (treeR nx ms = .inl t) := show _ = _ by unfold treeR; rw [hgr1]; simp [hm0]
        clear hgr1 hm0
        have hT5 := hT
        go_wp2_with fail
        refine bodyPost_ret (v := .tuple #[.agg #[.int .i64 t.root, .map (some (w.heap.size + 1))], .nilIface]) ?_ rfl (HPL.out _ _ _ HTR.out ?_ hT5.out.low2 ?_)
        · simp [results, Tryz.results14, go_sem, rr0, rr1, x0, x1]
        · exact hT5.out.tree.block (by rw [Below.heap_setCell _ _ _ _ (Ne.symm hT5.out.ne2), Below.heap_setCell _ _ _ _ (Ne.symm hT5.out.ne2)])
        · exact bel_set (bel_set hT5.out.below (by exact rl) _) (by exact rl) _
      · have hm0b : (0 : Int) < ((ms.length : Nat) : Int) := by omega
        by_cases hr0 : t.root = -1
        · have hrb0 : (t.root == -1) = true := by simpa using hr0
          have HTR : Hid (treeR nx ms = .inr 13) := show _ = _ by unfold treeR; rw [hgr1]; simp [hm0, hr0]; first | done | omega
          clear hgr1 hm0 hr0
          go_wp2_with fail
          refine (tfault_any _ _).mono ?_
          rintro e w6 ⟨v, rfl, hE, hb6⟩
          have hEE := Lib.hid (hE.set2 hT.out.zr hT.out.below.size)
          have hT5 := Lib.hid (hT.out.later hb6)
          obtain ⟨b, rfl, _⟩ := hE
          have BE := Lib.hid hT5.out.below
          have rr0 := hT5.out.r0
          have rr1 := hT5.out.r1
          have rf0 := hT5.out.fr0
          have rf1 := hT5.out.fr1
          have rz := hT5.out.zr
          clear x0 x1 xz hb6
          go_wp2_with fail
          refine bodyPost_ret (v := .tuple #[.agg #[.int .i64 0, .map none], .iface 90 (.pointer (some ⟨b, 0, none⟩))]) ?_ rfl (HPR.out _ _ _ HTR.out ?_ ?_)
          · simp [results, Tryz.results14, go_sem, rr0, rr1]
          · exact Or.inr (hEE.out _ _)
          · exact bel_set (bel_set BE.out (by exact rl) _) (by exact rl) _
        · have hrb0 : (t.root == -1) = false := by simpa using hr0
          have HTR : Hid (treeR nx ms = .inl t) := show _ = _ by unfold treeR; rw [hgr1]; simp [hr0]
          clear hgr1 hm0 hr0
          have hT5 := hT
          go_wp2_with fail
          refine bodyPost_ret (v := .tuple #[.agg #[.int .i64 t.root, .map (some (w.heap.size + 1))], .nilIface]) ?_ rfl (HPL.out _ _ _ HTR.out ?_ hT5.out.low2 ?_)
          · simp [results, Tryz.results14, go_sem, rr0, rr1, x0, x1]
          · exact hT5.out.tree.block (by rw [Below.heap_setCell _ _ _ _ (Ne.symm hT5.out.ne2), Below.heap_setCell _ _ _ _ (Ne.symm hT5.out.ne2)])
          · exact bel_set (bel_set hT5.out.below (by exact rl) _) (by exact rl) _
end Go.Proofs.YtekinomnjgbgmaaGreat
