/-
  Trees of whoever is next: how they are made, how deep a node lies; the plain law. No walk stands here, and no program is named.
-/
import Derived.Test.YtbhaapkafgieiaaBase
namespace Go.Proofs.Ytbhaapkafgieiaa
open Go.RowKit
set_option linter.unusedVariables false
set_option linter.unusedSimpArgs false

/-- A tree: its root (-1: none), and whom each node tells. -/
structure TS where
  root : Int
  ups : List (Int × Int)
def upL : List (Int × Int) → Int → Option Int
  | [], _ => none
  | (k, v) :: l, n => if n = k then some v else upL l n
def keysL (l : List (Int × Int)) : List Int := l.map Prod.fst
def TS.up (t : TS) (n : Int) : Option Int := upL t.ups n
theorem upL_key {l : List (Int × Int)} {n : Int} : (upL l n).isSome = true ↔ n ∈ keysL l := by
  induction l with
  | nil => simp [upL, keysL]
  | cons p l ih =>
    obtain ⟨k, v⟩ := p
    unfold upL
    unfold keysL at *
    by_cases e : n = k
    · simp [e]
    · rw [if_neg e, ih]; simp [e]
theorem upL_snoc (l : List (Int × Int)) (k v n : Int) : upL (l ++ [(k, v)]) n = if (upL l n).isSome then upL l n else if n = k then some v else none := by
  induction l with
  | nil => simp [upL]
  | cons p l ih =>
    obtain ⟨a, b⟩ := p
    rw [List.cons_append]
    unfold upL
    by_cases e : n = a
    · simp [e]
    · rw [if_neg e, if_neg e, ih]
theorem keys_snoc (l : List (Int × Int)) (k v : Int) : keysL (l ++ [(k, v)]) = keysL l ++ [k] := by simp [keysL]
def TS.add (t : TS) (n m : Int) : TS := ⟨t.root, t.ups ++ [(n, m)]⟩
def t0 : TS := ⟨-1, []⟩
/-- Up from a node: what is known is left alone. Answers: the tree, or a code. -/
def climb (nx : Int → Option Int) : Nat → TS → Int → TS ⊕ Int
  | 0, t, _ => .inl t
  | k + 1, t, n =>
    if (t.up n).isSome ∨ (t.root ≠ -1 ∧ n = t.root) then .inl t
    else match nx n with
      | none => .inr 6
      | some m => if m = n then (if t.root ≠ -1 then .inr 5 else .inl ⟨n, t.ups⟩) else climb nx k (t.add n m) m
def grow1 (nx : Int → Option Int) (s : TS ⊕ Int) (n : Int) : TS ⊕ Int := match s with
  | .inl t => climb nx 66 t n
  | .inr c => .inr c
def grows (nx : Int → Option Int) (l : List Int) : TS ⊕ Int := l.foldl (grow1 nx) (.inl t0)
theorem grows_snoc (nx : Int → Option Int) (l : List Int) (n : Int) : grows nx (l ++ [n]) = grow1 nx (grows nx l) n := by unfold grows; rw [List.foldl_append]; rfl
theorem grow_inr (nx : Int → Option Int) (c : Int) : ∀ l : List Int, l.foldl (grow1 nx) (.inr c) = .inr c
  | [] => rfl
  | _ :: l => grow_inr nx c l
/-- The whole tree. -/
def treeR (nx : Int → Option Int) (l : List Int) : TS ⊕ Int := match grows nx l with
  | .inl t => if 0 < l.length ∧ t.root = -1 then .inr 13 else .inl t
  | .inr c => .inr c

/-! ### What always holds -/
structure TInv (t : TS) : Prop where
  nodup : (keysL t.ups).Nodup
  root : t.root ≠ -1 → t.up t.root = none
theorem tinv0 : TInv t0 := ⟨by simp [t0, keysL], fun h => absurd rfl h⟩
theorem TInv.add {t : TS} (I : TInv t) {n m : Int} (h : ¬ ((t.up n).isSome ∨ (t.root ≠ -1 ∧ n = t.root))) : TInv (t.add n m) := by
  have hn : n ∉ keysL t.ups := fun hk => h (Or.inl (upL_key.2 hk))
  refine ⟨?_, fun hr => ?_⟩
  · unfold TS.add
    rw [keys_snoc, List.nodup_append]
    exact ⟨I.nodup, by simp, fun a ha b hb => by simp at hb; subst hb; exact fun e => hn (e ▸ ha)⟩
  · show upL (t.ups ++ [(n, m)]) t.root = none
    have h0 := I.root hr
    rw [upL_snoc, show upL t.ups t.root = none from h0]
    rw [if_neg (by simp), if_neg (fun e => h (Or.inr ⟨hr, e.symm⟩))]
theorem climb_inv {nx : Int → Option Int} : ∀ (k : Nat) (t t' : TS) (n : Int), TInv t → climb nx k t n = .inl t' → TInv t'
  | 0, t, t', n, I, h => by cases h; exact I
  | k + 1, t, t', n, I, h => by
    unfold climb at h
    split at h
    · cases h; exact I
    · rename_i hc
      split at h
      · cases h
      · split at h
        · split at h
          · cases h
          · cases h
            exact ⟨I.nodup, fun _ => by
              cases e : t.up n with
              | none => exact e
              | some v => exact absurd (Or.inl (by rw [e]; rfl)) hc⟩
        · exact climb_inv k _ _ _ (I.add hc) h
theorem foldl_inv {nx : Int → Option Int} : ∀ (l : List Int) (t t' : TS), TInv t → l.foldl (grow1 nx) (.inl t) = .inl t' → TInv t'
  | [], t, t', I, h => by cases h; exact I
  | n :: l, t, t', I, h => by
    have h' : l.foldl (grow1 nx) (climb nx 66 t n) = .inl t' := h
    cases hc : climb nx 66 t n with
    | inl u => rw [hc] at h'; exact foldl_inv l u t' (climb_inv 66 t u n I hc) h'
    | inr c => rw [hc, grow_inr] at h'; cases h'
theorem grows_inv {nx : Int → Option Int} {l : List Int} {t : TS} (h : grows nx l = .inl t) : TInv t := foldl_inv l t0 t tinv0 h
theorem tree_inv {nx : Int → Option Int} {l : List Int} {t : TS} (h : treeR nx l = .inl t) : TInv t ∧ grows nx l = .inl t ∧ (0 < l.length → t.root ≠ -1) := by
  unfold treeR at h
  split at h
  · rename_i u hu
    split at h
    · cases h
    · rename_i hc
      cases h
      exact ⟨grows_inv hu, hu, fun h0 e => hc ⟨h0, e⟩⟩
  · cases h

/-! ### How deep -/
def depthL (t : TS) : Nat → Nat → Int → Int
  | 0, _, _ => -1
  | k + 1, d, n => if n = t.root then d else match t.up n with
    | none => -1
    | some m => depthL t k (d + 1) m
def depthR (t : TS) (n : Int) : Int := if t.root = -1 then -1 else depthL t (t.ups.length + 1) 0 n
/-- So many steps up it is the root. -/
def Climbs (t : TS) : Nat → Int → Prop
  | 0, n => n = t.root
  | d + 1, n => ∃ m, t.up n = some m ∧ Climbs t d m
theorem climbs_uniq {t : TS} (hr : t.up t.root = none) : ∀ {d e : Nat} {n : Int}, Climbs t d n → Climbs t e n → d = e
  | 0, 0, _, _, _ => rfl
  | 0, e + 1, n, h, ⟨m, hm, _⟩ => by unfold Climbs at h; rw [h, hr] at hm; cases hm
  | d + 1, 0, n, ⟨m, hm, _⟩, h => by unfold Climbs at h; rw [h, hr] at hm; cases hm
  | d + 1, e + 1, n, ⟨m, hm, h1⟩, ⟨m', hm', h2⟩ => by
    rw [hm] at hm'
    cases hm'
    rw [climbs_uniq hr h1 h2]
theorem depthL_climbs {t : TS} (hr : t.up t.root = none) : ∀ (k d : Nat) (n : Int), (∃ e, e < k ∧ Climbs t e n ∧ depthL t k d n = ((d + e : Nat) : Int)) ∨ (depthL t k d n = -1 ∧ ∀ e, e < k → ¬ Climbs t e n)
  | 0, d, n => Or.inr ⟨rfl, fun e he => by omega⟩
  | k + 1, d, n => by
    unfold depthL
    by_cases e : n = t.root
    · rw [if_pos e]
      exact Or.inl ⟨0, by omega, e, by simp⟩
    · rw [if_neg e]
      cases hu : t.up n with
      | none =>
        refine Or.inr ⟨rfl, fun j hj hc => ?_⟩
        cases j with
        | zero => exact e hc
        | succ j => obtain ⟨m, hm, _⟩ := hc; rw [hu] at hm; cases hm
      | some m =>
        rcases depthL_climbs hr k (d + 1) m with ⟨j, hj, hc, hd⟩ | ⟨hd, hno⟩
        · exact Or.inl ⟨j + 1, by omega, ⟨m, hu, hc⟩, by show depthL t k (d + 1) m = _; rw [hd]; congr 1; omega⟩
        · refine Or.inr ⟨hd, fun j hj hc => ?_⟩
          cases j with
          | zero => exact e hc
          | succ j =>
            obtain ⟨m', hm', hc'⟩ := hc
            rw [hu] at hm'; cases hm'
            exact hno j (by omega) hc'
theorem nodup_sub_len : ∀ {l k : List Int}, l.Nodup → (∀ x ∈ l, x ∈ k) → l.length ≤ k.length
  | [], _, _, _ => Nat.zero_le _
  | x :: l, k, hd, hs => by
    have hd' := List.nodup_cons.1 hd
    have hx := hs x (by simp)
    have := nodup_sub_len (l := l) (k := k.erase x) hd'.2 fun y hy => by
      have hne : y ≠ x := fun e => hd'.1 (e ▸ hy)
      exact (List.mem_erase_of_ne hne).2 (hs y (List.mem_cons_of_mem _ hy))
    rw [List.length_erase_of_mem hx] at this
    have hp : 0 < k.length := List.length_pos_of_mem hx
    simp only [List.length_cons]
    omega
/-- The nodes on the way up. -/
theorem climbs_len {t : TS} (I : TInv t) (hr : t.root ≠ -1) : ∀ {d : Nat} {n : Int}, Climbs t d n → ∃ l : List Int, l.length = d ∧ l.Nodup ∧ (∀ x ∈ l, x ∈ keysL t.ups) ∧ ∀ x ∈ l, ∃ e, 1 ≤ e ∧ e ≤ d ∧ Climbs t e x
  | 0, _, _ => ⟨[], rfl, List.nodup_nil, by simp, by simp⟩
  | d + 1, n, ⟨m, hm, hc⟩ => by
    obtain ⟨l, h1, h2, h3, h4⟩ := climbs_len I hr hc
    have hn : Climbs t (d + 1) n := ⟨m, hm, hc⟩
    refine ⟨n :: l, by simp [h1], List.nodup_cons.2 ⟨fun hm => ?_, h2⟩, fun x hx => ?_, fun x hx => ?_⟩
    · obtain ⟨e, _, he, hce⟩ := h4 n hm
      have := climbs_uniq (I.root hr) hn hce
      omega
    · rcases List.mem_cons.1 hx with rfl | hx
      · exact upL_key.1 (by rw [show upL t.ups x = some m from hm]; rfl)
      · exact h3 x hx
    · rcases List.mem_cons.1 hx with rfl | hx
      · exact ⟨d + 1, by omega, Nat.le_refl _, hn⟩
      · obtain ⟨e, h5, h6, h7⟩ := h4 x hx
        exact ⟨e, h5, by omega, h7⟩
theorem climbs_le {t : TS} (I : TInv t) (hr : t.root ≠ -1) {d : Nat} {n : Int} (h : Climbs t d n) : d ≤ t.ups.length := by
  obtain ⟨l, h1, h2, h3, _⟩ := climbs_len I hr h
  have := nodup_sub_len h2 h3
  unfold keysL at this
  rw [List.length_map] at this
  omega
/-- The depth is how many steps it is up; -1: the root is not met. -/
theorem depth_iff {t : TS} (I : TInv t) (hr : t.root ≠ -1) (n : Int) : (∃ d : Nat, Climbs t d n ∧ depthR t n = d) ∨ (depthR t n = -1 ∧ ∀ d, ¬ Climbs t d n) := by
  unfold depthR
  rw [if_neg hr]
  rcases depthL_climbs (I.root hr) (t.ups.length + 1) 0 n with ⟨e, _, hc, hd⟩ | ⟨hd, hno⟩
  · exact Or.inl ⟨e, hc, by rw [hd]; simp⟩
  · exact Or.inr ⟨hd, fun d hc => hno d (by have := climbs_le I hr hc; omega) hc⟩
theorem depth_eq {t : TS} (I : TInv t) (hr : t.root ≠ -1) {n : Int} {d : Nat} (h : Climbs t d n) : depthR t n = d := by
  rcases depth_iff I hr n with ⟨e, hc, hd⟩ | ⟨_, hno⟩
  · rw [hd, climbs_uniq (I.root hr) h hc]
  · exact absurd h (hno d)
/-- Whoever tells another one is one deeper. -/
theorem depth_up {t : TS} (I : TInv t) (hr : t.root ≠ -1) {n c : Int} (h : t.up c = some n) (hd : 0 ≤ depthR t n) : depthR t c = depthR t n + 1 := by
  rcases depth_iff I hr n with ⟨d, hc, he⟩ | ⟨he, _⟩
  · rw [depth_eq I hr (d := d + 1) ⟨n, h, hc⟩, he]; simp
  · omega
theorem depth_root {t : TS} (I : TInv t) (hr : t.root ≠ -1) : depthR t t.root = 0 := by rw [depth_eq I hr (d := 0) rfl]; rfl
/-- Those that tell a node. -/
def kidsL (t : TS) (n : Int) : List Int := (keysL t.ups).filter fun c => t.up c == some n
theorem mem_kids {t : TS} {n c : Int} : c ∈ kidsL t n ↔ t.up c = some n := by
  unfold kidsL
  rw [List.mem_filter, beq_iff_eq]
  exact ⟨fun h => h.2, fun h => ⟨upL_key.1 (by rw [show upL t.ups c = some n from h]; rfl), h⟩⟩
def nodesL (t : TS) : List Int := keysL t.ups ++ (if t.root = -1 then [] else [t.root])
theorem nodes_nodup {t : TS} (I : TInv t) : (nodesL t).Nodup := by
  unfold nodesL
  split
  · rw [List.append_nil]; exact I.nodup
  · rename_i hr
    rw [List.nodup_append]
    refine ⟨I.nodup, by simp, fun a ha b hb => ?_⟩
    simp at hb
    subst hb
    intro e
    subst e
    have h1 := upL_key.2 ha
    rw [show upL t.ups t.root = none from I.root hr] at h1
    cases h1
end Go.Proofs.Ytbhaapkafgieiaa
