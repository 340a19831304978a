
/-
  Trees of whoever is next: how they are made, how deep a node lies; the plain law. No walk stands here, and no program is named.
  A tree in memory; what Depth, Children, Nodes answer.
  The place of a text, and of a group.
  How a tree is made, of a list that says who is next.
-/
import Derived.Test.YtekinomnjgbgmaaGreatBase
import Derived.Test.YtekinomnjgbgmaaGreatRouteD
import Derived.Test.YtekinomnjgbgmaaGreatChordG
import Derived.Test.YtekinomnjgbgmaaGreatShelfTree
import Derived.Lib.SlKeysI
import Derived.Test.YtekinomnjgbgmaaGreatRingA
import Derived.Lib.ConvBytes
namespace Go.Proofs.YtekinomnjgbgmaaGreat
open Go.RowKit
set_option linter.unusedVariables false
set_option linter.unusedSimpArgs false

/-- A tree: its root (-1: none), and whom each node tells. -/
structure TS where
  root : Int
  ups : List (Int × Int)
def upL : List (Int × Int) → Int → Option Int
  | [], _ => none
  | (k, v) :: l, n => if n = k then some v else upL l n
def keysL (l : List (Int × Int)) : List Int := l.map Prod.fst
def TS.up (t : TS) (n : Int) : Option Int := upL t.ups n
theorem upL_key {l : List (Int × Int)} {n : Int} : (upL l n).isSome = true ↔ n ∈ keysL l := by
  induction l with
  | nil => simp [upL, keysL]
  | cons p l ih =>
    obtain ⟨k, v⟩ := p
    unfold upL
    unfold keysL at *
    by_cases e : n = k
    · simp [e]
    · rw [if_neg e, ih]; simp [e]
theorem upL_snoc (l : List (Int × Int)) (k v n : Int) : upL (l ++ [(k, v)]) n = if (upL l n).isSome then upL l n else if n = k then some v else none := by
  induction l with
  | nil => simp [upL]
  | cons p l ih =>
    obtain ⟨a, b⟩ := p
    rw [List.cons_append]
    unfold upL
    by_cases e : n = a
    · simp [e]
    · rw [if_neg e, if_neg e, ih]
theorem keys_snoc (l : List (Int × Int)) (k v : Int) : keysL (l ++ [(k, v)]) = keysL l ++ [k] := by simp [keysL]
def TS.add (t : TS) (n m : Int) : TS := ⟨t.root, t.ups ++ [(n, m)]⟩
def t0 : TS := ⟨-1, []⟩
/-- Up from a node: what is known is left alone. Answers: the tree, or a code. -/
def climb (nx : Int → Option Int) : Nat → TS → Int → TS ⊕ Int
  | 0, t, _ => .inl t
  | k + 1, t, n =>
    if (t.up n).isSome ∨ (t.root ≠ -1 ∧ n = t.root) then .inl t
    else match nx n with
      | none => .inr 6
      | some m => if m = n then (if t.root ≠ -1 then .inr 5 else .inl ⟨n, t.ups⟩) else climb nx k (t.add n m) m
def grow1 (nx : Int → Option Int) (s : TS ⊕ Int) (n : Int) : TS ⊕ Int := match s with
  | .inl t => climb nx 66 t n
  | .inr c => .inr c
def grows (nx : Int → Option Int) (l : List Int) : TS ⊕ Int := l.foldl (grow1 nx) (.inl t0)
theorem grows_snoc (nx : Int → Option Int) (l : List Int) (n : Int) : grows nx (l ++ [n]) = grow1 nx (grows nx l) n := by unfold grows; rw [List.foldl_append]; rfl
theorem grow_inr (nx : Int → Option Int) (c : Int) : ∀ l : List Int, l.foldl (grow1 nx) (.inr c) = .inr c
  | [] => rfl
  | _ :: l => grow_inr nx c l
/-- The whole tree. -/
def treeR (nx : Int → Option Int) (l : List Int) : TS ⊕ Int := match grows nx l with
  | .inl t => if 0 < l.length ∧ t.root = -1 then .inr 13 else .inl t
  | .inr c => .inr c

/-! ### What always holds -/
structure TInv (t : TS) : Prop where
  nodup : (keysL t.ups).Nodup
  root : t.root ≠ -1 → t.up t.root = none
theorem tinv0 : TInv t0 := ⟨by simp [t0, keysL], fun h => absurd rfl h⟩
theorem TInv.add {t : TS} (I : TInv t) {n m : Int} (h : ¬ ((t.up n).isSome ∨ (t.root ≠ -1 ∧ n = t.root))) : TInv (t.add n m) := by
  have hn : n ∉ keysL t.ups := fun hk => h (Or.inl (upL_key.2 hk))
  refine ⟨?_, fun hr => ?_⟩
  · unfold TS.add
    rw [keys_snoc, List.nodup_append]
    exact ⟨I.nodup, by simp, fun a ha b hb => by simp at hb; subst hb; exact fun e => hn (e ▸ ha)⟩
  · show upL (t.ups ++ [(n, m)]) t.root = none
    have h0 := I.root hr
    rw [upL_snoc, show upL t.ups t.root = none from h0]
    rw [if_neg (by simp), if_neg (fun e => h (Or.inr ⟨hr, e.symm⟩))]
theorem climb_inv {nx : Int → Option Int} : ∀ (k : Nat) (t t' : TS) (n : Int), TInv t → climb nx k t n = .inl t' → TInv t'
  | 0, t, t', n, I, h => by cases h; exact I
  | k + 1, t, t', n, I, h => by
    unfold climb at h
    split at h
    · cases h; exact I
    · rename_i hc
      split at h
      · cases h
      · split at h
        · split at h
          · cases h
          · cases h
            exact ⟨I.nodup, fun _ => by
              cases e : t.up n with
              | none => exact e
              | some v => exact absurd (Or.inl (by rw [e]; rfl)) hc⟩
        · exact climb_inv k _ _ _ (I.add hc) h
theorem foldl_inv {nx : Int → Option Int} : ∀ (l : List Int) (t t' : TS), TInv t → l.foldl (grow1 nx) (.inl t) = .inl t' → TInv t'
  | [], t, t', I, h => by cases h; exact I
  | n :: l, t, t', I, h => by
    have h' : l.foldl (grow1 nx) (climb nx 66 t n) = .inl t' := h
    cases hc : climb nx 66 t n with
    | inl u => rw [hc] at h'; exact foldl_inv l u t' (climb_inv 66 t u n I hc) h'
    | inr c => rw [hc, grow_inr] at h'; cases h'
theorem grows_inv {nx : Int → Option Int} {l : List Int} {t : TS} (h : grows nx l = .inl t) : TInv t := foldl_inv l t0 t tinv0 h
theorem tree_inv {nx : Int → Option Int} {l : List Int} {t : TS} (h : treeR nx l = .inl t) : TInv t ∧ grows nx l = .inl t ∧ (0 < l.length → t.root ≠ -1) := by
  unfold treeR at h
  split at h
  · rename_i u hu
    split at h
    · cases h
    · rename_i hc
      cases h
      exact ⟨grows_inv hu, hu, fun h0 e => hc ⟨h0, e⟩⟩
  · cases h

/-! ### How deep -/
def depthL (t : TS) : Nat → Nat → Int → Int
  | 0, _, _ => -1
  | k + 1, d, n => if n = t.root then d else match t.up n with
    | none => -1
    | some m => depthL t k (d + 1) m
def depthR (t : TS) (n : Int) : Int := if t.root = -1 then -1 else depthL t (t.ups.length + 1) 0 n
/-- So many steps up it is the root. -/
def Climbs (t : TS) : Nat → Int → Prop
  | 0, n => n = t.root
  | d + 1, n => ∃ m, t.up n = some m ∧ Climbs t d m
theorem climbs_uniq {t : TS} (hr : t.up t.root = none) : ∀ {d e : Nat} {n : Int}, Climbs t d n → Climbs t e n → d = e
  | 0, 0, _, _, _ => rfl
  | 0, e + 1, n, h, ⟨m, hm, _⟩ => by unfold Climbs at h; rw [h, hr] at hm; cases hm
  | d + 1, 0, n, ⟨m, hm, _⟩, h => by unfold Climbs at h; rw [h, hr] at hm; cases hm
  | d + 1, e + 1, n, ⟨m, hm, h1⟩, ⟨m', hm', h2⟩ => by
    rw [hm] at hm'
    cases hm'
    rw [climbs_uniq hr h1 h2]
theorem depthL_climbs {t : TS} (hr : t.up t.root = none) : ∀ (k d : Nat) (n : Int), (∃ e, e < k ∧ Climbs t e n ∧ depthL t k d n = ((d + e : Nat) : Int)) ∨ (depthL t k d n = -1 ∧ ∀ e, e < k → ¬ Climbs t e n)
  | 0, d, n => Or.inr ⟨rfl, fun e he => by omega⟩
  | k + 1, d, n => by
    unfold depthL
    by_cases e : n = t.root
    · rw [if_pos e]
      exact Or.inl ⟨0, by omega, e, by simp⟩
    · rw [if_neg e]
      cases hu : t.up n with
      | none =>
        refine Or.inr ⟨rfl, fun j hj hc => ?_⟩
        cases j with
        | zero => exact e hc
        | succ j => obtain ⟨m, hm, _⟩ := hc; rw [hu] at hm; cases hm
      | some m =>
        rcases depthL_climbs hr k (d + 1) m with ⟨j, hj, hc, hd⟩ | ⟨hd, hno⟩
        · exact Or.inl ⟨j + 1, by omega, ⟨m, hu, hc⟩, by show depthL t k (d + 1) m = _; rw [hd]; congr 1; omega⟩
        · refine Or.inr ⟨hd, fun j hj hc => ?_⟩
          cases j with
          | zero => exact e hc
          | succ j =>
            obtain ⟨m', hm', hc'⟩ := hc
            rw [hu] at hm'; cases hm'
            exact hno j (by omega) hc'
theorem nodup_sub_len : ∀ {l k : List Int}, l.Nodup → (∀ x ∈ l, x ∈ k) → l.length ≤ k.length
  | [], _, _, _ => Nat.zero_le _
  | x :: l, k, hd, hs => by
    have hd' := List.nodup_cons.1 hd
    have hx := hs x (by simp)
    have := nodup_sub_len (l := l) (k := k.erase x) hd'.2 fun y hy => by
      have hne : y ≠ x := fun e => hd'.1 (e ▸ hy)
      exact (List.mem_erase_of_ne hne).2 (hs y (List.mem_cons_of_mem _ hy))
    rw [List.length_erase_of_mem hx] at this
    have hp : 0 < k.length := List.length_pos_of_mem hx
    simp only [List.length_cons]
    omega
/-- The nodes on the way up. -/
theorem climbs_len {t : TS} (I : TInv t) (hr : t.root ≠ -1) : ∀ {d : Nat} {n : Int}, Climbs t d n → ∃ l : List Int, l.length = d ∧ l.Nodup ∧ (∀ x ∈ l, x ∈ keysL t.ups) ∧ ∀ x ∈ l, ∃ e, 1 ≤ e ∧ e ≤ d ∧ Climbs t e x
  | 0, _, _ => ⟨[], rfl, List.nodup_nil, by simp, by simp⟩
  | d + 1, n, ⟨m, hm, hc⟩ => by
    obtain ⟨l, h1, h2, h3, h4⟩ := climbs_len I hr hc
    have hn : Climbs t (d + 1) n := ⟨m, hm, hc⟩
    refine ⟨n :: l, by simp [h1], List.nodup_cons.2 ⟨fun hm => ?_, h2⟩, fun x hx => ?_, fun x hx => ?_⟩
    · obtain ⟨e, _, he, hce⟩ := h4 n hm
      have := climbs_uniq (I.root hr) hn hce
      omega
    · rcases List.mem_cons.1 hx with rfl | hx
      · exact upL_key.1 (by rw [show upL t.ups x = some m from hm]; rfl)
      · exact h3 x hx
    · rcases List.mem_cons.1 hx with rfl | hx
      · exact ⟨d + 1, by omega, Nat.le_refl _, hn⟩
      · obtain ⟨e, h5, h6, h7⟩ := h4 x hx
        exact ⟨e, h5, by omega, h7⟩
theorem climbs_le {t : TS} (I : TInv t) (hr : t.root ≠ -1) {d : Nat} {n : Int} (h : Climbs t d n) : d ≤ t.ups.length := by
  obtain ⟨l, h1, h2, h3, _⟩ := climbs_len I hr h
  have := nodup_sub_len h2 h3
  unfold keysL at this
  rw [List.length_map] at this
  omega
/-- The depth is how many steps it is up; -1: the root is not met. -/
theorem depth_iff {t : TS} (I : TInv t) (hr : t.root ≠ -1) (n : Int) : (∃ d : Nat, Climbs t d n ∧ depthR t n = d) ∨ (depthR t n = -1 ∧ ∀ d, ¬ Climbs t d n) := by
  unfold depthR
  rw [if_neg hr]
  rcases depthL_climbs (I.root hr) (t.ups.length + 1) 0 n with ⟨e, _, hc, hd⟩ | ⟨hd, hno⟩
  · exact Or.inl ⟨e, hc, by rw [hd]; simp⟩
  · exact Or.inr ⟨hd, fun d hc => hno d (by have := climbs_le I hr hc; omega) hc⟩
theorem depth_eq {t : TS} (I : TInv t) (hr : t.root ≠ -1) {n : Int} {d : Nat} (h : Climbs t d n) : depthR t n = d := by
  rcases depth_iff I hr n with ⟨e, hc, hd⟩ | ⟨_, hno⟩
  · rw [hd, climbs_uniq (I.root hr) h hc]
  · exact absurd h (hno d)
/-- Whoever tells another one is one deeper. -/
theorem depth_up {t : TS} (I : TInv t) (hr : t.root ≠ -1) {n c : Int} (h : t.up c = some n) (hd : 0 ≤ depthR t n) : depthR t c = depthR t n + 1 := by
  rcases depth_iff I hr n with ⟨d, hc, he⟩ | ⟨he, _⟩
  · rw [depth_eq I hr (d := d + 1) ⟨n, h, hc⟩, he]; simp
  · omega
theorem depth_root {t : TS} (I : TInv t) (hr : t.root ≠ -1) : depthR t t.root = 0 := by rw [depth_eq I hr (d := 0) rfl]; rfl
/-- Those that tell a node. -/
def kidsL (t : TS) (n : Int) : List Int := (keysL t.ups).filter fun c => t.up c == some n
theorem mem_kids {t : TS} {n c : Int} : c ∈ kidsL t n ↔ t.up c = some n := by
  unfold kidsL
  rw [List.mem_filter, beq_iff_eq]
  exact ⟨fun h => h.2, fun h => ⟨upL_key.1 (by rw [show upL t.ups c = some n from h]; rfl), h⟩⟩
def nodesL (t : TS) : List Int := keysL t.ups ++ (if t.root = -1 then [] else [t.root])
theorem nodes_nodup {t : TS} (I : TInv t) : (nodesL t).Nodup := by
  unfold nodesL
  split
  · rw [List.append_nil]; exact I.nodup
  · rename_i hr
    rw [List.nodup_append]
    refine ⟨I.nodup, by simp, fun a ha b hb => ?_⟩
    simp at hb
    subst hb
    intro e
    subst e
    have h1 := upL_key.2 ha
    rw [show upL t.ups t.root = none from I.root hr] at h1
    cases h1
end Go.Proofs.YtekinomnjgbgmaaGreat
namespace Go.Proofs.YtekinomnjgbgmaaGreat
open Go.RowKit Go.Maps Go.Sort Go.WideShapes Go.ChangeShapes Go.Deep
set_option linter.unusedVariables false
set_option linter.unusedSimpArgs false
attribute [local go_sem] later_cell later_frozen later_lt cell_set_off cell_set_block

/-- A tree's map in block mb. -/
structure TreeAt (w : World) (mb : Nat) (t : TS) : Prop where
  map : MapX Tryz.prog 3 w mb t.ups.length fun i => (t.up i).map (Value.int .i64)
  ok : ∀ p ∈ t.ups, okInt p.1 ∧ okInt p.2
  root : okInt t.root
  small : t.ups.length ≤ 100000
theorem TreeAt.block {w w' : World} {mb : Nat} {t : TS} (h : TreeAt w mb t) (hb : w'.heap[mb]? = w.heap[mb]?) : TreeAt w' mb t := ⟨h.map.block hb, h.ok, h.root, h.small⟩
theorem TreeAt.below {w w' : World} {mb : Nat} {t : TS} (h : TreeAt w mb t) (hb : Below w.heap.size w w') : TreeAt w' mb t := h.block (hb.block _ h.map.lt)
theorem upL_val {l : List (Int × Int)} {n m : Int} (h : upL l n = some m) : (n, m) ∈ l := by
  induction l with
  | nil => cases h
  | cons p l ih =>
    obtain ⟨a, b⟩ := p
    unfold upL at h
    split at h
    · rename_i e; cases h; rw [e]; simp
    · exact List.mem_cons_of_mem _ (ih h)
theorem TreeAt.up_ok {w : World} {mb : Nat} {t : TS} (h : TreeAt w mb t) {n m : Int} (e : t.up n = some m) : okInt n ∧ okInt m := h.ok _ (upL_val e)
/-- 'm, there := t.Up[n]'. -/
theorem TreeAt.look {w : World} {mb : Nat} {t : TS} (h : TreeAt w mb t) (n : Int) (hn : okInt n) : (Instr.lookup 44 (.map (some mb)) (.int .i64 n) true).run Tryz.prog w = .ok (.tuple #[.int .i64 ((t.up n).getD 0), .bool (t.up n).isSome]) w := by
  have := h.map.look_ok keyInt Tryz.underlying3 Tryz.underlying44 (Tryz.zeroValue3 w) n hn
  rw [this]
  cases t.up n <;> rfl
/-- The value of a tree. -/
abbrev treeV (mb : Nat) (t : TS) : Value := .agg #[.int .i64 t.root, .map (some mb)]

/-! ### Depth -/
set_option maxRecDepth 100000 in
set_option maxHeartbeats 4000000 in
theorem depth_at (w : World) (mb : Nat) (t : TS) (h : TreeAt w mb t) (n : Int) (hn : okInt n) :
    Calls Tryz.prog 40 #[.agg #[.int .i64 t.root, .map (some mb)], .int .i64 n] w fun e w' => e = .returned (.int .i64 (depthR t n)) ∧ Below w.heap.size w w' := by
  have H := Lib.hid h
  have hsm := h.small
  unfold depthR
  obtain ⟨dL, hdL⟩ : ∃ z : Nat → Nat → Int → Int, z = depthL t := ⟨_, rfl⟩
  have HS : Hid (∀ k d m, dL (k + 1) d m = if m = t.root then (d : Int) else match t.up m with | none => -1 | some q => dL k (d + 1) q) := show ∀ k d m, _ from fun k d m => by rw [hdL]; rfl
  have HZ : Hid (∀ d m, dL 0 d m = -1) := show ∀ d m, _ from fun d m => by rw [hdL]; rfl
  rw [← hdL]
  obtain ⟨c, hc⟩ : ∃ c, c = t.ups.length := ⟨_, rfl⟩
  rw [← hc] at hsm ⊢
  have HC := Lib.hid hc
  obtain ⟨r, hr⟩ : ∃ r, r = t.root := ⟨_, rfl⟩
  rw [← hr] at HS ⊢
  clear h hdL hr hc
  go_enter Tryz.func40, Tryz.ntmps40
  by_cases h0 : r = -1
  · have h0b : (r == -1) = true := by simpa using h0
    rw [if_pos h0]
    clear h0
    go_wp2_with fail
    go_ret
    exact ⟨rfl, by (repeat (first | exact Below.refl _ _ | (with_reducible assumption) | (with_reducible refine bel_later ?_ _) | (with_reducible refine bel_alloc ?_ _) | (with_reducible refine bel_drew ?_) | (with_reducible refine bel_drewN ?_ _) | (with_reducible refine bel_set ?_ (by first | (simp; done) | (simp; omega) | (dsimp only; omega)) _)))⟩
  · have h0b : (r == -1) = false := by simpa using h0
    rw [if_neg h0]
    clear h0
    have HM : Hid (∀ wr, Below w.heap.size w wr → MapX Tryz.prog 3 wr mb c fun i => (t.up i).map (Value.int .i64)) := show ∀ wr, _ → _ from fun wr hb => by rw [HC.out]; exact (H.out.below hb).map
    go_wp2_with (at_len; refine wpList_len_x _ rfl _ _ rfl 3 3 Tryz.underlying44 mb c _ rfl (HM.out _ ?hbm) ?_)
    case hbm => (repeat (first | exact Below.refl _ _ | (with_reducible assumption) | (with_reducible refine bel_later ?_ _) | (with_reducible refine bel_alloc ?_ _) | (with_reducible refine bel_drew ?_) | (with_reducible refine bel_drewN ?_ _) | (with_reducible refine bel_set ?_ (by first | (simp; done) | (simp; omega) | (dsimp only; omega)) _)))
    obtain ⟨w1, hw1⟩ : ∃ z, z = w.alloc (.cells #[.int .i64 r, .map (some mb)] 46) := ⟨_, rfl⟩
    have x0 : w1.cell? ⟨w.heap.size, 0, none⟩ = some (.int .i64 r) := by rw [hw1]; simp [go_sem]
    have x1 : w1.cell? ⟨w.heap.size, 1, none⟩ = some (.map (some mb)) := by rw [hw1]; simp [go_sem]
    have xz : w.heap.size < w1.heap.size := by rw [hw1]; simp
    have B1 : Hid (Below w.heap.size w w1) := by rw [hw1]; exact bel_alloc (Below.refl _ _) _
    rw [← hw1]
    clear hw1
    obtain ⟨X, hX⟩ : ∃ z, z = w.heap.size := ⟨_, rfl⟩
    rw [← hX] at x0 x1 xz
    go_wp2_with fail
    rw [← hX]
    clear hX
    go_loopw [1, 15] (fun nv i wr => ∃ (d : Nat) (m : Int), d ≤ c + 1 ∧ i = .int .i64 d ∧ nv = .int .i64 m ∧ Hid (okInt m ∧ dL (c + 1) 0 n = dL (c + 1 - d) d m) ∧ Hid (wr = w1)) (fun _ i _ => c + 1 - (intOf i).toNat)
    case atStart => exact ⟨0, n, by omega, rfl, rfl, ⟨hn, rfl⟩, rfl⟩
    case round =>
      obtain ⟨d, m, hd, rfl, rfl, hm, hwr⟩ := hrel
      have hwr' := hwr.out
      subst hwr'
      by_cases hlt : d < c + 1
      · have hlI : ((d : Nat) : Int) < (c : Int) + 1 := by omega
        have hs := HS.out (c + 1 - (d + 1)) d m
        rw [show c + 1 - (d + 1) + 1 = c + 1 - d by omega] at hs
        by_cases hmr : m = r
        · rw [if_pos hmr] at hs
          have hmb : (m == r) = true := by simpa using hmr
          have HE := Lib.hid (hm.out.2.trans hs)
          clear hs hmr
          go_wp2_with fail
          go_ret
          exact ⟨by rw [HE.out]; first | done | rfl, B1.out⟩
        · rw [if_neg hmr] at hs
          have hmb : (m == r) = false := by simpa using hmr
          have hlk := (H.out.below B1.out).look m hm.out.1
          have HOK := Lib.hid fun q (hq : t.up m = some q) => (H.out.up_ok hq).2
          clear hmr
          obtain ⟨u, hu⟩ : ∃ u, u = t.up m := ⟨_, rfl⟩
          rw [← hu] at hlk hs HOK
          clear hu
          cases u with
          | none =>
            have HE := Lib.hid (hm.out.2.trans hs)
            clear hs
            dsimp only [Option.getD, Option.isSome] at hlk
            go_wp2_with fail
            go_ret
            exact ⟨by rw [HE.out]; first | done | rfl, B1.out⟩
          | some q =>
            have hs' : dL (c + 1 - d) d m = dL (c + 1 - (d + 1)) (d + 1) q := hs
            have HE := Lib.hid (hm.out.2.trans hs')
            have hq := HOK.out q rfl
            clear hs hs'
            dsimp only [Option.getD, Option.isSome] at hlk
            go_wp2_with fail
            go_roundw
            case rel => go_light; exact ⟨d + 1, q, by omega, by go_num, rfl, ⟨hq, HE.out⟩, by first | exact rfl | exact Lib.hid trivial⟩
            case measure => go_light; simp [intOf]; omega
      · obtain rfl : d = c + 1 := by omega
        have hlI : ¬ (((c + 1 : Nat) : Nat) : Int) < (c : Int) + 1 := by omega
        have HE : Hid (dL (c + 1) 0 n = -1) := show _ = _ by rw [hm.out.2, Nat.sub_self, HZ.out]
        go_wp2_with fail
        go_ret
        exact ⟨by rw [HE.out]; first | done | rfl, B1.out⟩

/-! ### Children -/
def kidsS (t : TS) (n : Int) : List Int := (kidsL t n).mergeSort fun x y => decide (x ≤ y)
theorem kids_mem {t : TS} {n c : Int} : c ∈ kidsS t n ↔ t.up c = some n := by unfold kidsS; rw [List.mem_mergeSort, mem_kids]
theorem kids_up {t : TS} (I : TInv t) (n : Int) : Up (kidsS t n) := sort_up (I.nodup.sublist List.filter_sublist)
/-- What is gathered: those that tell n and have come. -/
def GotK (t : TS) (n : Int) (left : Int → Bool) (c : List Int) : Prop := c.Nodup ∧ ∀ x, x ∈ c ↔ t.up x = some n ∧ left x = false
theorem gotK_sort {t : TS} (I : TInv t) {n : Int} {c : List Int} (h : c.Nodup) (hm : ∀ x, x ∈ c ↔ t.up x = some n) : (c.mergeSort fun x y => decide (x ≤ y)) = kidsS t n :=
  up_uniq (sort_up h) (kids_up I n) fun x => by rw [List.mem_mergeSort, hm, kids_mem]
theorem gotK_len {t : TS} {n : Int} {left : Int → Bool} {c : List Int} (h : GotK t n left c) : c.length ≤ t.ups.length := by
  have := nodup_sub_len (k := keysL t.ups) h.1 fun x hx => upL_key.1 (by rw [show upL t.ups x = some n from ((h.2 x).1 hx).1]; rfl)
  unfold keysL at this
  rwa [List.length_map] at this
/-! ### Nodes -/
def nodesS (t : TS) : List Int := (nodesL t).mergeSort fun x y => decide (x ≤ y)
theorem nodes_mem {t : TS} {n : Int} : n ∈ nodesS t ↔ (t.up n).isSome = true ∨ (t.root ≠ -1 ∧ n = t.root) := by
  unfold nodesS nodesL
  rw [List.mem_mergeSort, List.mem_append, ← upL_key]
  by_cases h : t.root = -1
  · simp [h, TS.up]
  · simp [h, TS.up]
theorem nodes_up {t : TS} (I : TInv t) : Up (nodesS t) := sort_up (nodes_nodup I)
theorem nodes_len (t : TS) : (nodesS t).length = (nodesL t).length := List.length_mergeSort _
/-- A rising list is as it was, compacted. -/
theorem compact_same {l : List Int} (h : Up l) : Lib.compact l = l := by
  refine Lib.compact_all l fun j hj => ?_
  unfold Lib.keeps
  by_cases h0 : j = 0
  · simp [h0]
  · have := List.pairwise_iff_getElem.1 h (j - 1) j (by omega) hj (by omega)
    have hj2 : j - 1 < l.length := by omega
    simp [h0, hj, hj2]
    omega
theorem compactI_nil (w : World) (c : Nat) : Calls Tryz.prog 43 #[.slice none 0 c] w fun e w' => e = .returned (.slice none 0 c) ∧ w' = w := by
  go_enter Tryz.func43, Tryz.ntmps43
  go_wp2
  go_ret
  exact ⟨rfl, rfl⟩
theorem compactI_any (w : World) (v : Value) (l : List Int) (B : Nat) (h : OwnI B w v l) (hl : l.length ≤ 4000000000) :
    Calls Tryz.prog 43 #[v] w fun e w' => ∃ v', e = .returned v' ∧ SlAt B (fun i => .int .i64 (nth (Lib.compact l) i)) (Lib.compact l).length w' v' ∧ Below B w w' := by
  rcases h with ⟨rfl, rfl⟩ | ⟨g, cap, rfl, h1, h2, h3, h4, h5⟩
  · refine (compactI_nil w 0).mono ?_
    rintro e w' ⟨rfl, rfl⟩
    exact ⟨_, rfl, ⟨none, 0, rfl, Nat.le_refl _, Nat.zero_le _, fun _ => rfl, Or.inl rfl⟩, Below.refl _ _⟩
  · have hc := AnyE.slices_Compact Tryz.compactI (Value.int .i64) (fun _ => rfl) (EqlAt.intD _ _ .i64) (NeqAt.intD _ _ .i64) 0 Tryz.zeroValue3 g 0 cap l.toArray w h5 (by simp; omega) (by simpa using h3)
    have hle : (Lib.compact l).length ≤ l.length := by
      unfold Lib.compact Lib.compactUpTo
      rw [List.length_map]
      refine Nat.le_trans (List.length_filter_le _ _) ?_
      simp
    have e0 : Lib.compactUpTo l.toArray l.toArray.size = Lib.compact l := by simp [Lib.compact]
    rw [e0] at hc
    have hc2 : Calls Tryz.prog 43 #[.slice (some ⟨g, 0, none⟩) l.length cap] w _ := (show Calls Tryz.prog (Tryz.compactI_ren.f 43) #[.slice (some ⟨g, 0, none⟩) l.length cap] w _ from by simpa using hc)
    refine hc2.mono ?_
    rintro e w' ⟨rfl, q, rfl⟩
    have hh := holds_putRow (Value.int .i64) (Sort.ahead w q) g 0 l.toArray (Lib.compact l ++ List.replicate (l.toArray.size - (Lib.compact l).length) 0).toArray (holds_ahead _ _ _ _ _ _ h5) (by simp; omega)
    refine ⟨_, rfl, ⟨_, cap, rfl, by omega, h4, (fun h => by cases h), Or.inr ⟨g, 0, rfl, h1, by simpa using h2, fun i hi => ?_⟩⟩, (below_ahead w q).trans (below_putRow _ g 0 _ h1)⟩
    have := (hh i (by simp; omega)).1
    rw [getD_arr] at this
    simp at this
    simp
    rw [this]
    unfold nth
    simp [hi, List.getElem?_append_left hi]
theorem keys_any (w : World) (mb : Nat) : Calls Tryz.prog 42 #[.map (some mb)] w fun e w' => e = .returned (.func (.func 67) #[] #[.pointer (some ⟨w.heap.size, 0, none⟩)]) ∧ w' = w.alloc (.cells #[.map (some mb)] 44) :=
  callsIn_wide.1 (AnyZI.keys_in Tryz.keysI Fence.wide 5 trivial rfl (some mb) w)
set_option maxHeartbeats 1000000 in
theorem collect_any (w : World) (Bm mb c : Nat) (f : Int → Option Value) (hm : w.cell? ⟨Bm, 0, none⟩ = some (.map (some mb))) (hz : Bm < w.heap.size) (h : MapX Tryz.prog 3 w mb c f) (hc : c ≤ 100000) :
    Calls Tryz.prog 41 #[.func (.func 67) #[] #[.pointer (some ⟨Bm, 0, none⟩)]] w fun e w' => ∃ (v : Value) (ss : List Int), e = .returned v ∧ ss.Nodup ∧ (∀ x, x ∈ ss ↔ (f x).isSome = true) ∧
      w'.ownsRow w.heap.size 3 1 v ss.length (ss.map (Value.int .i64)) ∧ Below w.heap.size w w' := by
  obtain ⟨D, h1, hs, _, h3, h4⟩ := h
  have hseq : SeqGives Fence.wide 3 Tryz.prog 67 #[.pointer (some ⟨Bm, 0, none⟩)] encZ (fun ss => ss.Perm (intKeys D)) (Maps.size D) w :=
    AnyZI.keys_gives (ρ := Tryz.keysI_ren) { Tryz.keysI with } Fence.wide _ trivial rfl (by omega) Bm mb c D w hz hm h1
  have cS := AnyZI.collect_in Tryz.collectI Fence.wide 5 trivial trivial rfl (by omega) 67 #[.pointer (some ⟨Bm, 0, none⟩)] trivial (enters_of Tryz.func67 (by kernel_rfl) rfl) _ _ (by rw [hs]; simp only [maxLen]; omega) (by rw [hs]; omega) w hseq
  refine (callsIn_wide.1 cS).mono ?_
  rintro e w' ⟨v, ss, rfl, hp, hrow, _, hb⟩
  obtain ⟨es, hD, hpw, _⟩ := h1.entries keyInt
  obtain ⟨es', hD', hko⟩ := h1.keysOf
  obtain rfl : es = es' := by rw [hD] at hD'; simpa using hD'
  have hki : ∀ p ∈ es, ∃ x, p.1 = .int .i64 x ∧ okInt x := fun p hp => by
    obtain ⟨v, hv⟩ := hko p hp
    obtain ⟨x, _, hx, hw⟩ := Maps.keyOf_i64 Tryz.underlying3 hv
    exact ⟨x, hx, hw⟩
  have hnd : (intKeys D).Nodup := by
    subst hD
    show (es.map fun p => Go.intOf p.1).Nodup
    refine List.pairwise_map.2 (hpw.imp_of_mem fun {p q} hp' hq' hne e => hne ?_)
    obtain ⟨a, ha, _⟩ := hki p hp'
    obtain ⟨b, hb, _⟩ := hki q hq'
    rw [ha, hb] at e ⊢
    exact congrArg _ e
  have hmem : ∀ x, x ∈ intKeys D ↔ (f x).isSome = true := fun x => by
    by_cases hx : okInt x
    · rw [← h3 x hx]
      subst hD
      rw [has_eq, List.any_eq_true]
      show x ∈ es.map (fun p => Go.intOf p.1) ↔ _
      rw [List.mem_map]
      constructor
      · rintro ⟨p, hp', rfl⟩
        obtain ⟨a, ha, _⟩ := hki p hp'
        exact ⟨p, hp', by rw [ha]; simp [Lit.sameKey, Go.intOf]⟩
      · rintro ⟨p, hp', hs⟩
        obtain ⟨a, ha, _⟩ := hki p hp'
        rw [ha] at hs
        exact ⟨p, hp', by rw [ha]; simpa [Lit.sameKey, Go.intOf, eq_comm] using hs⟩
    · rw [h4 x hx]
      simp
      intro hm
      subst hD
      have hm' : x ∈ es.map (fun p => Go.intOf p.1) := hm
      rw [List.mem_map] at hm'
      obtain ⟨p, hp', e⟩ := hm'
      obtain ⟨a, ha, hok⟩ := hki p hp'
      rw [ha] at e
      exact hx (by rw [← e]; exact hok)
  exact ⟨v, ss, rfl, hp.nodup_iff.2 hnd, fun x => by rw [hp.mem_iff, hmem], hrow, hb⟩
theorem nodes_sort {t : TS} (I : TInv t) {l : List Int} (h : l.Nodup) (hm : ∀ x, x ∈ l ↔ (t.up x).isSome = true ∨ (t.root ≠ -1 ∧ x = t.root)) : (l.mergeSort fun x y => decide (x ≤ y)) = nodesS t :=
  up_uniq (sort_up h) (nodes_up I) fun x => by rw [List.mem_mergeSort, hm, nodes_mem]
set_option maxHeartbeats 4000000 in
set_option maxRecDepth 100000 in
theorem nodes_at (w : World) (mb : Nat) (t : TS) (h : TreeAt w mb t) (I : TInv t) : Calls Tryz.prog 20 #[.agg #[.int .i64 t.root, .map (some mb)]] w (NewList w (nodesS t)) := by
  obtain ⟨i0, hi, hz0, hz1, hz2⟩ : ∃ i0, Tryz.prog.info? 3 = some i0 ∧ i0.zero = some (Value.int .i64 0) ∧ i0.size = 1 ∧ i0.bytes = 8 := ⟨intI, intI_at, by kernel_rfl, by kernel_rfl, by kernel_rfl⟩
  have hsm := h.small
  have hmz := h.map.lt
  have H := Lib.hid h
  have HI := Lib.hid I
  have hnl : (nodesL t).length ≤ 4000000000 := by unfold nodesL keysL; split <;> simp <;> omega
  have HNS := Lib.hid fun l h hm => nodes_sort I (l := l) h hm
  have hrn := Lib.hid I.root
  obtain ⟨r, hr⟩ : ∃ r, r = t.root := ⟨_, rfl⟩
  rw [← hr] at HNS hrn ⊢
  clear h I hr
  go_enter Tryz.func20, Tryz.ntmps20
  go_wp2_with fail
  refine (keys_any _ _).mono ?_
  rintro e w1 ⟨rfl, rfl⟩
  obtain ⟨w1, hw1⟩ : ∃ z, z = (w.alloc (.cells #[.int .i64 r, .map (some mb)] 46)).alloc (.cells #[.map (some mb)] 44) := ⟨_, rfl⟩
  have x0 : w1.cell? ⟨w.heap.size, 0, none⟩ = some (.int .i64 r) := by rw [hw1]; simp [go_sem]
  have xz : w.heap.size < w1.heap.size := by rw [hw1]; simp; omega
  have k0 : w1.cell? ⟨w.heap.size + 1, 0, none⟩ = some (.map (some mb)) := by rw [hw1]; simp [go_sem]
  have kz : w.heap.size + 1 < w1.heap.size := by rw [hw1]; simp
  have B1 : Hid (Below w.heap.size w w1) := by rw [hw1]; exact bel_alloc (bel_alloc (Below.refl _ _) _) _
  have CC1 := Lib.hid (collect_any w1 (w.heap.size + 1) mb t.ups.length _ k0 kz (H.out.below B1.out).map hsm)
  have hsz : (w.alloc (.cells #[.int .i64 r, .map (some mb)] 46)).heap.size = w.heap.size + 1 := by simp
  rw [← hw1, hsz]
  clear hw1 hsz k0 kz
  go_wp2_with fail
  refine CC1.out.mono ?_
  rintro e w2 ⟨v, ss, rfl, hnd, hmem, hrow, hb2⟩
  have hmem2 : ∀ x, x ∈ ss ↔ (t.up x).isSome = true := fun x => by rw [hmem x]; cases t.up x <;> simp
  have x0 := (hb2.cell (p := ⟨w.heap.size, 0, none⟩) xz).trans x0
  have xz := Nat.lt_of_lt_of_le xz hb2.size
  have B2 := Lib.hid (bel_below B1.out hb2)
  have O2 := Lib.hid hrow
  have hw12 := hb2.size
  have hw01 := B1.out.size
  have hsl : ss.length ≤ t.ups.length := by
    have := nodup_sub_len (k := keysL t.ups) hnd fun x hx => upL_key.1 ((hmem2 x).1 hx)
    unfold keysL at this
    rwa [List.length_map] at this
  have HND := Lib.hid hnd
  have HMM := Lib.hid hmem2
  clear hnd hmem hmem2 hrow hb2 CC1
  by_cases hr1 : r = -1
  · have hrb : (r != -1) = false := by simpa using hr1
    have E := Lib.hid (HNS.out ss HND.out fun x => by rw [HMM.out x]; simp [hr1])
    have co := OwnI.of_row O2.out
    have cs := Lib.hid (sorti_any w2 _ ss _ co (by omega))
    clear co hr1
    go_wp2_with fail
    refine cs.out.mono ?_
    rintro e w5 ⟨rfl, o5, hB5⟩
    rw [E.out] at o5
    have CC := Lib.hid (compactI_any w5 _ _ _ o5 (by rw [nodes_len]; exact hnl))
    rw [compact_same (nodes_up HI.out)] at CC
    have B5 := Lib.hid ((B2).out.trans (hB5.mono (by omega)))
    clear o5 hB5
    go_wp2_with fail
    refine CC.out.mono ?_
    rintro e w6 ⟨v6, rfl, hs6, hb6⟩
    have B6 := Lib.hid (B5.out.trans (hb6.mono (by omega)))
    have S6 := Lib.hid hs6
    clear hs6 hb6
    go_wp2_with fail
    go_ret
    exact ⟨_, rfl, S6.out.base (by omega), B6.out⟩
  · have hrb : (r != -1) = true := by simpa using hr1
    have hrs : r ∉ ss := fun hx => by have := (HMM.out r).1 hx; rw [hrn.out hr1] at this; cases this
    have E := Lib.hid (HNS.out (ss ++ [r]) (by
      rw [List.nodup_append]
      exact ⟨HND.out, by simp, fun a ha b hb => by simp at hb; subst hb; exact fun e => hrs (e ▸ ha)⟩) fun x => by rw [List.mem_append, HMM.out x]; simp [hr1])
    clear hr1 hrs
    go_wp2_with (at_builtin; refine wpList_app rfl _ _ 37 rfl w1.heap.size 3 i0 (.int .i64 0) 8 Tryz.underlying37 hi hz0 hz1 hz2 rfl _ ss.length _ rfl (O2.out.alloc _) 0 _ 1 _ rfl (sl_new _ .i64 [r] 3 _ 1 rfl rfl (by simp [maxLen])) (fun _ => rfl) ?qc1 ?qc2 ?qc3 ?_)
    case qc1 => simp only [maxLen]; omega
    case qc2 => omega
    case qc3 => simp; omega
    intro v' w3 ho3 hg3
    have B3 : Hid (Below w.heap.size w w3) := (bel_alloc B2.out _).grown hg3 (by simp; omega) (fun q hq => by have := (O2.out.lt q hq).1; omega)
    have O3 : Hid (w3.ownsRow w1.heap.size 3 1 v' (ss.length + 1) ((ss ++ [r]).map (Value.int .i64))) := by
      have := ho3
      show World.ownsRow _ _ _ _ _ _ _
      simpa [nth] using this
    have co := OwnI.of_row O3.out
    have cs := Lib.hid (sorti_any w3 _ (ss ++ [r]) _ co (by simp; omega))
    clear co ho3 hg3
    go_wp2_with fail
    refine cs.out.mono ?_
    rintro e w5 ⟨rfl, o5, hB5⟩
    rw [E.out] at o5
    have CC := Lib.hid (compactI_any w5 _ _ _ o5 (by rw [nodes_len]; exact hnl))
    rw [compact_same (nodes_up HI.out)] at CC
    have B5 := Lib.hid ((B3).out.trans (hB5.mono (by omega)))
    clear o5 hB5
    go_wp2_with fail
    refine CC.out.mono ?_
    rintro e w6 ⟨v6, rfl, hs6, hb6⟩
    have B6 := Lib.hid (B5.out.trans (hb6.mono (by omega)))
    have S6 := Lib.hid hs6
    clear hs6 hb6
    go_wp2_with fail
    go_ret
    exact ⟨_, rfl, S6.out.base (by omega), B6.out⟩
end Go.Proofs.YtekinomnjgbgmaaGreat
namespace Go.Proofs.YtekinomnjgbgmaaGreat
open Go.RowKit
set_option linter.unusedVariables false
set_option linter.unusedSimpArgs false

/-- A byte's turn of the hash. -/
def mix (h : Int) (c : UInt8) : Int :=
  bits .xor .u64 (IntKind.u64.wrap (bits .xor .u64 h (IntKind.u64.wrap (c.toNat : Int)) * 18397679294719823053)) (IntKind.u64.wrap (bits .xor .u64 h (IntKind.u64.wrap (c.toNat : Int)) * 18397679294719823053) / 4294967296)
def mixes (l : List UInt8) (n : Nat) : Int := l.foldl mix (bits .xor .u64 11400714819323198485 (n : Int))
def last (h : Int) : Int := bits .xor .u64 (IntKind.u64.wrap (h * 14181476777654086739)) (IntKind.u64.wrap (h * 14181476777654086739) / 536870912)
/-- The place of a text. -/
def hash (l : List UInt8) : Int := last (mixes l l.length)
theorem quo_u64 (g : Int) (d : Int) (hd : 1 ≤ d) : IntKind.u64.wrap ((IntKind.u64.wrap g).tdiv d) = IntKind.u64.wrap g / d :=
  IntWalk.u64_quo _ _ (by rw [IntKind.wrap_u64]; omega)
theorem bits_place (x y : Int) : isPlace (bits .xor .u64 x y) := by
  unfold bits; simp only []; rw [IntKind.wrap_u64]; unfold isPlace; omega
theorem hash_place (l : List UInt8) : isPlace (hash l) := bits_place _ _
theorem mixes_snoc (s : ByteArray) (k : Nat) (h : k < s.size) (n : Nat) : mixes (s.data.toList.take (k + 1)) n = mix (mixes (s.data.toList.take k) n) s.data[k] := by
  unfold mixes
  rw [List.take_succ_eq_append_getElem (by simpa using h), List.foldl_append]; rfl

theorem hash_any (s : ByteArray) (w : World) (hs : s.size ≤ 140737488351232) :
    Calls Tryz.prog 39 #[.string s] w fun e w' => e = .returned (.int .u64 (hash s.data.toList)) ∧ w' = Lib.bytesWorld w 5 s := by
  have hcv := Lib.run_convert_string_bytes (P := Tryz.prog) w 9 115 5 s Tryz.underlying9 Tryz.underlying115 Tryz.underlying5
  go_enter Tryz.func39, Tryz.ntmps39
  go_wp2
  clear hcv
  go_loop [3, 5, 13] (fun p _ i => ∃ k : Nat, k ≤ s.size ∧ i = .int .i64 k ∧ p = .int .u64 (mixes (s.data.toList.take k) s.size)) (fun _ _ i => s.size - (intOf i).toNat)
  case atStart => exact ⟨0, Nat.zero_le _, rfl, rfl⟩
  case round =>
    obtain ⟨k, hk, rfl, rfl⟩ := hrel
    by_cases hlt : k < s.size
    · have hcell : (Lib.bytesWorld w 5 s).cell? ⟨w.heap.size, k, none⟩ = some (.int .u8 ((s.data.toList.getD k 0).toNat : Int)) := Lib.bytesWorld_cell w 5 s k hlt
      have E := Lib.hid (mixes_snoc s k hlt s.size)
      generalize mixes (s.data.toList.take k) s.size = h at *
      go_wp2
      go_round
      case rel => go_light; exact ⟨k + 1, by omega, by go_num, by rw [E.out]; rfl⟩
      case measure => go_light; simp [intOf]; omega
    · obtain rfl : k = s.size := by omega
      have e : mixes (s.data.toList.take s.size) s.size = mixes s.data.toList s.data.toList.length := by rw [List.take_of_length_le (by simp)]; rfl
      have E : Hid (hash s.data.toList = last (mixes (s.data.toList.take s.size) s.size)) := by rw [e]; exact (rfl : hash _ = _)
      clear e
      generalize mixes (s.data.toList.take s.size) s.size = h at *
      go_wp2
      go_ret
      exact ⟨by rw [E.out]; rfl, rfl⟩

theorem below_bytes (w : World) (e : TypeId) (s : ByteArray) : Below w.heap.size w (Lib.bytesWorld w e s) :=
  ⟨rfl, rfl, rfl, by rw [Lib.bytesWorld_size]; omega, fun b hb => Lib.bytesWorld_at_old w e s b hb⟩
/-- The place of a group. -/
def keyH (s : ByteArray) : Int := hash ((ByteArray.mk #[103, 114, 111, 117, 112, 32] ++ s).data.toList)
theorem keyH_place (s : ByteArray) : isPlace (keyH s) := hash_place _
theorem key_any (s : ByteArray) (w : World) (hs : s.size ≤ 1000000) :
    Calls Tryz.prog 17 #[.string s] w fun e w' => e = .returned (.int .u64 (keyH s)) ∧ Below w.heap.size w w' := by
  obtain ⟨g, hg⟩ : ∃ z, z = ByteArray.mk #[103, 114, 111, 117, 112, 32] ++ s := ⟨_, rfl⟩
  have hgs : g.size ≤ 1000006 := by rw [hg, ByteArray.size_append]; show 6 + s.size ≤ _; omega
  have HK : Hid (keyH s = hash g.data.toList) := show keyH s = _ by rw [hg]; rfl
  have HG := Lib.hid hg
  clear hg
  go_enter Tryz.func17, Tryz.ntmps17
  go_wp2_with fail
  rw [← HG.out]
  refine (hash_any g _ (by omega)).mono ?_
  rintro e w1 ⟨rfl, rfl⟩
  go_wp2_with fail
  go_ret
  exact ⟨by rw [HK.out]; first | done | rfl, below_bytes _ _ _⟩
end Go.Proofs.YtekinomnjgbgmaaGreat
namespace Go.Proofs.YtekinomnjgbgmaaGreat
open Go.RowKit Go.Maps Go.Sort Go.WideShapes Go.ChangeShapes Go.Deep
set_option linter.unusedVariables false
set_option linter.unusedSimpArgs false
attribute [local go_sem] later_cell later_frozen later_lt cell_set_off cell_set_block


/-- A tree under way: its map in block mb, its two cells in block tb; the answer's in block rb. -/
structure TreeW (w : World) (rb mb tb : Nat) (wr : World) (t : TS) : Prop where
  tree : TreeAt wr mb t
  c0 : wr.cell? ⟨tb, 0, none⟩ = some (.int .i64 t.root)
  c1 : wr.cell? ⟨tb, 1, none⟩ = some (.map (some mb))
  r0 : wr.cell? ⟨rb, 0, none⟩ = some (.int .i64 0)
  r1 : wr.cell? ⟨rb, 1, none⟩ = some (.map none)
  fz : wr.frozen? ⟨tb, 0, none⟩ = false
  fr0 : wr.frozen? ⟨rb, 0, none⟩ = false
  fr1 : wr.frozen? ⟨rb, 1, none⟩ = false
  zt : tb < wr.heap.size
  zr : rb < wr.heap.size
  ne1 : tb ≠ mb
  ne2 : rb ≠ mb
  ne3 : tb ≠ rb
  low1 : w.heap.size ≤ rb
  low2 : w.heap.size ≤ mb
  low3 : w.heap.size ≤ tb
  below : Below w.heap.size w wr
section
variable {w : World} {rb mb tb : Nat} {wr wr' : World} {t : TS}
theorem TreeW.later (h : TreeW w rb mb tb wr t) (hb : Below wr.heap.size wr wr') : TreeW w rb mb tb wr' t where
  tree := h.tree.below hb
  c0 := (hb.cell (p := ⟨tb, 0, none⟩) h.zt).trans h.c0
  c1 := (hb.cell (p := ⟨tb, 1, none⟩) h.zt).trans h.c1
  r0 := (hb.cell (p := ⟨rb, 0, none⟩) h.zr).trans h.r0
  r1 := (hb.cell (p := ⟨rb, 1, none⟩) h.zr).trans h.r1
  fz := (hb.frozen (p := ⟨tb, 0, none⟩) h.zt).trans h.fz
  fr0 := (hb.frozen (p := ⟨rb, 0, none⟩) h.zr).trans h.fr0
  fr1 := (hb.frozen (p := ⟨rb, 1, none⟩) h.zr).trans h.fr1
  zt := Nat.lt_of_lt_of_le h.zt hb.size
  zr := Nat.lt_of_lt_of_le h.zr hb.size
  ne1 := h.ne1
  ne2 := h.ne2
  ne3 := h.ne3
  low1 := h.low1
  low2 := h.low2
  low3 := h.low3
  below := bel_below h.below hb
theorem treeW_new (w : World) : TreeW w w.heap.size (w.heap.size + 1) (w.heap.size + 1 + 1) (((w.alloc (.cells #[.int .i64 0, .map none] 46)).alloc (.map #[] 0)).alloc (.cells #[.int .i64 (-1), .map (some (w.heap.size + 1))] 46)) t0 where
  tree := by
    refine ⟨?_, by simp [t0], show okInt (-1) from okInt_dom (by omega) (by omega), by simp [t0]⟩
    have h := mapX_new (P := Tryz.prog) (k := 3) (w.alloc (.cells #[.int .i64 0, .map none] 46))
    have h2 := h.block (w' := (((w.alloc (.cells #[.int .i64 0, .map none] 46)).alloc (.map #[] 0)).alloc (.cells #[.int .i64 (-1), .map (some (w.heap.size + 1))] 46))) (Below.heap_alloc _ _ _ (by simp))
    have e : (w.alloc (.cells #[.int .i64 0, .map none] 46)).heap.size = w.heap.size + 1 := by simp
    rw [e] at h2
    exact h2
  c0 := by simp [go_sem, t0]
  c1 := by simp [go_sem]
  r0 := by simp [go_sem]
  r1 := by simp [go_sem]
  fz := by simp [go_sem]
  fr0 := by simp [go_sem]
  fr1 := by simp [go_sem]
  zt := by simp
  zr := by simp; omega
  ne1 := by omega
  ne2 := by omega
  ne3 := by omega
  low1 := by omega
  low2 := by omega
  low3 := by omega
  below := bel_alloc (bel_alloc (bel_alloc (Below.refl _ _) _) _) _
/-- A node tells another one. -/
theorem TreeW.put (h : TreeW w rb mb tb wr t) {n m : Int} (hn : okInt n) (hm : okInt m) (hu : t.up n = none) (hs : t.ups.length < 100000) :
    ∃ w', (Instr.mapUpdate 44 (.map (some mb)) (.int .i64 n) (.int .i64 m)).run Tryz.prog wr = .ok () w' ∧ TreeW w rb mb tb w' (t.add n m) := by
  obtain ⟨w', hrun, hm', ht⟩ := h.tree.map.store keyInt Tryz.underlying3 Tryz.underlying44 (by simp only [maxLen]; omega) n hn (.int .i64 m)
  have hg := ht.grown
  have hblk : ∀ b, b < wr.heap.size → b ≠ mb → w'.heap[b]? = wr.heap[b]? := fun b hb hne => hg.block b hb (fun e => hne (by cases e; rfl))
  have hT := hblk tb h.zt h.ne1
  have hR := hblk rb h.zr h.ne2
  refine ⟨w', hrun, ?_⟩
  refine { tree := ⟨?_, ?_, h.tree.root, ?_⟩, c0 := (World.cell?_of_block hT).trans h.c0, c1 := (World.cell?_of_block hT).trans h.c1, r0 := (World.cell?_of_block hR).trans h.r0, r1 := (World.cell?_of_block hR).trans h.r1,
           fz := (World.frozen?_of_block hT).trans h.fz, fr0 := (World.frozen?_of_block hR).trans h.fr0, fr1 := (World.frozen?_of_block hR).trans h.fr1, zt := Nat.lt_of_lt_of_le h.zt hg.size, zr := Nat.lt_of_lt_of_le h.zr hg.size,
           ne1 := h.ne1, ne2 := h.ne2, ne3 := h.ne3, low1 := h.low1, low2 := h.low2, low3 := h.low3, below := ?_ }
  · rw [hu] at hm'
    have e1 : (t.add n m).ups.length = t.ups.length + 1 := by simp [TS.add]
    rw [e1]
    have e2 : (fun i => ((t.add n m).up i).map (Value.int .i64)) = setX (fun i => (t.up i).map (Value.int .i64)) n (.int .i64 m) := by
      funext i
      show (upL (t.ups ++ [(n, m)]) i).map _ = _
      rw [upL_snoc]
      unfold setX
      by_cases e : i = n
      · subst e
        rw [show upL t.ups i = none from hu]; simp
      · rw [if_neg e, if_neg e]
        show Option.map _ _ = Option.map _ (upL t.ups i)
        cases upL t.ups i <;> simp
    rw [e2]
    simpa using hm'
  · intro p hp
    have hp' : p ∈ t.ups ++ [(n, m)] := hp
    rcases List.mem_append.1 hp' with hp' | hp'
    · exact h.tree.ok p hp'
    · simp at hp'; subst hp'; exact ⟨hn, hm⟩
  · show (t.ups ++ [(n, m)]).length ≤ _
    simp; omega
  · exact h.below.grown hg h.below.size (fun k e => by cases e; exact h.low2)
/-- The root is found. -/
theorem TreeW.setRoot (h : TreeW w rb mb tb wr t) {n : Int} (hn : okInt n) : TreeW w rb mb tb (wr.setCell ⟨tb, 0, none⟩ (.int .i64 n)) ⟨n, t.ups⟩ where
  tree := ⟨h.tree.map.block (Below.heap_setCell _ _ _ _ (Ne.symm h.ne1)), h.tree.ok, hn, h.tree.small⟩
  c0 := World.cell?_setCell_same _ _ _ h.c0
  c1 := by rw [cell_set_off _ _ _ _ _ (by decide)]; exact h.c1
  r0 := by rw [cell_set_block _ _ _ _ _ _ h.ne3]; exact h.r0
  r1 := by rw [cell_set_block _ _ _ _ _ _ h.ne3]; exact h.r1
  fz := by rw [World.frozen?_setCell]; exact h.fz
  fr0 := by rw [World.frozen?_setCell]; exact h.fr0
  fr1 := by rw [World.frozen?_setCell]; exact h.fr1
  zt := by rw [size_set]; exact h.zt
  zr := by rw [size_set]; exact h.zr
  ne1 := h.ne1
  ne2 := h.ne2
  ne3 := h.ne3
  low1 := h.low1
  low2 := h.low2
  low3 := h.low3
  below := bel_set h.below (by exact h.low3) _
end

theorem tfault_any (w : World) (c : Int) : Calls Tryz.prog 36 #[.int .i64 c] w fun e w' => ∃ v, e = .returned v ∧ IsErr w.heap.size w' v c ∧ Below w.heap.size w w' := by
  go_enter Tryz.func36, Tryz.ntmps36
  go_wp2
  go_ret
  refine ⟨_, rfl, ⟨w.heap.size, rfl, Nat.le_refl _, by simp, by simp [go_sem]⟩, bel_alloc (Below.refl _ _) _⟩
theorem IsErr.set2 {B B0 rb : Nat} {w : World} {v : Value} {c : Int} (h : IsErr B w v c) (hp : rb < B) (hb : B0 ≤ B) (x y : Value) : IsErr B0 ((w.setCell ⟨rb, 0, none⟩ x).setCell ⟨rb, 1, none⟩ y) v c := by
  obtain ⟨b, rfl, h1, h2, h3⟩ := h
  refine ⟨b, rfl, by omega, by rw [size_set, size_set]; exact h2, ?_⟩
  rw [cell_set_block _ _ _ _ _ _ (by omega), cell_set_block _ _ _ _ _ _ (by omega)]
  exact h3
/-- An error of a code: the code itself, or a fault of it. -/
def ErrV (B : Nat) (w : World) (v : Value) (c : Int) : Prop := v = .iface 56 (.int .i64 c) ∨ IsErr B w v c
/-- What a walker answers. -/
def NxPost (wr : World) (nx : Int → Option Int) (n : Int) (e : Ending) (w' : World) : Prop :=
  (match nx n with
  | some m => e = .returned (.tuple #[.int .i64 m, .nilIface]) ∧ okInt m
  | none => ∃ v, e = .returned (.tuple #[.int .i64 (-1), v]) ∧ ErrV wr.heap.size w' v 6) ∧ Below wr.heap.size wr w'
/-- What Of answers. -/
def OfPost (w : World) (nx : Int → Option Int) (ms : List Int) (e : Ending) (w' : World) : Prop :=
  match treeR nx ms with
  | .inl t => ∃ mb, e = .returned (.tuple #[.agg #[.int .i64 t.root, .map (some mb)], .nilIface]) ∧ TreeAt w' mb t ∧ w.heap.size ≤ mb ∧ Below w.heap.size w w'
  | .inr c => ∃ v, e = .returned (.tuple #[.agg #[.int .i64 0, .map none], v]) ∧ ErrV w.heap.size w' v c ∧ Below w.heap.size w w'
/-- Who is next by a list. -/
def nxL (l : List Int) (n : Int) : Option Int := if n < 0 ∨ (l.length : Int) ≤ n ∨ nth l n.toNat = -1 then none else some (nth l n.toNat)
end Go.Proofs.YtekinomnjgbgmaaGreat
