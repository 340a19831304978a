/-
  The document's New: who is nearest behind a place of the base. No program is named here.
-/
import Derived.Test.YtahiahjhpakeiaaGreatDoorKept12
import Derived.Test.YtahiahjhpakeiaaGreatDoorKept3
import Derived.Test.YtahiahjhpakeiaaGreatDoorKept6
section
namespace Go.Proofs.YtahiahjhpakeiaaGreatDoor
open Go.RowKit Go.Maps Go.Sort
set_option linter.unusedVariables false
set_option linter.unusedSimpArgs false

/-- The nearest one behind a place, of those that were looked at. -/
def Near (ids : List Int) (x : Int) (k : Nat) (b : Int) : Prop :=
  (b = -1 ∧ ∀ j, j < k → nth ids j = x) ∨ ∃ i : Nat, b = i ∧ i < k ∧ nth ids i ≠ x ∧ ∀ j, j < k → nth ids j ≠ x → dist x (nth ids i) ≤ dist x (nth ids j)
theorem near_zero (ids : List Int) (x : Int) : Near ids x 0 (-1) := Or.inl ⟨rfl, fun j hj => absurd hj (by omega)⟩
theorem near_self {ids : List Int} {x : Int} {k : Nat} {b : Int} (h : Near ids x k b) (e : nth ids k = x) : Near ids x (k + 1) b := by
  rcases h with ⟨h1, h2⟩ | ⟨i, h1, h2, h3, h4⟩
  · exact Or.inl ⟨h1, fun j hj => by
      by_cases ej : j = k
      · rw [ej, e]
      · exact h2 j (by omega)⟩
  · exact Or.inr ⟨i, h1, by omega, h3, fun j hj hne => by
      by_cases ej : j = k
      · exact absurd (ej ▸ e) hne
      · exact h4 j (by omega) hne⟩
theorem near_take {ids : List Int} {x : Int} {k : Nat} {b : Int} (h : Near ids x k b) (e : nth ids k ≠ x) (hb : b < 0 ∨ ∃ i : Nat, b = i ∧ dist x (nth ids k) < dist x (nth ids i)) : Near ids x (k + 1) k := by
  refine Or.inr ⟨k, rfl, Nat.lt_succ_self _, e, fun j hj hne => ?_⟩
  by_cases ej : j = k
  · rw [ej]; exact Int.le_refl _
  · rcases h with ⟨h1, h2⟩ | ⟨i, h1, h2, h3, h4⟩
    · exact absurd (h2 j (by omega)) hne
    · rcases hb with hb | ⟨i', h5, h6⟩
      · omega
      · have : i' = i := by omega
        subst this
        have := h4 j (by omega) hne
        omega
theorem near_skip {ids : List Int} {x : Int} {k i : Nat} (h : Near ids x k i) (hd : ¬ dist x (nth ids k) < dist x (nth ids i)) : Near ids x (k + 1) i := by
  rcases h with ⟨h1, _⟩ | ⟨i', h1, h2, h3, h4⟩
  · omega
  · have : i = i' := by omega
    subst this
    refine Or.inr ⟨i, rfl, by omega, h3, fun j hj hne => ?_⟩
    by_cases ej : j = k
    · rw [ej]; omega
    · exact h4 j (by omega) hne
theorem near_lt {ids : List Int} {x : Int} {k : Nat} {b : Int} (h : Near ids x k b) : b = -1 ∨ ∃ i : Nat, b = i ∧ i < k := by
  rcases h with ⟨h1, _⟩ | ⟨i, h1, h2, _⟩
  · exact Or.inl h1
  · exact Or.inr ⟨i, h1, h2⟩
section
variable {ids s : List Int}
theorem Four.at_place (F : Four ids s) (t : Int) : ∃ k : Nat, k < 4 ∧ atI ids s t = k ∧ nth ids k = nth s ((t + 4) % 4).toNat := by
  obtain ⟨k, hk, e1, e2⟩ := F.pos (j := ((t + 4) % 4).toNat) (by omega)
  exact ⟨k, hk, e2, e1⟩
theorem Four.next_min (F : Four ids s) {j m : Nat} (hj : j < 4) (hm : m < 4) (hne : m ≠ j) (h : dist (nth s j) (nth s m) ≤ dist (nth s j) (nth s ((j + 1) % 4))) : m = (j + 1) % 4 := by
  obtain ⟨p0, p3, h01, h12, h23⟩ := F.places
  unfold isPlace at p0 p3
  unfold dist at h
  have cj : j = 0 ∨ j = 1 ∨ j = 2 ∨ j = 3 := by omega
  have cm : m = 0 ∨ m = 1 ∨ m = 2 ∨ m = 3 := by omega
  rcases cj with rfl | rfl | rfl | rfl <;> rcases cm with rfl | rfl | rfl | rfl <;> simp at h hne ⊢ <;> omega
theorem Four.near (F : Four ids s) {t : Int} {b : Int} (h : Near ids (nth s ((t + 4) % 4).toNat) 4 b) : b = atI ids s (t + 1) := by
  obtain ⟨j, hj⟩ : ∃ j, j = ((t + 4) % 4).toNat := ⟨_, rfl⟩
  rw [← hj] at h
  have hj4 : j < 4 := by omega
  have e1 : (((t + 1) + 4) % 4).toNat = (j + 1) % 4 := by omega
  obtain ⟨y, hy, ey, iy⟩ := F.pos (j := (j + 1) % 4) (by omega)
  have hne : nth s ((j + 1) % 4) ≠ nth s j := fun e => by
    rcases Nat.lt_or_ge ((j + 1) % 4) j with h1 | h1
    · have := up_nth F.up h1 (by rw [F.ls]; omega); omega
    · have := up_nth F.up (i := j) (j := (j + 1) % 4) (by omega) (by rw [F.ls]; omega); omega
  rcases h with ⟨_, h2⟩ | ⟨i, h1, h2, h3, h4⟩
  · exact absurd (ey.symm.trans (h2 y hy)) (fun e => hne e)
  · have hin : nth ids i ∈ s := (F.mem _).2 (nth_mem.2 ⟨i, by rw [F.li]; exact h2, rfl⟩)
    obtain ⟨m, hm, em⟩ := nth_mem.1 hin
    rw [F.ls] at hm
    have h5 := h4 y hy (by rw [ey]; exact hne)
    rw [← em, ey] at h5
    have h6 := F.next_min hj4 hm (fun e => h3 (by rw [← em, e])) h5
    subst h6
    have h7 : idxI ids (nth ids i) = i := idxI_at F.nodup (by rw [F.li]; exact h2)
    rw [h1]
    unfold atI
    rw [e1, em, h7]
/-- What the base member at a place knows, by who is nearest. -/
theorem Four.mem_of (F : Four ids s) {n : Nat} (hn : n < 4) : ∃ t : Int, (n : Int) = atI ids s t ∧ nth ids n = nth s ((t + 4) % 4).toNat ∧ newF ids s 4 (n : Int) = some ⟨true, nth ids n, atI ids s (t + 3), [atI ids s (t + 1), atI ids s (t + 2), atI ids s (t + 3)]⟩ := by
  obtain ⟨j, hj, e1, e2⟩ := F.onto (b := (n : Int)) (by omega) (by omega)
  have e3 : (((j : Int) + 4) % 4).toNat = j := by omega
  refine ⟨j, e1, by rw [e3, e2]; simp, ?_⟩
  rw [e1, F.mk_at, e3]
  simp only [memAt, Option.some.injEq, Mem.mk.injEq, true_and, and_true]
  refine ⟨by rw [e2]; simp, ?_⟩
  rw [atI_mod ids s ((j : Int) - 1), atI_mod ids s ((j : Int) + 3)]
  congr 2
  omega
theorem Four.none_of (F : Four ids s) {n : Nat} (hn : 4 ≤ n) : newF ids s 4 (n : Int) = none := by
  cases e : newF ids s 4 (n : Int) with
  | none => rfl
  | some m =>
    obtain ⟨i, hi, e1, _⟩ := newF_inv 4 _ m e
    have := F.at i
    omega
end
/-- The ring when the first m members know. -/
def partF (ids s : List Int) (m : Nat) : RS := fun n => if n < m then newF ids s 4 n else none
theorem partF_all (ids s : List Int) (F : Four ids s) : partF ids s 4 = newF ids s 4 := funext fun n => by
  unfold partF
  split
  · rfl
  · rename_i h
    have := F.none_of (n := n.toNat) (by omega)
    rw [← this]; congr 1; omega
end Go.Proofs.YtahiahjhpakeiaaGreatDoor

/-
  The document's 'behind': who is nearest behind a place.
-/
namespace Go.Proofs.YtahiahjhpakeiaaGreatDoor
open Go.RowKit Go.Maps Go.Sort
set_option linter.unusedVariables false
set_option linter.unusedSimpArgs false
attribute [local go_sem] later_cell later_frozen later_lt cell_set_off cell_set_block

set_option maxRecDepth 100000 in
set_option maxHeartbeats 4000000 in
theorem rbehind_any (w : World) (v : Value) (ids : List Int) (hi : SlAt 0 (fun i => .int .u64 (nth ids i)) ids.length w v) (h4 : ids.length = 4) (hp : ∀ z ∈ ids, isPlace z) (x : Int) (px : isPlace x) :
    Calls Tryz.prog 92 #[v, .int .u64 x] w fun e w' => ∃ b, e = .returned (.int .i64 b) ∧ Near ids x 4 b ∧ RowKit.Below w.heap.size w w' := by
  rw [h4] at hi
  obtain ⟨a, c, rfl, hc, hm⟩ := hi.slice
  have hA := Lib.hid hi
  have hpl : Hid (∀ j, j < 4 → isPlace (nth ids j)) := fun j hj => hp _ (nth_mem.2 ⟨j, by omega, rfl⟩)
  clear hi hp
  go_enter Tryz.func92, Tryz.ntmps92
  go_wp2_with fail
  go_loopw [5, 6, 7, 10] (fun bv _ _ i wr => ∃ (k : Nat) (b : Int), k ≤ 4 ∧ i = .int .i64 k ∧ bv = .int .i64 b ∧ Hid (Near ids x k b) ∧ Hid (RowKit.Below w.heap.size w wr)) (fun _ _ _ i _ => 4 - (intOf i).toNat)
  case atStart => exact ⟨0, -1, by omega, rfl, rfl, near_zero ids x, RowKit.Below.refl _ _⟩
  case round =>
    obtain ⟨k, b, hk, rfl, rfl, hN, hB⟩ := hrel
    by_cases hlt : k < 4
    · obtain ⟨bb, off, rfl, _, hb, hck⟩ := hA.out.at k hlt wr hB.out
      have py := hpl.out k hlt
      by_cases he : nth ids k = x
      · have h1 : (nth ids k != x) = false := by simp [he]
        have F := Lib.hid (near_self hN.out he)
        go_wp2_with fail
        refine wp_region_calm (by kernel_rfl) (by kernel_rfl) ?_
        repeat (first | (go_big_quiet_step ((go_at_call 116; exact calls_calm_same (rdist_any _ _ _ (by assumption) (by assumption))))) | (refine wpQuiet_step (fun K hK => ?_); go_simp; first | (refine hK _ ?_; clear hK K) | (apply Exists.intro; refine ⟨fun _ => ?_, hK _ ?_⟩; (go_at_call 116; exact calls_calm_same (rdist_any _ _ _ (by assumption) (by assumption))); clear hK K)))
        refine wpQuiet_nil ?_
        intro _ hw'
        obtain ⟨xq, hw''⟩ := hw'
        subst hw''
        have B2 := Lib.hid (bel_below hB.out xq.below)
        go_wp2_with fail
        go_roundw
        case rel => go_light; exact ⟨k + 1, b, by omega, by go_num, by first | rfl | trivial, F.out, B2.out⟩
        case measure => go_light; simp [intOf]; omega
      · have h1 : (nth ids k != x) = true := by simpa using he
        rcases near_lt hN.out with hb1 | ⟨i, hb1, hik⟩
        · have hb0 : b < 0 := by omega
          have F := Lib.hid (near_take hN.out he (Or.inl hb0))
          go_wp2_with fail
          refine wp_region_calm (by kernel_rfl) (by kernel_rfl) ?_
          repeat (first | (go_big_quiet_step ((go_at_call 116; exact calls_calm_same (rdist_any _ _ _ (by assumption) (by assumption))))) | (refine wpQuiet_step (fun K hK => ?_); go_simp; first | (refine hK _ ?_; clear hK K) | (apply Exists.intro; refine ⟨fun _ => ?_, hK _ ?_⟩; (go_at_call 116; exact calls_calm_same (rdist_any _ _ _ (by assumption) (by assumption))); clear hK K)))
          refine wpQuiet_nil ?_
          intro _ hw'
          obtain ⟨xq, hw''⟩ := hw'
          subst hw''
          have B2 := Lib.hid (bel_below hB.out xq.below)
          go_wp2_with fail
          go_roundw
          case rel => go_light; exact ⟨k + 1, (k : Int), by omega, by go_num, by first | rfl | trivial, F.out, B2.out⟩
          case measure => go_light; simp [intOf]; omega
        · subst hb1
          have hbn : ¬ ((i : Nat) : Int) < 0 := by omega
          have hi4 : ((i : Nat) : Int) < 4 := by omega
          have pi := hpl.out i (by omega)
          obtain ⟨bb2, off2, e2, _, hb2, hck2⟩ := hA.out.at i (by omega) wr hB.out
          cases e2
          by_cases hd : dist x (nth ids k) < dist x (nth ids i)
          · have F := Lib.hid (near_take hN.out he (Or.inr ⟨i, rfl, hd⟩))
            go_wp2_with fail
            refine wp_region_calm (by kernel_rfl) (by kernel_rfl) ?_
            repeat (first | (go_big_quiet_step ((go_at_call 116; exact calls_calm_same (rdist_any _ _ _ (by assumption) (by assumption))))) | (refine wpQuiet_step (fun K hK => ?_); go_simp; first | (refine hK _ ?_; clear hK K) | (apply Exists.intro; refine ⟨fun _ => ?_, hK _ ?_⟩; (go_at_call 116; exact calls_calm_same (rdist_any _ _ _ (by assumption) (by assumption))); clear hK K)))
            refine wpQuiet_nil ?_
            intro _ hw'
            obtain ⟨xq, hw''⟩ := hw'
            subst hw''
            have B2 := Lib.hid (bel_below hB.out xq.below)
            go_wp2_with fail
            go_roundw
            case rel => go_light; exact ⟨k + 1, (k : Int), by omega, by go_num, by first | rfl | trivial, F.out, B2.out⟩
            case measure => go_light; simp [intOf]; omega
          · have F := Lib.hid (near_skip hN.out hd)
            go_wp2_with fail
            refine wp_region_calm (by kernel_rfl) (by kernel_rfl) ?_
            repeat (first | (go_big_quiet_step ((go_at_call 116; exact calls_calm_same (rdist_any _ _ _ (by assumption) (by assumption))))) | (refine wpQuiet_step (fun K hK => ?_); go_simp; first | (refine hK _ ?_; clear hK K) | (apply Exists.intro; refine ⟨fun _ => ?_, hK _ ?_⟩; (go_at_call 116; exact calls_calm_same (rdist_any _ _ _ (by assumption) (by assumption))); clear hK K)))
            refine wpQuiet_nil ?_
            intro _ hw'
            obtain ⟨xq, hw''⟩ := hw'
            subst hw''
            have B2 := Lib.hid (bel_below hB.out xq.below)
            go_wp2_with fail
            go_roundw
            case rel => go_light; exact ⟨k + 1, (i : Int), by omega, by go_num, by first | rfl | trivial, F.out, B2.out⟩
            case measure => go_light; simp [intOf]; omega
    · obtain rfl : k = 4 := by omega
      go_wp2_with fail
      go_ret
      exact ⟨b, rfl, hN.out, hB.out⟩
end Go.Proofs.YtahiahjhpakeiaaGreatDoor

/-
  The document's New.
-/
namespace Go.Proofs.YtahiahjhpakeiaaGreatDoor
open Go.RowKit Go.Maps Go.Sort
set_option linter.unusedVariables false
set_option linter.unusedSimpArgs false
attribute [local go_sem] later_cell later_frozen later_lt cell_set_off cell_set_block

theorem owns_block {w w' : World} {base e s n : Nat} {v : Value} {xs : List Value} (h : w.ownsRow base e s v n xs) (hb : ∀ g, v.ownBlock = some g → w'.heap[g]? = w.heap[g]?) : w'.ownsRow base e s v n xs := by
  refine ⟨h.1, h.2.imp id ?_⟩
  rintro ⟨g, cap, cur, e1, h1, h2, h3⟩
  exact ⟨g, cap, cur, e1, h1, (hb g (by rw [e1]; rfl)).trans h2, h3⟩
theorem owns_shape {w : World} {base e s n : Nat} {v : Value} {xs : List Value} (h : w.ownsRow base e s v n xs) (hn : 0 < n) : ∃ g cap, v = .slice (some ⟨g, 0, none⟩) n cap := by
  rcases h.2 with ⟨_, h0⟩ | ⟨g, cap, cur, rfl, _⟩
  · omega
  · exact ⟨g, cap, rfl⟩
def upd {α : Type} (f : Nat → α) (j : Nat) (x : α) : Nat → α := fun i => if i = j then x else f i
/-- A ring under way: four cells, four rows of the call's own, apart. -/
structure NewSt (u : World) (R : Nat) (v : Nat → Value) (e s n : Nat → Nat) (l : Nat → List Value) : Prop where
  box : ∀ j, j < 4 → u.cell? ⟨R, j, none⟩ = some (v j) ∧ u.frozen? ⟨R, j, none⟩ = false
  z : R < u.heap.size
  own : ∀ j, j < 4 → u.ownsRow (R + 1) (e j) (s j) (v j) (n j) (l j)
  apart : ∀ i j, i < 4 → j < 4 → i ≠ j → ∀ b, (v i).ownBlock = some b → (v j).ownBlock ≠ some b
theorem NewSt.app {u u1 u2 u3 : World} {R : Nat} {v : Nat → Value} {e s n : Nat → Nat} {l : Nat → List Value} (h : NewSt u R v e s n l) (h1 : RowKit.Below u.heap.size u u1) {j : Nat} (hj : j < 4) {v' : Value} {n' : Nat} {l' : List Value}
    (hg : u1.grownBy u2 (v j).ownBlock) (hr : v'.ownBlock = (v j).ownBlock ∨ v'.ownBlock = some u1.heap.size) (ho : u2.ownsRow (R + 1) (e j) (s j) v' n' l') (hu : u3 = u2.setCell ⟨R, j, none⟩ v') :
    NewSt u3 R (upd v j v') e s (upd n j n') (upd l j l') ∧ RowKit.Below R u u3 := by
  have hlt := fun i (hi : i < 4) b (hb : (v i).ownBlock = some b) => (h.own i hi).lt b hb
  have hz := h.z
  have hz1 := h1.size
  have hz2 := hg.size
  have hR2 : u2.heap[R]? = u.heap[R]? := (hg.block R (by omega) (fun e' => by have := hlt j hj R e'.symm; omega)).trans (h1.block R hz)
  have hlow : ∀ b, b < R → u2.heap[b]? = u.heap[b]? := fun b hb => (hg.block b (by omega) (fun e' => by have := hlt j hj b e'.symm; omega)).trans (h1.block b (by omega))
  have hset : ∀ b, b ≠ R → u3.heap[b]? = u2.heap[b]? := fun b hb => by rw [hu]; exact Below.heap_setCell _ _ _ _ hb
  have hs3 : u3.heap.size = u2.heap.size := by rw [hu]; exact size_set _ _ _
  have hb2 : ∀ i, i < 4 → u2.cell? ⟨R, i, none⟩ = some (v i) ∧ u2.frozen? ⟨R, i, none⟩ = false := fun i hi => ⟨(World.cell?_of_block hR2).trans (h.box i hi).1, (World.frozen?_of_block hR2).trans (h.box i hi).2⟩
  refine ⟨⟨fun i hi => ?_, by omega, fun i hi => ?_, fun a c ha hc hac b hb => ?_⟩, ?_⟩
  · subst hu
    refine ⟨?_, by rw [World.frozen?_setCell]; exact (hb2 i hi).2⟩
    unfold upd
    by_cases e' : i = j
    · subst e'; rw [if_pos rfl]; exact World.cell?_setCell_same _ _ _ (hb2 i hi).1
    · rw [if_neg e', cell_set_off _ _ _ _ _ (Ne.symm e')]; exact (hb2 i hi).1
  · unfold upd
    by_cases e' : i = j
    · subst e'
      rw [if_pos rfl, if_pos rfl, if_pos rfl]
      exact owns_block ho fun g hg' => hset g (by have := ho.lt g hg'; omega)
    · rw [if_neg e', if_neg e', if_neg e']
      refine owns_block (h.own i hi) fun g hg' => ?_
      have hgl := hlt i hi g hg'
      rw [hset g (by omega), hg.block g (by omega) (fun e2 => h.apart i j hi hj e' g hg' e2.symm), h1.block g (by omega)]
  · unfold upd at hb ⊢
    by_cases ea : a = j
    · rw [if_pos ea] at hb
      by_cases ec : c = j
      · omega
      · rw [if_neg ec]
        rcases hr with hr | hr
        · rw [hr] at hb; exact h.apart j c hj hc (by omega) b hb
        · rw [hr] at hb
          intro hb3
          have := hlt c hc b hb3
          injection hb with hb
          omega
    · rw [if_neg ea] at hb
      by_cases ec : c = j
      · rw [if_pos ec]
        rcases hr with hr | hr
        · rw [hr]; exact h.apart a j ha hj ea b hb
        · rw [hr]
          intro hb3
          have := hlt a ha b hb
          injection hb3 with hb3
          omega
      · rw [if_neg ec]
        exact h.apart a c ha hc hac b hb
  · rw [hu]
    exact ((h1.mono (by omega)).grown hg (by omega) (fun g hg' => by have := hlt j hj g hg'; omega)).setCell (by exact Nat.le_refl _) _
theorem NewSt.mid {u u1 u2 : World} {R : Nat} {v : Nat → Value} {e s n : Nat → Nat} {l : Nat → List Value} (h : NewSt u R v e s n l) (h1 : RowKit.Below u.heap.size u u1) {j : Nat} (hj : j < 4)
    (hg : u1.grownBy u2 (v j).ownBlock) : (∀ i, i < 4 → u2.cell? ⟨R, i, none⟩ = some (v i) ∧ u2.frozen? ⟨R, i, none⟩ = false) ∧ R < u2.heap.size := by
  have hlt := fun i (hi : i < 4) b (hb : (v i).ownBlock = some b) => (h.own i hi).lt b hb
  have hz := h.z
  have hz1 := h1.size
  have hz2 := hg.size
  have hR2 : u2.heap[R]? = u.heap[R]? := (hg.block R (by omega) (fun e' => by have := hlt j hj R e'.symm; omega)).trans (h1.block R hz)
  exact ⟨fun i hi => ⟨(World.cell?_of_block hR2).trans (h.box i hi).1, (World.frozen?_of_block hR2).trans (h.box i hi).2⟩, by omega⟩
theorem NewSt.congr {u : World} {R : Nat} {v v' : Nat → Value} {e s n n' : Nat → Nat} {l l' : Nat → List Value} (h : NewSt u R v e s n l) (hv : ∀ j, j < 4 → v j = v' j) (hn : ∀ j, j < 4 → n j = n' j) (hl : ∀ j, j < 4 → l j = l' j) : NewSt u R v' e s n' l' := by
  refine ⟨fun j hj => by rw [← hv j hj]; exact h.box j hj, h.z, fun j hj => by rw [← hv j hj, ← hn j hj, ← hl j hj]; exact h.own j hj, fun i j hi hj hij b hb => ?_⟩
  rw [← hv j hj]; rw [← hv i hi] at hb
  exact h.apart i j hi hj hij b hb
/-- The rows when there are k of each. -/
def newE : Nat → Nat := fun j => if j = 0 then 4 else if j = 1 then 4 else if j = 2 then 42 else 126
def newS : Nat → Nat := fun j => if j = 3 then 3 else 1
def boolsK (k : Nat) : List Value := (List.range (k * 1)).map fun j => .bool (decide (j < 4))
def zerosK (k : Nat) : List Value := (List.range (k * 1)).map fun _ => .int .u64 0
abbrev nilC : Nat → Value := peerC (fun _ => none) (fun _ => .slice none 0 0)
def peersK (k : Nat) : List Value := (List.range (k * 3)).map nilC
def newL (k : Nat) : Nat → List Value := fun j => if j = 0 then boolsK k else if j = 1 then boolsK k else if j = 2 then zerosK k else peersK k
theorem boolsK_succ (k : Nat) (b : Bool) (hb : b = decide (k < 4)) : boolsK (k + 1) = boolsK k ++ (List.range (1 * 1)).map fun _ => .bool b := by
  unfold boolsK
  rw [Nat.mul_one, Nat.mul_one, List.range_succ, List.map_append, hb]
  rfl
theorem zerosK_succ (k : Nat) : zerosK (k + 1) = zerosK k ++ (List.range (1 * 1)).map fun _ => .int .u64 0 := by
  unfold zerosK
  rw [Nat.mul_one, Nat.mul_one, List.range_succ, List.map_append]
  rfl
theorem nilC_add (k j : Nat) : nilC (k * 3 + j) = nilC j := by
  unfold nilC peerC
  simp only [idR, predR, show (k * 3 + j) % 3 = j % 3 by omega]
theorem peersK_succ (k : Nat) : peersK (k + 1) = peersK k ++ (List.range (1 * 3)).map nilC := by
  unfold peersK
  rw [show (k + 1) * 3 = k * 3 + 3 by omega, List.range_add, List.map_append, List.map_map]
  congr 1
  exact List.map_congr_left fun j _ => nilC_add k j
theorem newSt_start {u : World} {R : Nat} (hb : ∀ j, j < 4 → u.cell? ⟨R, j, none⟩ = some (.slice none 0 0) ∧ u.frozen? ⟨R, j, none⟩ = false) (hz : R < u.heap.size) :
    NewSt u R (fun _ => .slice none 0 0) newE newS (fun _ => 0) (newL 0) := by
  refine ⟨hb, hz, fun j hj => ?_, fun i j _ _ _ b hb => by simp [Value.ownBlock] at hb⟩
  have e : newL 0 j = [] := by unfold newL boolsK zerosK peersK; split <;> (try split) <;> (try split) <;> rfl
  rw [e]; exact World.ownsRow_nil _ _ _ _
/-- Four rows that are all there. -/
structure NewRows (u : World) (R : Nat) (p : Where) (gI gP : Nat → Value) : Prop where
  box : BoxOf u R p
  used : Row32 (fun b => R < b) u 1 (fun j => .bool (decide (j < 4))) p.b1 p.o1 p.k1
  live : Row32 (fun b => R < b) u 1 (fun j => .bool (decide (j < 4))) p.b2 p.o2 p.k2
  ids : Row32 (fun b => R < b) u 1 gI p.b3 p.o3 p.k3
  peers : Row32 (fun b => R < b) u 3 gP p.b4 p.o4 p.k4
  fresh : FreshRows (R + 1) u p
theorem NewRows.later {u u' : World} {R : Nat} {p : Where} {gI gP : Nat → Value} (h : NewRows u R p gI gP) (hb : RowKit.Below u.heap.size u u') : NewRows u' R p gI gP :=
  ⟨h.box.later hb, h.used.imp (fun h => h) hb.size (hb.block _ h.used.z), h.live.imp (fun h => h) hb.size (hb.block _ h.live.z), h.ids.imp (fun h => h) hb.size (hb.block _ h.ids.z), h.peers.imp (fun h => h) hb.size (hb.block _ h.peers.z),
    h.fresh.same (hb.block _ h.used.z) (hb.block _ h.live.z) (hb.block _ h.ids.z) (hb.block _ h.peers.z)⟩
theorem NewRows.setId {u u' : World} {R : Nat} {p : Where} {gI gP : Nat → Value} (h : NewRows u R p gI gP) {k : Nat} (hk : k < 32) (x : Value) (hu : u' = u.setCell ⟨p.b3, p.o3 + k, none⟩ x) : NewRows u' R p (fun i => if i = k then x else gI i) gP := by
  subst hu
  have := h.ids.q
  exact ⟨h.box.other (by show R ≠ p.b3; omega) _, h.used.other _ _ h.fresh.n13.symm _, h.live.other _ _ h.fresh.n23.symm _, h.ids.set (by omega) _, h.peers.other _ _ h.fresh.n34 _, h.fresh.set _ _⟩
theorem NewRows.setPeer {u u' : World} {R : Nat} {p : Where} {gI gP : Nat → Value} (h : NewRows u R p gI gP) {k : Nat} (hk : k < 32) (x0 x1 x2 : Value)
    (hu : u' = ((u.setCell ⟨p.b4, p.o4 + k * 3, none⟩ x0).setCell ⟨p.b4, p.o4 + k * 3 + 1, none⟩ x1).setCell ⟨p.b4, p.o4 + k * 3 + 2, none⟩ x2) :
    NewRows u' R p gI (fun i => if i = k * 3 + 2 then x2 else if i = k * 3 + 1 then x1 else if i = k * 3 then x0 else gP i) := by
  subst hu
  have := h.peers.q
  refine ⟨((h.box.other (by show R ≠ p.b4; omega) _).other (by show R ≠ p.b4; omega) _).other (by show R ≠ p.b4; omega) _, ((h.used.other _ _ h.fresh.n14.symm _).other _ _ h.fresh.n14.symm _).other _ _ h.fresh.n14.symm _,
    ((h.live.other _ _ h.fresh.n24.symm _).other _ _ h.fresh.n24.symm _).other _ _ h.fresh.n24.symm _, ((h.ids.other _ _ h.fresh.n34.symm _).other _ _ h.fresh.n34.symm _).other _ _ h.fresh.n34.symm _, ?_, ((h.fresh.set _ _).set _ _).set _ _⟩
  rw [Nat.add_assoc, Nat.add_assoc]
  exact ((h.peers.set (by omega) _).set (by omega) _).set (by omega) _
theorem NewRows.congr {u : World} {R : Nat} {p : Where} {gI gP gI' gP' : Nat → Value} (h : NewRows u R p gI gP) (h1 : ∀ j, j < 32 → gI j = gI' j) (h2 : ∀ j, j < 32 * 3 → gP j = gP' j) : NewRows u R p gI' gP' :=
  ⟨h.box, h.used, h.live, h.ids.congr fun j hj => h1 j (by omega), h.peers.congr h2, h.fresh⟩
/-- Places written so far. -/
def idsK (ids : List Int) (k : Nat) : Nat → Value := fun j => if j < k then .int .u64 (nth ids j) else .int .u64 0
theorem idsK_succ (ids : List Int) (k j : Nat) : (if j = k then Value.int .u64 (nth ids k) else idsK ids k j) = idsK ids (k + 1) j := by
  unfold idsK
  by_cases e : j = k
  · rw [if_pos e, if_pos (by omega), e]
  · rw [if_neg e]
    by_cases h : j < k
    · rw [if_pos h, if_pos (by omega)]
    · rw [if_neg h, if_neg (by omega)]
/-- The first j behind. -/
def sucT (ids s : List Int) (t : Int) (j : Nat) : List Int := (List.range j).map fun q : Nat => atI ids s (t + (q : Int) + 1)
theorem sucT_succ (ids s : List Int) (t : Int) (j : Nat) : sucT ids s t (j + 1) = sucT ids s t j ++ [atI ids s (t + (j : Int) + 1)] := by
  unfold sucT; rw [List.range_succ, List.map_append]; rfl
theorem sucT_len (ids s : List Int) (t : Int) (j : Nat) : (sucT ids s t j).length = j := by simp [sucT]
theorem sucT_three (ids s : List Int) (t : Int) : sucT ids s t 3 = [atI ids s (t + 1), atI ids s (t + 2), atI ids s (t + 3)] := by
  simp [sucT, List.range_succ, Int.add_assoc]
theorem partF_zero (ids s : List Int) (j : Nat) : partF ids s 0 (j : Int) = none := by unfold partF; rw [if_neg (by omega)]
theorem partF_same (ids s : List Int) {k j : Nat} (h : j ≠ k) : partF ids s (k + 1) (j : Int) = partF ids s k (j : Int) := by
  unfold partF
  by_cases h1 : j < k
  · rw [if_pos (by omega), if_pos (by omega)]
  · rw [if_neg (by omega), if_neg (by omega)]
theorem partF_at (ids s : List Int) (k : Nat) : partF ids s (k + 1) (k : Int) = newF ids s 4 (k : Int) := by unfold partF; rw [if_pos (by omega)]
theorem peerC_step {f f' : RS} {V V' : Nat → Value} {k : Nat} {M : Mem} {sv : Value} (h1 : f' (k : Int) = some M) (h2 : ∀ j : Nat, j ≠ k → f' (j : Int) = f (j : Int)) (hV : V' = fun i => if i = k then sv else V i) (i : Nat) :
    (if i = k * 3 + 2 then sv else if i = k * 3 + 1 then Value.int .i64 M.pred else if i = k * 3 then Value.int .u64 M.id else peerC f V i) = peerC f' V' i := by
  subst hV
  by_cases e2 : i = k * 3 + 2
  · subst e2
    rw [if_pos rfl, peerC2, if_pos rfl]
  · rw [if_neg e2]
    by_cases e1 : i = k * 3 + 1
    · subst e1
      rw [if_pos rfl, peerC1]
      unfold predR; rw [h1]
    · rw [if_neg e1]
      by_cases e0 : i = k * 3
      · subst e0
        rw [if_pos rfl, peerC0]
        unfold idR; rw [h1]
      · rw [if_neg e0]
        have hd : i / 3 ≠ k := by omega
        unfold peerC idR predR
        rw [h2 _ hd]
        simp only [if_neg hd]
theorem newRows_of {u : World} {R : Nat} {v : Nat → Value} (h : NewSt u R v newE newS (fun _ => 32) (newL 32)) : ∃ p : Where, NewRows u R p (fun _ => .int .u64 0) nilC := by
  obtain ⟨b1, k1, e1, o1, m1, r1, f1⟩ := row_of_owns (s := 1) (g := fun j => .bool (decide (j < 4))) (by decide) rfl (show u.ownsRow (R + 1) 4 1 (v 0) 32 (boolsK 32) from h.own 0 (by decide))
  obtain ⟨b2, k2, e2, o2, m2, r2, f2⟩ := row_of_owns (s := 1) (g := fun j => .bool (decide (j < 4))) (by decide) rfl (show u.ownsRow (R + 1) 4 1 (v 1) 32 (boolsK 32) from h.own 1 (by decide))
  obtain ⟨b3, k3, e3, o3, m3, r3, f3⟩ := row_of_owns (s := 1) (g := fun j => .int .u64 0) (by decide) rfl (show u.ownsRow (R + 1) 42 1 (v 2) 32 (zerosK 32) from h.own 2 (by decide))
  obtain ⟨b4, k4, e4, o4, m4, r4, f4⟩ := row_of_owns (s := 3) (g := nilC) (by decide) rfl (show u.ownsRow (R + 1) 126 3 (v 3) 32 (peersK 32) from h.own 3 (by decide))
  have ap := fun i j hi hj hij b hb => h.apart i j hi hj hij b hb
  have n12 : b1 ≠ b2 := fun e => ap 0 1 (by decide) (by decide) (by decide) b1 o1 (by rw [o2, e])
  have n13 : b1 ≠ b3 := fun e => ap 0 2 (by decide) (by decide) (by decide) b1 o1 (by rw [o3, e])
  have n14 : b1 ≠ b4 := fun e => ap 0 3 (by decide) (by decide) (by decide) b1 o1 (by rw [o4, e])
  have n23 : b2 ≠ b3 := fun e => ap 1 2 (by decide) (by decide) (by decide) b2 o2 (by rw [o3, e])
  have n24 : b2 ≠ b4 := fun e => ap 1 3 (by decide) (by decide) (by decide) b2 o2 (by rw [o4, e])
  have n34 : b3 ≠ b4 := fun e => ap 2 3 (by decide) (by decide) (by decide) b3 o3 (by rw [o4, e])
  have q := fun j hj => h.box j hj
  have q0 := q 0 (by decide)
  have q1 := q 1 (by decide)
  have q2 := q 2 (by decide)
  have q3 := q 3 (by decide)
  rw [e1] at q0; rw [e2] at q1; rw [e3] at q2; rw [e4] at q3
  exact ⟨⟨b1, 0, k1, b2, 0, k2, b3, 0, k3, b4, 0, k4⟩, ⟨q0.1, q1.1, q2.1, q3.1, q0.2, q1.2, q2.2, q3.2, h.z⟩, r1.imp (fun h => h) (Nat.le_refl _) rfl, r2.imp (fun h => h) (Nat.le_refl _) rfl, r3.imp (fun h => h) (Nat.le_refl _) rfl, r4.imp (fun h => h) (Nat.le_refl _) rfl,
    ⟨m1, m2, m3, m4, n12, n13, n14, n23, n24, n34, f1, f2, f3, f4⟩⟩
theorem lt4 {j : Nat} (h : j < 4) : j = 0 ∨ j = 1 ∨ j = 2 ∨ j = 3 := by omega
set_option maxRecDepth 100000 in
set_option maxHeartbeats 8000000 in
theorem rnew_yes (w : World) (v : Value) (ids : List Int) (hi : SlAt 0 (fun i => .int .u64 (nth ids i)) ids.length w v) (h4 : ids.length = 4) (hs4 : (setI ids).length = 4) (F : Four ids (setI ids)) :
    Calls Tryz.prog 39 #[v] w fun e w' => ∃ x, e = .returned (.tuple #[x, .int .i64 0]) ∧ RefNew (fun _ => False) w (newF ids (setI ids) 4) x w' := by
  obtain ⟨i1, hi1, hzi1, hsi1, hbi1⟩ : ∃ i0, Tryz.prog.info? 4 = some i0 ∧ i0.zero = some (Value.bool false) ∧ i0.size = 1 ∧ i0.bytes = 1 := ⟨boolI, boolI_at, by kernel_rfl, by kernel_rfl, by kernel_rfl⟩
  obtain ⟨i3, hi3, hzi3, hsi3, hbi3⟩ : ∃ i0, Tryz.prog.info? 42 = some i0 ∧ i0.zero = some (Value.int .u64 0) ∧ i0.size = 1 ∧ i0.bytes = 8 := ⟨u64I, u64I_at, by kernel_rfl, by kernel_rfl, by kernel_rfl⟩
  obtain ⟨i4, hi4, hzi4, hsi4, hbi4⟩ : ∃ i0, Tryz.prog.info? 126 = some i0 ∧ i0.zero = some (.agg #[.int .u64 0, .int .i64 0, .slice none 0 0]) ∧ i0.size = 3 ∧ i0.bytes = 40 := ⟨rpeerI, rpeerI_at, by kernel_rfl, by kernel_rfl, by kernel_rfl⟩
  obtain ⟨i5, hi5, hzi5, hsi5, hbi5⟩ : ∃ i0, Tryz.prog.info? 3 = some i0 ∧ i0.zero = some (Value.int .i64 0) ∧ i0.size = 1 ∧ i0.bytes = 8 := ⟨intRI, intRI_at, by kernel_rfl, by kernel_rfl, by kernel_rfl⟩
  obtain ⟨a, c, rfl, hc, hm⟩ := hi.slice
  have CS := Lib.hid fun (wr : World) (hb : RowKit.Below w.heap.size w wr) => rsort_any wr _ ids (hi.below hb) (by omega)
  have CB := Lib.hid fun (wr : World) (hb : RowKit.Below w.heap.size w wr) (x : Int) (px : isPlace x) => rbehind_any wr _ ids (hi.below hb) h4 F.place x px
  obtain ⟨s, hs⟩ : ∃ s, s = setI ids := ⟨_, rfl⟩
  rw [← hs] at F CS hs4 ⊢
  have hNm : newF ids s 4 = partF ids s 4 := (partF_all ids s F).symm
  rw [hNm]
  clear hs hNm
  have HI := Lib.hid hi
  have HF := Lib.hid F
  have H4 := Lib.hid h4
  rw [h4] at CS CB ⊢
  rw [hs4] at CS
  clear hi F hs4 h4
  go_enter Tryz.func39, Tryz.ntmps39
  go_wp2_with fail
  refine (CS.out _ (by (repeat (first | exact Below.refl _ _ | (with_reducible assumption) | (with_reducible refine bel_later ?_ _) | (with_reducible refine bel_alloc ?_ _) | (with_reducible refine bel_drew ?_) | (with_reducible refine bel_drewN ?_ _) | (with_reducible refine bel_set ?_ (by first | (simp; done) | (simp; omega) | (dsimp only; omega)) _))))).mono ?_
  rintro e w1 ⟨v1, rfl, hs1, hb1⟩
  obtain ⟨a1, c1, rfl, _⟩ := hs1.slice
  have B1 : RowKit.Below w.heap.size w w1 := bel_below (bel_alloc (RowKit.Below.refl _ _) _) hb1
  have RN1 : BoxNil w1 w.heap.size := by
    refine ⟨?_, ?_, ?_, ?_, ?_, ?_, ?_, ?_, by have := hb1.size; simp at this; omega⟩
    · rw [hb1.cell (by simp)]; simp [go_sem]
    · rw [hb1.cell (by simp)]; simp [go_sem]
    · rw [hb1.cell (by simp)]; simp [go_sem]
    · rw [hb1.cell (by simp)]; simp [go_sem]
    · rw [hb1.frozen (by simp)]; simp [go_sem]
    · rw [hb1.frozen (by simp)]; simp [go_sem]
    · rw [hb1.frozen (by simp)]; simp [go_sem]
    · rw [hb1.frozen (by simp)]; simp [go_sem]
  clear hs1 hb1
  go_wp2_with fail
  obtain ⟨w3, hw3⟩ : ∃ z, z = w1.alloc (.cells #[.slice none 0 0, .slice none 0 0, .slice none 0 0, .slice none 0 0] 32) := ⟨_, rfl⟩
  obtain ⟨R, hR⟩ : ∃ R, R = w1.heap.size := ⟨_, rfl⟩
  have B3 : Hid (RowKit.Below w.heap.size w w3) := by rw [hw3]; exact bel_alloc B1 _
  have RN3 : Hid (BoxNil w3 w.heap.size) := by rw [hw3]; exact RN1.later (bel_alloc (RowKit.Below.refl _ _) _)
  have S3 : Hid (NewSt w3 R (fun _ => .slice none 0 0) newE newS (fun _ => 0) (newL 0)) := by
    refine newSt_start (fun j hj => ?_) (by rw [hw3, hR]; simp)
    rw [hw3, hR]
    rcases lt4 hj with rfl | rfl | rfl | rfl <;> exact ⟨by simp [go_sem], by simp [go_sem]⟩
  have hwR : w.heap.size < R := by rw [hR]; exact RN1.z
  rw [← hw3, ← hR]
  clear hw3 hR RN1 B1 CS
  go_loopw [5] (fun i wr => ∃ (k : Nat) (v : Nat → Value), k ≤ 32 ∧ i = .int .i64 k ∧ Hid (NewSt wr R v newE newS (fun _ => k) (newL k)) ∧ Hid (RowKit.Below R w3 wr)) (fun i _ => 32 - (intOf i).toNat)
  case atStart => exact ⟨0, _, by omega, rfl, S3.out, RowKit.Below.refl _ _⟩
  case round =>
    obtain ⟨k, v, hk, rfl, hS, hK⟩ := hrel
    by_cases hlt : k < 32
    · obtain ⟨bk, hbk⟩ : ∃ bk : Bool, decide ((k : Int) < 4) = bk := ⟨_, rfl⟩
      have hbk2 : Hid (bk = decide (k < 4)) := show bk = decide (k < 4) by rw [← hbk]; exact decide_eq_decide.2 (by omega)
      have hkI : ((k : Nat) : Int) < 32 := by omega
      have O := Lib.hid (show World.ownsRow wr (R + 1) 4 1 _ k (boolsK k) from (hS).out.own 0 (by decide))
      have cc := ((hS).out.box 0 (by decide)).1
      have cf := ((hS).out.box 0 (by decide)).2
      have zR := (hS).out.z
      obtain ⟨N, hN⟩ : ∃ N, N = (List.range (1 * 1)).map (fun _ : Nat => Value.bool bk) := ⟨_, rfl⟩
      have HN := Lib.hid hN
      clear hN
      go_wp2_with (at_builtin; go_loud (refine wpList_app_wide rfl _ _ 26 rfl (R + 1) 4 (i1) (.bool false) 1 1 Tryz.underlying26 hi1 hzi1 hsi1 hbi1 rfl (by decide) _ k _ rfl (O.out.alloc _) _ 0 1 1 (fun _ : Nat => Value.bool bk) rfl (by decide) ?c2x0 (fun _ _ => rfl) ?c4x0 ?c5x0 ?c3x0 N HN.out ?_))
      try (case c2x0 => intro q hq; (obtain rfl : q = 0 := by omega); simp [go_sem])
      try (case c4x0 => first | omega | (simp only [maxLen]; omega))
      try (case c5x0 => omega)
      try (case c3x0 => first | omega | (simp; omega))
      intro v' w2 ho hg hr
      obtain ⟨g0, q0, rfl⟩ := owns_shape ho (by omega)
      have M := (hS).out.mid (bel_alloc (RowKit.Below.refl _ _) _) (j := 0) (by decide) hg
      have mc := (M.1 0 (by decide)).1
      have mf := (M.1 0 (by decide)).2
      have mz := M.2
      clear M
      go_upto_region 10 with (fail)
      obtain ⟨u1, hu⟩ : ∃ z, z = w2.setCell ⟨R, 0, none⟩ (.slice (some ⟨g0, 0, none⟩) (k + 1) q0) := ⟨_, rfl⟩
      have A := (hS).out.app (bel_alloc (RowKit.Below.refl _ _) _) (j := 0) (by decide) hg (by simpa using hr) (l' := (boolsK k ++ (List.range (1 * 1)).map (fun _ : Nat => Value.bool bk))) (by rw [HN.out] at ho; exact ho) hu
      have S1 := Lib.hid A.1
      have K1 : Hid (RowKit.Below R w3 u1) := (hK).out.trans A.2
      rw [← hu]
      clear A hu ho hg hr O HN cc cf zR mc mf mz hS
      have O := Lib.hid (show World.ownsRow u1 (R + 1) 4 1 _ k (boolsK k) from (S1).out.own 1 (by decide))
      have cc := ((S1).out.box 1 (by decide)).1
      have cf := ((S1).out.box 1 (by decide)).2
      have zR := (S1).out.z
      obtain ⟨N, hN⟩ : ∃ N, N = (List.range (1 * 1)).map (fun _ : Nat => Value.bool bk) := ⟨_, rfl⟩
      have HN := Lib.hid hN
      clear hN
      go_wp2_with (at_builtin; go_loud (refine wpList_app_wide rfl _ _ 26 rfl (R + 1) 4 (i1) (.bool false) 1 1 Tryz.underlying26 hi1 hzi1 hsi1 hbi1 rfl (by decide) _ k _ rfl (O.out.alloc _) _ 0 1 1 (fun _ : Nat => Value.bool bk) rfl (by decide) ?c2x1 (fun _ _ => rfl) ?c4x1 ?c5x1 ?c3x1 N HN.out ?_))
      try (case c2x1 => intro q hq; (obtain rfl : q = 0 := by omega); simp [go_sem])
      try (case c4x1 => first | omega | (simp only [maxLen]; omega))
      try (case c5x1 => omega)
      try (case c3x1 => first | omega | (simp; omega))
      intro v' w2 ho hg hr
      obtain ⟨g0, q0, rfl⟩ := owns_shape ho (by omega)
      have M := (S1).out.mid (bel_alloc (RowKit.Below.refl _ _) _) (j := 1) (by decide) hg
      have mc := (M.1 1 (by decide)).1
      have mf := (M.1 1 (by decide)).2
      have mz := M.2
      clear M
      go_upto_region 11 with (fail)
      obtain ⟨u2, hu⟩ : ∃ z, z = w2.setCell ⟨R, 1, none⟩ (.slice (some ⟨g0, 0, none⟩) (k + 1) q0) := ⟨_, rfl⟩
      have A := (S1).out.app (bel_alloc (RowKit.Below.refl _ _) _) (j := 1) (by decide) hg (by simpa using hr) (l' := (boolsK k ++ (List.range (1 * 1)).map (fun _ : Nat => Value.bool bk))) (by rw [HN.out] at ho; exact ho) hu
      have S2 := Lib.hid A.1
      have K2 : Hid (RowKit.Below R w3 u2) := (K1).out.trans A.2
      rw [← hu]
      clear A hu ho hg hr O HN cc cf zR mc mf mz S1
      have O := Lib.hid (show World.ownsRow u2 (R + 1) 42 1 _ k (zerosK k) from (S2).out.own 2 (by decide))
      have cc := ((S2).out.box 2 (by decide)).1
      have cf := ((S2).out.box 2 (by decide)).2
      have zR := (S2).out.z
      obtain ⟨N, hN⟩ : ∃ N, N = (List.range (1 * 1)).map (fun _ : Nat => Value.int .u64 0) := ⟨_, rfl⟩
      have HN := Lib.hid hN
      clear hN
      go_wp2_with (at_builtin; go_loud (refine wpList_app_wide rfl _ _ 27 rfl (R + 1) 42 (i3) (.int .u64 0) 1 8 Tryz.underlying27 hi3 hzi3 hsi3 hbi3 rfl (by decide) _ k _ rfl (O.out.alloc _) _ 0 1 1 (fun _ : Nat => Value.int .u64 0) rfl (by decide) ?c2x2 (fun _ _ => rfl) ?c4x2 ?c5x2 ?c3x2 N HN.out ?_))
      try (case c2x2 => intro q hq; (obtain rfl : q = 0 := by omega); simp [go_sem])
      try (case c4x2 => first | omega | (simp only [maxLen]; omega))
      try (case c5x2 => omega)
      try (case c3x2 => first | omega | (simp; omega))
      intro v' w2 ho hg hr
      obtain ⟨g0, q0, rfl⟩ := owns_shape ho (by omega)
      have M := (S2).out.mid (bel_alloc (RowKit.Below.refl _ _) _) (j := 2) (by decide) hg
      have mc := (M.1 2 (by decide)).1
      have mf := (M.1 2 (by decide)).2
      have mz := M.2
      clear M
      go_upto_region 12 with (fail)
      obtain ⟨u4, hu⟩ : ∃ z, z = w2.setCell ⟨R, 2, none⟩ (.slice (some ⟨g0, 0, none⟩) (k + 1) q0) := ⟨_, rfl⟩
      have A := (S2).out.app (bel_alloc (RowKit.Below.refl _ _) _) (j := 2) (by decide) hg (by simpa using hr) (l' := (zerosK k ++ (List.range (1 * 1)).map (fun _ : Nat => Value.int .u64 0))) (by rw [HN.out] at ho; exact ho) hu
      have S4 := Lib.hid A.1
      have K4 : Hid (RowKit.Below R w3 u4) := (K2).out.trans A.2
      rw [← hu]
      clear A hu ho hg hr O HN cc cf zR mc mf mz S2
      have O := Lib.hid (show World.ownsRow u4 (R + 1) 126 3 _ k (peersK k) from (S4).out.own 3 (by decide))
      have cc := ((S4).out.box 3 (by decide)).1
      have cf := ((S4).out.box 3 (by decide)).2
      have zR := (S4).out.z
      obtain ⟨N, hN⟩ : ∃ N, N = (List.range (1 * 3)).map nilC := ⟨_, rfl⟩
      have HN := Lib.hid hN
      clear hN
      go_wp2_with (at_builtin; go_loud (refine wpList_app_wide rfl _ _ 30 rfl (R + 1) 126 (i4) (.agg #[.int .u64 0, .int .i64 0, .slice none 0 0]) 3 40 Tryz.underlying30 hi4 hzi4 hsi4 hbi4 rfl (by decide) _ k _ rfl (O.out.alloc _) _ 0 1 1 nilC rfl (by decide) ?c2x3 (fun q hq => peerC_one (fun _ _ => rfl) q (by omega)) ?c4x3 ?c5x3 ?c3x3 N HN.out ?_))
      try (case c2x3 => intro q hq; (rcases (show q = 0 ∨ q = 1 ∨ q = 2 by omega) with rfl | rfl | rfl <;> simp [go_sem, nilC, peerC, idR, predR]))
      try (case c4x3 => first | omega | (simp only [maxLen]; omega))
      try (case c5x3 => omega)
      try (case c3x3 => first | omega | (simp; omega))
      intro v' w2 ho hg hr
      obtain ⟨g0, q0, rfl⟩ := owns_shape ho (by omega)
      have M := (S4).out.mid (bel_alloc (RowKit.Below.refl _ _) _) (j := 3) (by decide) hg
      have mc := (M.1 3 (by decide)).1
      have mf := (M.1 3 (by decide)).2
      have mz := M.2
      clear M
      go_upto_region 8 with (fail)
      obtain ⟨u5, hu⟩ : ∃ z, z = w2.setCell ⟨R, 3, none⟩ (.slice (some ⟨g0, 0, none⟩) (k + 1) q0) := ⟨_, rfl⟩
      have A := (S4).out.app (bel_alloc (RowKit.Below.refl _ _) _) (j := 3) (by decide) hg (by simpa using hr) (l' := (peersK k ++ (List.range (1 * 3)).map nilC)) (by rw [HN.out] at ho; exact ho) hu
      have S5 := Lib.hid A.1
      have K5 : Hid (RowKit.Below R w3 u5) := (K4).out.trans A.2
      rw [← hu]
      clear A hu ho hg hr O HN cc cf zR mc mf mz S4
      have SF : Hid (NewSt u5 R _ newE newS (fun _ => k + 1) (newL (k + 1))) := S5.out.congr (fun _ _ => rfl) (fun j hj => by rcases lt4 hj with rfl | rfl | rfl | rfl <;> rfl) (fun j hj => by
        rcases lt4 hj with rfl | rfl | rfl | rfl
        · exact (boolsK_succ k bk hbk2.out).symm
        · exact (boolsK_succ k bk hbk2.out).symm
        · exact (zerosK_succ k).symm
        · exact (peersK_succ k).symm)
      clear S5
      go_wp2_with fail
      go_roundw
      case rel => go_light; exact ⟨k + 1, _, by omega, by go_num, SF.out, K5.out⟩
      case measure => go_light; simp [intOf]; omega
    · have hk32 : k = 32 := by omega
      have hnI : ¬ ((k : Nat) : Int) < 32 := by omega
      rw [hk32] at hS
      obtain ⟨p, hp⟩ := newRows_of hS.out
      have HP := Lib.hid hp
      clear hp hlt hS hk32
      have hA : Hid (SlAt 0 (fun i => .int .u64 (nth ids i)) 4 w (.slice a 4 c)) := by have := HI.out; rw [H4.out] at this; exact this
      have hpl : Hid (∀ j, j < 4 → isPlace (nth ids j)) := fun j hj => HF.out.place _ (nth_mem.2 ⟨j, by rw [H4.out]; exact hj, rfl⟩)
      clear HI
      obtain ⟨w5, hw5⟩ : ∃ z, z = wr := ⟨_, rfl⟩
      rw [← hw5] at HP hK ⊢
      clear hw5 hk
      have K5 := hK
      clear hK
      go_wp2_with fail
      clear hnI
      go_loopw [6, 7, 59] (fun _ _ i wr => ∃ k : Nat, k ≤ 4 ∧ i = .int .i64 k ∧ Hid (NewRows wr R p (idsK ids k) nilC) ∧ Hid (RowKit.Below R w3 wr)) (fun _ _ i _ => 4 - (intOf i).toNat)
      case atStart => exact ⟨0, by omega, rfl, HP.out.congr (fun j _ => by unfold idsK; rw [if_neg (by omega)]) (fun _ _ => rfl), K5.out⟩
      case round =>
        obtain ⟨k, hk, rfl, hP, hK⟩ := hrel
        by_cases hlt : k < 4
        · obtain ⟨bb, off, rfl, _, hb, hck⟩ := hA.out.at k hlt wr (B3.out.trans (hK.out.mono (by omega)))
          have c2 := hP.out.box.c2
          have zR := hP.out.box.z
          have ci := hP.out.ids.cell k (by omega)
          have fi := hP.out.fresh.f3 (p.o3 + k)
          have zi := hP.out.ids.z
          have hkI : ((k : Nat) : Int) < 32 := by omega
          have hqi := hP.out.ids.q
          go_wp2_with fail
          go_roundw
          case rel =>
            go_light
            exact ⟨k + 1, by omega, by go_num, (hP.out.setId (by omega) _ rfl).congr (fun j _ => idsK_succ ids k j) (fun _ _ => rfl), hK.out.setCell (by show R ≤ p.b3; omega) _⟩
          case measure => go_light; simp [intOf]; omega
        · have hk4 : k = 4 := by omega
          have hnI : ¬ ((k : Nat) : Int) < 4 := by omega
          rw [hk4] at hP
          obtain ⟨w6, hw6⟩ : ∃ z, z = wr := ⟨_, rfl⟩
          rw [← hw6] at hP hK ⊢
          clear hw6 hlt hk HP K5 hk4
          have P6 := hP
          have K6 := hK
          clear hP hK
          go_wp2_with fail
          clear hnI
          go_loopw [8, 9, 10, 11, 12, 13, 73] (fun _ _ _ _ _ _ i wr => ∃ (k : Nat) (V : Nat → Value), k ≤ 4 ∧ i = .int .i64 k ∧ Hid (NewRows wr R p (idsK ids 4) (peerC (partF ids s k) V)) ∧ Hid (∀ j : Nat, j < 32 → SlIn (fun b => R < b ∧ b ≠ p.b4) (succR (partF ids s k) j) wr (V j)) ∧ Hid (RowKit.Below R w3 wr)) (fun _ _ _ _ _ _ i _ => 4 - (intOf i).toNat)
          case atStart =>
            refine ⟨0, fun _ => .slice none 0 0, by omega, rfl, P6.out.congr (fun _ _ => rfl) (fun j _ => ?_), fun j hj => ?_, K6.out⟩
            · unfold nilC peerC idR predR
              rw [partF_zero]
            · unfold succR
              rw [partF_zero]
              exact ⟨none, 0, rfl, Nat.le_refl _, Nat.zero_le _, fun _ => rfl, Or.inl rfl⟩
          case round =>
            obtain ⟨k, V, hk, rfl, hP, hLs, hK⟩ := hrel
            by_cases hlt : k < 4
            · have hkI4 : ((k : Nat) : Int) < 4 := by omega
              obtain ⟨t, ht1, ht2, ht3⟩ := HF.out.mem_of hlt
              have hBW : RowKit.Below w.heap.size w wr := B3.out.trans (hK.out.mono (by omega))
              obtain ⟨bb, off, rfl, _, hb, hck⟩ := hA.out.at k hlt wr hBW
              have HT1 := Lib.hid ht1
              have HT2 := Lib.hid ht2
              have HT3 := Lib.hid ht3
              have BW := Lib.hid hBW
              clear ht1 ht2 ht3 hBW
              go_wp2_with fail
              obtain ⟨w7, hw7⟩ : ∃ z, z = wr := ⟨_, rfl⟩
              rw [← hw7] at hP hLs hK BW ⊢
              clear hw7 hb hck
              obtain ⟨T, hT⟩ : ∃ T, T = w7.heap.size := ⟨_, rfl⟩
              obtain ⟨w8, hw8⟩ : ∃ z, z = w7.alloc (.cells #[.int .u64 (nth ids k), .int .i64 (-1), .slice none 0 0] 126) := ⟨_, rfl⟩
              have B8 : Hid (RowKit.Below T w7 w8) := by rw [hw8, hT]; exact bel_alloc (RowKit.Below.refl _ _) _
              have T8 : Hid (w8.cell? ⟨T, 0, none⟩ = some (.int .u64 (nth ids k)) ∧ w8.cell? ⟨T, 1, none⟩ = some (.int .i64 (-1)) ∧ w8.cell? ⟨T, 2, none⟩ = some (.slice none 0 0) ∧ (∀ o, w8.frozen? ⟨T, o, none⟩ = false) ∧ T < w8.heap.size) := by
                show _ ∧ _
                rw [hw8, hT]
                exact ⟨by simp [go_sem], by simp [go_sem], by simp [go_sem], fun o => by simp [go_sem], by simp⟩
              have hRT : R < T := by rw [hT]; exact hP.out.box.z
              have hst : nth ids k = nth s ((t + ((0 : Nat) : Int) + 4) % 4).toNat := by rw [HT2.out]; simp
              rw [← hw8, ← hT]
              have HTT := Lib.hid hT
              clear hw8 hT
              go_loopw [11, 12, 13] (fun xv i _ wr => ∃ (j : Nat) (sv : Value), j ≤ 3 ∧ i = .int .i64 j ∧ xv = .int .u64 (nth s ((t + (j : Int) + 4) % 4).toNat) ∧ Hid (wr.cell? ⟨T, 0, none⟩ = some (.int .u64 (nth ids k)) ∧ wr.cell? ⟨T, 1, none⟩ = some (.int .i64 (-1)) ∧ wr.cell? ⟨T, 2, none⟩ = some sv ∧ (∀ o, wr.frozen? ⟨T, o, none⟩ = false) ∧ T < wr.heap.size) ∧
                  Hid (wr.ownsRow (T + 1) 3 1 sv j ((sucT ids s t j).map (Value.int .i64))) ∧ Hid (RowKit.Below T w7 wr)) (fun _ i _ _ => 3 - (intOf i).toNat)
              case atStart => exact ⟨0, _, by omega, rfl, by rw [hst], T8.out, World.ownsRow_nil _ _ _ _, B8.out⟩
              case round =>
                obtain ⟨j, sv, hj, rfl, rfl, hTc, hO, hB⟩ := hrel
                have hBW2 : RowKit.Below w.heap.size w wr := BW.out.trans (hB.out.mono (by rw [HTT.out]; exact BW.out.size))
                obtain ⟨c0, c1, c2, cf, cz⟩ := hTc.out
                by_cases hj3 : j < 3
                · obtain ⟨q, hq4, hq1, hq2⟩ := HF.out.at_place (t + (j : Int) + 1)
                  have px : isPlace (nth s ((t + (j : Int) + 4) % 4).toNat) := by
                    obtain ⟨q', hq', _, e'⟩ := HF.out.at_place (t + (j : Int))
                    rw [← e']; exact hpl.out q' hq'
                  have CX := Lib.hid (CB.out wr hBW2 _ px)
                  have HBW := Lib.hid hBW2
                  have hqI : ((q : Nat) : Int) < 4 := by omega
                  have HNr := Lib.hid fun b (h : Near ids (nth s ((t + (j : Int) + 4) % 4).toNat) 4 b) => HF.out.near h
                  have hq3 : nth ids q = nth s ((t + ((j + 1 : Nat) : Int) + 4) % 4).toNat := by rw [hq2]; congr 2; omega
                  have HQ3 := Lib.hid hq3
                  have HQ1 := Lib.hid hq1
                  clear px hBW2 hq1 hq2 hq3 hst
                  obtain ⟨xx, hxx⟩ : ∃ xx, xx = nth s ((t + (j : Int) + 4) % 4).toNat := ⟨_, rfl⟩
                  rw [← hxx] at CX HNr ⊢
                  clear hxx
                  go_wp2_with fail
                  refine CX.out.mono ?_
                  rintro e w9 ⟨b, rfl, hnb, hb9⟩
                  have e := HNr.out b hnb
                  rw [HQ1.out] at e
                  subst e
                  have c0 := (hb9.cell (p := ⟨T, 0, none⟩) cz).trans c0
                  have c1 := (hb9.cell (p := ⟨T, 1, none⟩) cz).trans c1
                  have c2 := (hb9.cell (p := ⟨T, 2, none⟩) cz).trans c2
                  have cf : ∀ o, w9.frozen? ⟨T, o, none⟩ = false := fun o => (hb9.frozen (p := ⟨T, o, none⟩) cz).trans (cf o)
                  have cz := Nat.lt_of_lt_of_le cz hb9.size
                  have O9 : Hid (w9.ownsRow (T + 1) 3 1 sv j ((sucT ids s t j).map (Value.int .i64))) := owns_block hO.out fun g hg => hb9.block g (hO.out.lt g hg).2
                  have B9 : Hid (RowKit.Below T w7 w9) := hB.out.trans (hb9.mono (by have := hTc.out.2.2.2.2; omega))
                  have BW9 := Lib.hid (bel_below HBW.out hb9)
                  clear hnb hb9 CX HNr hTc hO hB HBW
                  obtain ⟨bb2, off2, e2, _, hb2, hck2⟩ := hA.out.at q hq4 w9 BW9.out
                  cases e2
                  go_wp2_with (at_builtin; refine wpList_app rfl _ _ 36 rfl (T + 1) 3 i5 (.int .i64 0) 8 Tryz.underlying36 hi5 hzi5 hsi5 hbi5 rfl _ j _ rfl (O9.out.alloc _) 0 _ 1 _ rfl (sl_new _ .i64 [(q : Int)] 3 _ 1 rfl rfl (by simp [maxLen])) (fun _ => rfl) ?qe1 ?qe2 ?qe3 ?_)
                  try (case qe1 => first | omega | (simp only [maxLen]; omega))
                  try (case qe2 => omega)
                  try (case qe3 => first | omega | (simp; omega))
                  intro v' wA ho hg
                  have HBA : RowKit.Below (T + 1) w9 wA := RowKit.Below.grown ((RowKit.Below.refl _ _).alloc (by omega) _) hg (by simp; omega) (fun g hg' => by have := O9.out.lt g hg'; omega)
                  have c0 := (HBA.cell (p := ⟨T, 0, none⟩) (Nat.lt_succ_self T)).trans c0
                  have c1 := (HBA.cell (p := ⟨T, 1, none⟩) (Nat.lt_succ_self T)).trans c1
                  have c2 := (HBA.cell (p := ⟨T, 2, none⟩) (Nat.lt_succ_self T)).trans c2
                  have cf : ∀ o, wA.frozen? ⟨T, o, none⟩ = false := fun o => (HBA.frozen (p := ⟨T, o, none⟩) (Nat.lt_succ_self T)).trans (cf o)
                  have cz := Nat.lt_of_lt_of_le cz HBA.size
                  obtain ⟨g0, q0, rfl⟩ := owns_shape ho (by omega)
                  have cf2 := cf 2
                  have BA : Hid (RowKit.Below T w7 wA) := B9.out.trans (HBA.mono (by omega))
                  clear O9 B9 BW9 hb2 hck2
                  go_upto_region 28 with (fail)
                  obtain ⟨wC, hwC⟩ : ∃ z, z = wA.setCell ⟨T, 2, none⟩ (.slice (some ⟨g0, 0, none⟩) (j + 1) q0) := ⟨_, rfl⟩
                  have TC : Hid (wC.cell? ⟨T, 0, none⟩ = some (.int .u64 (nth ids k)) ∧ wC.cell? ⟨T, 1, none⟩ = some (.int .i64 (-1)) ∧ wC.cell? ⟨T, 2, none⟩ = some (.slice (some ⟨g0, 0, none⟩) (j + 1) q0) ∧ (∀ o, wC.frozen? ⟨T, o, none⟩ = false) ∧ T < wC.heap.size) := by
                    show _ ∧ _
                    rw [hwC]
                    refine ⟨by rw [cell_set_off _ _ _ _ _ (by decide)]; exact c0, by rw [cell_set_off _ _ _ _ _ (by decide)]; exact c1, World.cell?_setCell_same _ _ _ c2, fun o => by rw [World.frozen?_setCell]; exact cf o, by rw [size_set]; exact cz⟩
                  have OC : Hid (wC.ownsRow (T + 1) 3 1 (.slice (some ⟨g0, 0, none⟩) (j + 1) q0) (j + 1) ((sucT ids s t (j + 1)).map (Value.int .i64))) := by
                    have e3 : (sucT ids s t (j + 1)).map (Value.int .i64) = (sucT ids s t j).map (Value.int .i64) ++ [.int .i64 (q : Int)] := by rw [sucT_succ, List.map_append, HQ1.out]; rfl
                    show World.ownsRow _ _ _ _ _ _ _
                    rw [e3, hwC]
                    have ho2 : wA.ownsRow (T + 1) 3 1 (.slice (some ⟨g0, 0, none⟩) (j + 1) q0) (j + 1) ((sucT ids s t j).map (Value.int .i64) ++ [.int .i64 (q : Int)]) := by simpa [nth] using ho
                    exact owns_block ho2 fun g hg' => Below.heap_setCell _ _ _ _ (by have := ho2.lt g hg'; show g ≠ T; omega)
                  have BC : Hid (RowKit.Below T w7 wC) := by rw [hwC]; exact BA.out.setCell (by exact Nat.le_refl _) _
                  rw [← hwC]
                  clear hwC ho hg HBA c0 c1 c2 cf cz cf2 BA
                  have BWC : RowKit.Below w.heap.size w wC := BW.out.trans (BC.out.mono (by rw [HTT.out]; exact BW.out.size))
                  obtain ⟨bb2, off2, e2, _, hb2, hck2⟩ := hA.out.at q hq4 wC BWC
                  cases e2
                  clear BWC
                  go_wp2_with fail
                  go_roundw
                  case rel => go_light; exact ⟨j + 1, .slice (some ⟨g0, 0, none⟩) (j + 1) q0, by omega, by go_num, congrArg (Value.int .u64) HQ3.out, TC.out, OC.out, BC.out⟩
                  case measure => go_light; simp [intOf]; omega
                · obtain rfl : j = 3 := by omega
                  have hsl := own_ints (l := sucT ids s t 3) hO.out
                  rw [sucT_len] at hsl
                  obtain ⟨la, lc, rfl, _⟩ := hsl.slice
                  obtain ⟨lb, lo, rfl, hlb, hlz, hl2⟩ := hsl.at 2 (by decide) wr (RowKit.Below.refl _ _)
                  have hl3 : nth (sucT ids s t 3) 2 = atI ids s (t + 3) := by rw [sucT_three]; rfl
                  rw [hl3] at hl2
                  have SL := Lib.hid hsl
                  have cf1 := cf 1
                  have HP7 := Lib.hid (hP.out.later (hB.out.mono (by rw [HTT.out]; exact Nat.le_refl _)))
                  clear hsl hj3 hst hl3 hj
                  go_upto_region 30 with (fail)
                  obtain ⟨wC, hwC⟩ : ∃ z, z = wr.setCell ⟨T, 1, none⟩ (.int .i64 (atI ids s (t + 3))) := ⟨_, rfl⟩
                  have d0 : wC.cell? ⟨T, 0, none⟩ = some (.int .u64 (nth ids k)) := by rw [hwC, cell_set_off _ _ _ _ _ (by decide)]; exact c0
                  have d1 : wC.cell? ⟨T, 1, none⟩ = some (.int .i64 (atI ids s (t + 3))) := by rw [hwC]; exact World.cell?_setCell_same _ _ _ c1
                  have d2 : wC.cell? ⟨T, 2, none⟩ = some (.slice (some ⟨lb, lo, none⟩) 3 lc) := by rw [hwC, cell_set_off _ _ _ _ _ (by decide)]; exact c2
                  have dz : T < wC.heap.size := by rw [hwC, size_set]; exact cz
                  have BC : RowKit.Below T w7 wC := by rw [hwC]; exact hB.out.setCell (by exact Nat.le_refl _) _
                  have BC7 : RowKit.Below w7.heap.size w7 wC := BC.mono (by rw [HTT.out]; exact Nat.le_refl _)
                  have PC := Lib.hid (hP.out.later BC7)
                  have SC : Hid (SlIn (fun b => R < b ∧ b ≠ p.b4) (sucT ids s t 3) wC (.slice (some ⟨lb, lo, none⟩) 3 lc)) := by
                    have hb4 := hP.out.peers.z
                    have h1 : SlIn (fun b => T + 1 ≤ b) (sucT ids s t 3) wr (.slice (some ⟨lb, lo, none⟩) 3 lc) := by
                      refine SlIn.of_slAt (B := T + 1) ?_ fun _ h => h
                      rw [sucT_len]; exact SL.out
                    exact h1.imp (fun b _ hq => ⟨by omega, by have := HTT.out; omega⟩) (by rw [hwC, size_set]; exact Nat.le_refl _) (fun b _ hq => by rw [hwC]; exact Below.heap_setCell _ _ _ _ (by show b ≠ T; omega))
                  have KC := Lib.hid (hK.out.trans (BC7.mono (Nat.le_of_lt hP.out.box.z)))
                  have LsC : Hid (∀ j : Nat, j < 32 → SlIn (fun b => R < b ∧ b ≠ p.b4) (succR (partF ids s k) j) wC (V j)) := fun j hj => (hLs.out j hj).imp (fun b _ h => h) BC7.size (fun b hb _ => BC7.block b hb)
                  rw [← hwC]
                  clear hwC c0 c1 c2 cf cz cf1 BC BC7 HP7 hB hO hTc SL hl2 hlz hlb hBW2
                  have x3 := PC.out.box.c3
                  have zR := PC.out.box.z
                  have p0 := PC.out.peers.cell (k * 3) (by omega)
                  have p1 := PC.out.peers.cell (k * 3 + 1) (by omega)
                  have p2 := PC.out.peers.cell (k * 3 + 2) (by omega)
                  rw [← Nat.add_assoc] at p1 p2
                  have f0 := PC.out.fresh.f4 (p.o4 + k * 3)
                  have f1 := PC.out.fresh.f4 (p.o4 + k * 3 + 1)
                  have f2 := PC.out.fresh.f4 (p.o4 + k * 3 + 2)
                  have pz := PC.out.peers.z
                  have pq := PC.out.peers.q
                  have hkI : ((k : Nat) : Int) < 32 := by omega
                  go_upto_region 31 with (fail)
                  obtain ⟨wD, hwD⟩ : ∃ z, z = ((wC.setCell ⟨p.b4, p.o4 + k * 3, none⟩ (.int .u64 (nth ids k))).setCell ⟨p.b4, p.o4 + k * 3 + 1, none⟩ (.int .i64 (atI ids s (t + 3)))).setCell ⟨p.b4, p.o4 + k * 3 + 2, none⟩ (.slice (some ⟨lb, lo, none⟩) 3 lc) := ⟨_, rfl⟩
                  have ZD : wD.heap.size = wC.heap.size := by rw [hwD]; simp only [size_set]
                  have KD : ∀ b, b ≠ p.b4 → wD.heap[b]? = wC.heap[b]? := fun b hb => by rw [hwD, Below.heap_setCell _ _ _ _ hb, Below.heap_setCell _ _ _ _ hb, Below.heap_setCell _ _ _ _ hb]
                  have hpk : partF ids s (k + 1) (k : Int) = some ⟨true, nth ids k, atI ids s (t + 3), [atI ids s (t + 1), atI ids s (t + 2), atI ids s (t + 3)]⟩ := by rw [partF_at, HT3.out]
                  have PD : Hid (NewRows wD R p (idsK ids 4) (peerC (partF ids s (k + 1)) (fun i => if i = k then .slice (some ⟨lb, lo, none⟩) 3 lc else V i))) :=
                    (PC.out.setPeer (by omega) _ _ _ hwD).congr (fun _ _ => rfl) (fun i _ => peerC_step hpk (fun j hj => partF_same ids s hj) rfl i)
                  have LsD : Hid (∀ j : Nat, j < 32 → SlIn (fun b => R < b ∧ b ≠ p.b4) (succR (partF ids s (k + 1)) j) wD (if j = k then .slice (some ⟨lb, lo, none⟩) 3 lc else V j)) := fun j hj => by
                    by_cases e : j = k
                    · subst e
                      rw [if_pos rfl]
                      have e2 : succR (partF ids s (j + 1)) (j : Int) = sucT ids s t 3 := by unfold succR; rw [hpk, sucT_three]
                      rw [e2]
                      exact SC.out.imp (fun b _ h => h) (by omega) (fun b _ h => KD b h.2)
                    · rw [if_neg e]
                      have e2 : succR (partF ids s (k + 1)) (j : Int) = succR (partF ids s k) (j : Int) := by unfold succR; rw [partF_same ids s e]
                      rw [e2]
                      exact (LsC.out j hj).imp (fun b _ h => h) (by omega) (fun b _ h => KD b h.2)
                  have BD : Hid (RowKit.Below R w3 wD) := by
                    rw [hwD]
                    exact ((KC.out.setCell (by show R ≤ p.b4; omega) _).setCell (by show R ≤ p.b4; omega) _).setCell (by show R ≤ p.b4; omega) _
                  rw [← hwD]
                  clear hwD ZD KD hpk PC SC KC LsC x3 zR p0 p1 p2 f0 f1 f2 pz pq d0 d1 d2 dz
                  go_wp2_with fail
                  go_roundw
                  case rel => go_light; exact ⟨k + 1, (fun i => if i = k then .slice (some ⟨lb, lo, none⟩) 3 lc else V i), by omega, by go_num, PD.out, LsD.out, BD.out⟩
                  case measure => go_light; simp [intOf]; omega
            · obtain rfl : k = 4 := by omega
              have R9 : Hid (BoxNil wr w.heap.size) := RN3.out.block hK.out.size (hK.out.block _ hwR)
              have P9 := Lib.hid hP.out.box
              have BW9 : RowKit.Below w.heap.size w wr := B3.out.trans (hK.out.mono (by omega))
              have c0 := (P9).out.c0
              have c1 := (P9).out.c1
              have c2 := (P9).out.c2
              have c3 := (P9).out.c3
              have pf0 := (P9).out.f0
              have pf1 := (P9).out.f1
              have pf2 := (P9).out.f2
              have pf3 := (P9).out.f3
              have zp := (P9).out.z
              have r0 := (R9).out.c0
              have r1 := (R9).out.c1
              have r2 := (R9).out.c2
              have r3 := (R9).out.c3
              have rf0 := (R9).out.f0
              have rf1 := (R9).out.f1
              have rf2 := (R9).out.f2
              have rf3 := (R9).out.f3
              have zr := (R9).out.z
              go_wp2_with fail
              refine bodyPost_ret (v := .tuple #[(.agg #[.slice (some ⟨(p).b1, (p).o1, none⟩) 32 (p).k1, .slice (some ⟨(p).b2, (p).o2, none⟩) 32 (p).k2, .slice (some ⟨(p).b3, (p).o3, none⟩) 32 (p).k3, .slice (some ⟨(p).b4, (p).o4, none⟩) 32 (p).k4]), .int .i64 0]) ?_ rfl ?_
              · simp [results, Tryz.results39, go_sem, r0, r1, r2, r3]
              obtain ⟨wE, hwE⟩ : ∃ z, z = (((wr.setCell ⟨w.heap.size, 0, none⟩ (.slice (some ⟨p.b1, p.o1, none⟩) 32 p.k1)).setCell ⟨w.heap.size, 1, none⟩ (.slice (some ⟨p.b2, p.o2, none⟩) 32 p.k2)).setCell ⟨w.heap.size, 2, none⟩ (.slice (some ⟨p.b3, p.o3, none⟩) 32 p.k3)).setCell ⟨w.heap.size, 3, none⟩ (.slice (some ⟨p.b4, p.o4, none⟩) 32 p.k4) := ⟨_, rfl⟩
              obtain ⟨hzE, hkE⟩ := block_set4 hwE
              have BE : RowKit.Below w.heap.size w wE := by
                have hB := BW9
                rw [hwE]
                (repeat (first | exact Below.refl _ _ | (with_reducible assumption) | (with_reducible refine bel_later ?_ _) | (with_reducible refine bel_alloc ?_ _) | (with_reducible refine bel_drew ?_) | (with_reducible refine bel_drewN ?_ _) | (with_reducible refine bel_set ?_ (by first | (simp; done) | (simp; omega) | (dsimp only; omega)) _)))
              rw [← hwE]
              have hsome : ∀ j : Nat, j < 32 → (partF ids s 4 (j : Int)).isSome = decide (j < 4) ∧ livesR (partF ids s 4) (j : Int) = decide (j < 4) ∧ idsK ids 4 j = .int .u64 (idR (partF ids s 4) (j : Int)) := fun j hj => by
                rw [partF_all ids s HF.out]
                unfold livesR idR idsK
                by_cases h : j < 4
                · obtain ⟨t, _, _, e⟩ := HF.out.mem_of h
                  rw [e]
                  simp [h]
                · rw [HF.out.none_of (by omega)]
                  simp [h]
              refine ⟨_, rfl, p, V, rfl, ⟨⟨?_, ?_, ?_, ?_⟩, fun j hj => ?_⟩, BE⟩
              · exact (hP.out.used.imp (fun h => Or.inr (by omega)) (by omega) (hkE _ (by have := hP.out.used.q; omega))).congr fun j hj => by rw [(hsome j (by omega)).1]
              · exact (hP.out.live.imp (fun h => Or.inr (by omega)) (by omega) (hkE _ (by have := hP.out.live.q; omega))).congr fun j hj => by rw [(hsome j (by omega)).2.1]
              · exact (hP.out.ids.imp (fun h => Or.inr (by omega)) (by omega) (hkE _ (by have := hP.out.ids.q; omega))).congr fun j hj => (hsome j (by omega)).2.2
              · exact hP.out.peers.imp (fun h => Or.inr (by omega)) (by omega) (hkE _ (by have := hP.out.peers.q; omega))
              · exact (hLs.out j hj).imp (fun b _ h => Or.inr (by omega)) (by omega) (fun b _ h => hkE b (by omega))
end Go.Proofs.YtahiahjhpakeiaaGreatDoor
end
