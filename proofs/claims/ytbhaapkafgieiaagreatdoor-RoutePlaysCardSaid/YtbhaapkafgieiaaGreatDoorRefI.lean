
/-
  The document's New: who is nearest behind a place of the base. No program is named here.
-/
import Derived.Test.YtbhaapkafgieiaaGreatDoorChordN
import Derived.Test.YtbhaapkafgieiaaGreatDoorRefH
namespace Go.Proofs.YtbhaapkafgieiaaGreatDoor
open Go.RowKit Go.Maps Go.Sort
set_option linter.unusedVariables false
set_option linter.unusedSimpArgs false

/-- The nearest one behind a place, of those that were looked at. -/
def Near (ids : List Int) (x : Int) (k : Nat) (b : Int) : Prop :=
  (b = -1 ∧ ∀ j, j < k → nth ids j = x) ∨ ∃ i : Nat, b = i ∧ i < k ∧ nth ids i ≠ x ∧ ∀ j, j < k → nth ids j ≠ x → dist x (nth ids i) ≤ dist x (nth ids j)
theorem near_zero (ids : List Int) (x : Int) : Near ids x 0 (-1) := Or.inl ⟨rfl, fun j hj => absurd hj (by omega)⟩
theorem near_self {ids : List Int} {x : Int} {k : Nat} {b : Int} (h : Near ids x k b) (e : nth ids k = x) : Near ids x (k + 1) b := by
  rcases h with ⟨h1, h2⟩ | ⟨i, h1, h2, h3, h4⟩
  · exact Or.inl ⟨h1, fun j hj => by
      by_cases ej : j = k
      · rw [ej, e]
      · exact h2 j (by omega)⟩
  · exact Or.inr ⟨i, h1, by omega, h3, fun j hj hne => by
      by_cases ej : j = k
      · exact absurd (ej ▸ e) hne
      · exact h4 j (by omega) hne⟩
theorem near_take {ids : List Int} {x : Int} {k : Nat} {b : Int} (h : Near ids x k b) (e : nth ids k ≠ x) (hb : b < 0 ∨ ∃ i : Nat, b = i ∧ dist x (nth ids k) < dist x (nth ids i)) : Near ids x (k + 1) k := by
  refine Or.inr ⟨k, rfl, Nat.lt_succ_self _, e, fun j hj hne => ?_⟩
  by_cases ej : j = k
  · rw [ej]; exact Int.le_refl _
  · rcases h with ⟨h1, h2⟩ | ⟨i, h1, h2, h3, h4⟩
    · exact absurd (h2 j (by omega)) hne
    · rcases hb with hb | ⟨i', h5, h6⟩
      · omega
      · have : i' = i := by omega
        subst this
        have := h4 j (by omega) hne
        omega
theorem near_skip {ids : List Int} {x : Int} {k i : Nat} (h : Near ids x k i) (hd : ¬ dist x (nth ids k) < dist x (nth ids i)) : Near ids x (k + 1) i := by
  rcases h with ⟨h1, _⟩ | ⟨i', h1, h2, h3, h4⟩
  · omega
  · have : i = i' := by omega
    subst this
    refine Or.inr ⟨i, rfl, by omega, h3, fun j hj hne => ?_⟩
    by_cases ej : j = k
    · rw [ej]; omega
    · exact h4 j (by omega) hne
theorem near_lt {ids : List Int} {x : Int} {k : Nat} {b : Int} (h : Near ids x k b) : b = -1 ∨ ∃ i : Nat, b = i ∧ i < k := by
  rcases h with ⟨h1, _⟩ | ⟨i, h1, h2, _⟩
  · exact Or.inl h1
  · exact Or.inr ⟨i, h1, h2⟩
section
variable {ids s : List Int}
theorem Four.at_place (F : Four ids s) (t : Int) : ∃ k : Nat, k < 4 ∧ atI ids s t = k ∧ nth ids k = nth s ((t + 4) % 4).toNat := by
  obtain ⟨k, hk, e1, e2⟩ := F.pos (j := ((t + 4) % 4).toNat) (by omega)
  exact ⟨k, hk, e2, e1⟩
theorem Four.next_min (F : Four ids s) {j m : Nat} (hj : j < 4) (hm : m < 4) (hne : m ≠ j) (h : dist (nth s j) (nth s m) ≤ dist (nth s j) (nth s ((j + 1) % 4))) : m = (j + 1) % 4 := by
  obtain ⟨p0, p3, h01, h12, h23⟩ := F.places
  unfold isPlace at p0 p3
  unfold dist at h
  have cj : j = 0 ∨ j = 1 ∨ j = 2 ∨ j = 3 := by omega
  have cm : m = 0 ∨ m = 1 ∨ m = 2 ∨ m = 3 := by omega
  rcases cj with rfl | rfl | rfl | rfl <;> rcases cm with rfl | rfl | rfl | rfl <;> simp at h hne ⊢ <;> omega
theorem Four.near (F : Four ids s) {t : Int} {b : Int} (h : Near ids (nth s ((t + 4) % 4).toNat) 4 b) : b = atI ids s (t + 1) := by
  obtain ⟨j, hj⟩ : ∃ j, j = ((t + 4) % 4).toNat := ⟨_, rfl⟩
  rw [← hj] at h
  have hj4 : j < 4 := by omega
  have e1 : (((t + 1) + 4) % 4).toNat = (j + 1) % 4 := by omega
  obtain ⟨y, hy, ey, iy⟩ := F.pos (j := (j + 1) % 4) (by omega)
  have hne : nth s ((j + 1) % 4) ≠ nth s j := fun e => by
    rcases Nat.lt_or_ge ((j + 1) % 4) j with h1 | h1
    · have := up_nth F.up h1 (by rw [F.ls]; omega); omega
    · have := up_nth F.up (i := j) (j := (j + 1) % 4) (by omega) (by rw [F.ls]; omega); omega
  rcases h with ⟨_, h2⟩ | ⟨i, h1, h2, h3, h4⟩
  · exact absurd (ey.symm.trans (h2 y hy)) (fun e => hne e)
  · have hin : nth ids i ∈ s := (F.mem _).2 (nth_mem.2 ⟨i, by rw [F.li]; exact h2, rfl⟩)
    obtain ⟨m, hm, em⟩ := nth_mem.1 hin
    rw [F.ls] at hm
    have h5 := h4 y hy (by rw [ey]; exact hne)
    rw [← em, ey] at h5
    have h6 := F.next_min hj4 hm (fun e => h3 (by rw [← em, e])) h5
    subst h6
    have h7 : idxI ids (nth ids i) = i := idxI_at F.nodup (by rw [F.li]; exact h2)
    rw [h1]
    unfold atI
    rw [e1, em, h7]
/-- What the base member at a place knows, by who is nearest. -/
theorem Four.mem_of (F : Four ids s) {n : Nat} (hn : n < 4) : ∃ t : Int, (n : Int) = atI ids s t ∧ nth ids n = nth s ((t + 4) % 4).toNat ∧ newF ids s 4 (n : Int) = some ⟨true, nth ids n, atI ids s (t + 3), [atI ids s (t + 1), atI ids s (t + 2), atI ids s (t + 3)]⟩ := by
  obtain ⟨j, hj, e1, e2⟩ := F.onto (b := (n : Int)) (by omega) (by omega)
  have e3 : (((j : Int) + 4) % 4).toNat = j := by omega
  refine ⟨j, e1, by rw [e3, e2]; simp, ?_⟩
  rw [e1, F.mk_at, e3]
  simp only [memAt, Option.some.injEq, Mem.mk.injEq, true_and, and_true]
  refine ⟨by rw [e2]; simp, ?_⟩
  rw [atI_mod ids s ((j : Int) - 1), atI_mod ids s ((j : Int) + 3)]
  congr 2
  omega
theorem Four.none_of (F : Four ids s) {n : Nat} (hn : 4 ≤ n) : newF ids s 4 (n : Int) = none := by
  cases e : newF ids s 4 (n : Int) with
  | none => rfl
  | some m =>
    obtain ⟨i, hi, e1, _⟩ := newF_inv 4 _ m e
    have := F.at i
    omega
end
/-- The ring when the first m members know. -/
def partF (ids s : List Int) (m : Nat) : RS := fun n => if n < m then newF ids s 4 n else none
theorem partF_all (ids s : List Int) (F : Four ids s) : partF ids s 4 = newF ids s 4 := funext fun n => by
  unfold partF
  split
  · rfl
  · rename_i h
    have := F.none_of (n := n.toNat) (by omega)
    rw [← this]; congr 1; omega
end Go.Proofs.YtbhaapkafgieiaaGreatDoor

/-
  The document's 'behind': who is nearest behind a place.
-/
namespace Go.Proofs.YtbhaapkafgieiaaGreatDoor
open Go.RowKit Go.Maps Go.Sort
set_option linter.unusedVariables false
set_option linter.unusedSimpArgs false
attribute [local go_sem] later_cell later_frozen later_lt cell_set_off cell_set_block

set_option maxRecDepth 100000 in
set_option maxHeartbeats 4000000 in
theorem rbehind_any (w : World) (v : Value) (ids : List Int) (hi : SlAt 0 (fun i => .int .u64 (nth ids i)) ids.length w v) (h4 : ids.length = 4) (hp : ∀ z ∈ ids, isPlace z) (x : Int) (px : isPlace x) :
    Calls Tryz.prog 87 #[v, .int .u64 x] w fun e w' => ∃ b, e = .returned (.int .i64 b) ∧ Near ids x 4 b ∧ RowKit.Below w.heap.size w w' := by
  rw [h4] at hi
  obtain ⟨a, c, rfl, hc, hm⟩ := hi.slice
  have hA := Lib.hid hi
  have hpl : Hid (∀ j, j < 4 → isPlace (nth ids j)) := fun j hj => hp _ (nth_mem.2 ⟨j, by omega, rfl⟩)
  clear hi hp
  go_enter Tryz.func87, Tryz.ntmps87
  go_wp2_with fail
  go_loopw [5, 6, 7, 10] (fun bv _ _ i wr => ∃ (k : Nat) (b : Int), k ≤ 4 ∧ i = .int .i64 k ∧ bv = .int .i64 b ∧ Hid (Near ids x k b) ∧ Hid (RowKit.Below w.heap.size w wr)) (fun _ _ _ i _ => 4 - (intOf i).toNat)
  case atStart => exact ⟨0, -1, by omega, rfl, rfl, near_zero ids x, RowKit.Below.refl _ _⟩
  case round =>
    obtain ⟨k, b, hk, rfl, rfl, hN, hB⟩ := hrel
    by_cases hlt : k < 4
    · obtain ⟨bb, off, rfl, _, hb, hck⟩ := hA.out.at k hlt wr hB.out
      have py := hpl.out k hlt
      by_cases he : nth ids k = x
      · have h1 : (nth ids k != x) = false := by simp [he]
        have F := Lib.hid (near_self hN.out he)
        go_wp2_with fail
        refine wp_region_calm (by kernel_rfl) (by kernel_rfl) ?_
        repeat (first | (go_big_quiet_step ((go_at_call 110; exact calls_calm_same (rdist_any _ _ _ (by assumption) (by assumption))))) | (refine wpQuiet_step (fun K hK => ?_); go_simp; first | (refine hK _ ?_; clear hK K) | (apply Exists.intro; refine ⟨fun _ => ?_, hK _ ?_⟩; (go_at_call 110; exact calls_calm_same (rdist_any _ _ _ (by assumption) (by assumption))); clear hK K)))
        refine wpQuiet_nil ?_
        intro _ hw'
        obtain ⟨xq, hw''⟩ := hw'
        subst hw''
        have B2 := Lib.hid (bel_below hB.out xq.below)
        go_wp2_with fail
        go_roundw
        case rel => go_light; exact ⟨k + 1, b, by omega, by go_num, by first | rfl | trivial, F.out, B2.out⟩
        case measure => go_light; simp [intOf]; omega
      · have h1 : (nth ids k != x) = true := by simpa using he
        rcases near_lt hN.out with hb1 | ⟨i, hb1, hik⟩
        · have hb0 : b < 0 := by omega
          have F := Lib.hid (near_take hN.out he (Or.inl hb0))
          go_wp2_with fail
          refine wp_region_calm (by kernel_rfl) (by kernel_rfl) ?_
          repeat (first | (go_big_quiet_step ((go_at_call 110; exact calls_calm_same (rdist_any _ _ _ (by assumption) (by assumption))))) | (refine wpQuiet_step (fun K hK => ?_); go_simp; first | (refine hK _ ?_; clear hK K) | (apply Exists.intro; refine ⟨fun _ => ?_, hK _ ?_⟩; (go_at_call 110; exact calls_calm_same (rdist_any _ _ _ (by assumption) (by assumption))); clear hK K)))
          refine wpQuiet_nil ?_
          intro _ hw'
          obtain ⟨xq, hw''⟩ := hw'
          subst hw''
          have B2 := Lib.hid (bel_below hB.out xq.below)
          go_wp2_with fail
          go_roundw
          case rel => go_light; exact ⟨k + 1, (k : Int), by omega, by go_num, by first | rfl | trivial, F.out, B2.out⟩
          case measure => go_light; simp [intOf]; omega
        · subst hb1
          have hbn : ¬ ((i : Nat) : Int) < 0 := by omega
          have hi4 : ((i : Nat) : Int) < 4 := by omega
          have pi := hpl.out i (by omega)
          obtain ⟨bb2, off2, e2, _, hb2, hck2⟩ := hA.out.at i (by omega) wr hB.out
          cases e2
          by_cases hd : dist x (nth ids k) < dist x (nth ids i)
          · have F := Lib.hid (near_take hN.out he (Or.inr ⟨i, rfl, hd⟩))
            go_wp2_with fail
            refine wp_region_calm (by kernel_rfl) (by kernel_rfl) ?_
            repeat (first | (go_big_quiet_step ((go_at_call 110; exact calls_calm_same (rdist_any _ _ _ (by assumption) (by assumption))))) | (refine wpQuiet_step (fun K hK => ?_); go_simp; first | (refine hK _ ?_; clear hK K) | (apply Exists.intro; refine ⟨fun _ => ?_, hK _ ?_⟩; (go_at_call 110; exact calls_calm_same (rdist_any _ _ _ (by assumption) (by assumption))); clear hK K)))
            refine wpQuiet_nil ?_
            intro _ hw'
            obtain ⟨xq, hw''⟩ := hw'
            subst hw''
            have B2 := Lib.hid (bel_below hB.out xq.below)
            go_wp2_with fail
            go_roundw
            case rel => go_light; exact ⟨k + 1, (k : Int), by omega, by go_num, by first | rfl | trivial, F.out, B2.out⟩
            case measure => go_light; simp [intOf]; omega
          · have F := Lib.hid (near_skip hN.out hd)
            go_wp2_with fail
            refine wp_region_calm (by kernel_rfl) (by kernel_rfl) ?_
            repeat (first | (go_big_quiet_step ((go_at_call 110; exact calls_calm_same (rdist_any _ _ _ (by assumption) (by assumption))))) | (refine wpQuiet_step (fun K hK => ?_); go_simp; first | (refine hK _ ?_; clear hK K) | (apply Exists.intro; refine ⟨fun _ => ?_, hK _ ?_⟩; (go_at_call 110; exact calls_calm_same (rdist_any _ _ _ (by assumption) (by assumption))); clear hK K)))
            refine wpQuiet_nil ?_
            intro _ hw'
            obtain ⟨xq, hw''⟩ := hw'
            subst hw''
            have B2 := Lib.hid (bel_below hB.out xq.below)
            go_wp2_with fail
            go_roundw
            case rel => go_light; exact ⟨k + 1, (i : Int), by omega, by go_num, by first | rfl | trivial, F.out, B2.out⟩
            case measure => go_light; simp [intOf]; omega
    · obtain rfl : k = 4 := by omega
      go_wp2_with fail
      go_ret
      exact ⟨b, rfl, hN.out, hB.out⟩
end Go.Proofs.YtbhaapkafgieiaaGreatDoor
