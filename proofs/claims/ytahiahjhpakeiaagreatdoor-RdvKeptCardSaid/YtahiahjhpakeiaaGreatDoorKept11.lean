/-
  slices.Clone, slices.Sort, slices.Compact and ring.Sorted at api.Id, at slices of whatever memory.
-/
import Derived.Test.YtahiahjhpakeiaaGreatDoorShelfRing
import Derived.Test.YtahiahjhpakeiaaGreatDoorKept1
import Derived.Test.YtahiahjhpakeiaaGreatDoorKept10
import Derived.Test.YtahiahjhpakeiaaGreatDoorRows
section
namespace Go.Proofs.YtahiahjhpakeiaaGreatDoor
open Go.RowKit Go.Sort
set_option linter.unusedVariables false
set_option linter.unusedSimpArgs false

noncomputable def idI : TypeInfo := (Tryz.prog.info? 43).get (by kernel_rfl)
theorem idI_at : Tryz.prog.info? 43 = some idI := by kernel_rfl

theorem clone_any (w : World) (v : Value) (l : List Int) (h : SlAt 0 (fun i => .int .u64 (nth l i)) l.length w v) (hl : l.length ≤ 4000000000) :
    Calls Tryz.prog 126 #[v] w fun e w' => ∃ v', e = .returned v' ∧ w'.ownsRow w.heap.size 43 1 v' l.length (l.map (Value.int .u64)) ∧ Below w.heap.size w w' := by
  obtain ⟨i0, hi, hz0, hz1, hz2⟩ : ∃ i0, Tryz.prog.info? 43 = some i0 ∧ i0.zero = some (Value.int .u64 0) ∧ i0.size = 1 ∧ i0.bytes = 8 := ⟨idI, idI_at, by kernel_rfl, by kernel_rfl, by kernel_rfl⟩
  have hm := map_range_nth .u64 l
  have hA := Lib.hid h
  obtain ⟨a, cap, rfl, h1, h2, h6, h3⟩ := h
  have q22 : ∀ (w : World) (a : Option Addr) (n c n' c' : Nat), (binOp .eql 22 (.slice a n c) (.slice none n' c')).run Tryz.prog w = .ok (.bool a.isNone) w := fun w a n c n' c' => Lib.run_eql_slice_nil w _ _ a n c n' c' Tryz.underlying22
  clear h3
  cases a with
  | none =>
    have hc0 := h6 rfl
    have hl0 : l = [] := List.length_eq_zero_iff.1 (by omega)
    subst hl0
    clear hA h6 h1 h2 hl hm
    go_enter Tryz.func126, Tryz.ntmps126
    go_wp2
    go_ret
    exact ⟨_, rfl, ⟨rfl, Or.inl ⟨rfl, rfl⟩⟩, Below.refl _ _⟩
  | some a =>
    clear h6
    go_enter Tryz.func126, Tryz.ntmps126
    go_wp2_with (at_builtin; refine wpList_app rfl _ _ 22 rfl w.heap.size 43 i0 (.int .u64 0) 8 Tryz.underlying22 hi hz0 hz1 hz2 rfl _ 0 [] rfl (World.ownsRow_made w #[] 0 (Nat.le_refl _) (Nat.zero_le _) (by simp)) 0 _ _ _ rfl (hA.out.below (bel_alloc (Below.refl _ _) _)) (fun _ => rfl) ?qc1 ?qc2 ?qc3 ?_)
    case qc1 => simp [maxLen]; omega
    case qc2 => omega
    case qc3 => simp
    intro v' w1 ho hg
    go_wp2
    go_ret
    refine ⟨_, rfl, ?_, ((Below.refl _ w).alloc (Nat.le_refl _) _).grown hg (by simp) (by intro k hk; simp [Value.ownBlock] at hk; omega)⟩
    simpa [hm] using ho

/-- A slice of the call's own, as the sort wants it. -/
def Own (B : Nat) (w : World) (v : Value) (l : List Int) : Prop :=
  (v = .slice none 0 0 ∧ l = []) ∨ ∃ g cap, v = .slice (some ⟨g, 0, none⟩) l.length cap ∧ B ≤ g ∧ g < w.heap.size ∧ l.length ≤ cap ∧ cap ≤ maxLen ∧ Holds encU w g 0 l.toArray
theorem Own.of_row {w : World} {B : Nat} {v : Value} {l : List Int} (h : w.ownsRow B 43 1 v l.length (l.map (Value.int .u64))) : Own B w v l := by
  have hc := fun g hg => h.cells (g := g) hg
  rcases h.2 with ⟨rfl, h0⟩ | ⟨g, cap, cur, rfl, hB, hg, hn, hm, hs, ht⟩
  · exact Or.inl ⟨rfl, List.length_eq_zero_iff.1 h0⟩
  · refine Or.inr ⟨g, cap, rfl, hB, (Array.getElem?_eq_some_iff.1 hg).1, hn, hm, holds_of fun j hj => ⟨?_, ?_⟩⟩
    · have := hc g rfl j (.int .u64 (nth l j)) (by simp [hj, nth_eq hj])
      rw [show ((⟨g, 0, none⟩ : Addr).add j) = ⟨g, 0 + j, none⟩ from by unfold Addr.add; by_cases e : j = 0 <;> simp [e]] at this
      exact this
    · unfold World.frozen?
      rw [hg]
      rfl
theorem sort_any (w : World) (v : Value) (l : List Int) (B : Nat) (h : Own B w v l) (hl : l.length ≤ 4000000000) :
    Calls Tryz.prog 127 #[v] w fun e w' => e = .returned (.tuple #[]) ∧ Own B w' v (l.mergeSort fun x y => decide (x ≤ y)) ∧ Below B w w' := by
  rcases h with ⟨rfl, rfl⟩ | ⟨g, cap, rfl, h1, h2, h3, h4, h5⟩
  · refine (U64.Sort_int_nil none 0 w).mono ?_
    rintro e w' ⟨rfl, rfl⟩
    exact ⟨rfl, Or.inl ⟨rfl, by simp⟩, Below.refl _ _⟩
  · refine (U64.slices_Sort g 0 cap l w h5 h2 (by omega)).mono ?_
    rintro e w' ⟨rfl, n, os, rfl⟩
    have hh : Holds encU (putRow encU (Sort.ahead w n) g 0 (l.mergeSort fun x y => decide (x ≤ y)).toArray) g 0 (l.mergeSort fun x y => decide (x ≤ y)).toArray := holds_putRow _ _ _ _ l.toArray _ (holds_ahead _ _ _ _ _ _ h5) (by simp)
    refine ⟨rfl, Or.inr ⟨g, cap, by simp, h1, by simp; omega, by simpa using h3, h4, holds_grow _ _ _ _ _ _ (by simpa using h2) hh⟩, ?_⟩
    exact ((below_ahead w n).trans (below_putRow _ g 0 _ h1)).trans (below_grow _ os (by simp; omega))

theorem compact_nil (w : World) (c : Nat) : Calls Tryz.prog 128 #[.slice none 0 c] w fun e w' => e = .returned (.slice none 0 c) ∧ w' = w := by
  go_enter Tryz.func128, Tryz.ntmps128
  go_wp2
  go_ret
  exact ⟨rfl, rfl⟩
theorem compact_any (w : World) (v : Value) (l : List Int) (B : Nat) (h : Own B w v l) (hl : l.length ≤ 4000000000) :
    Calls Tryz.prog 128 #[v] w fun e w' => ∃ v', e = .returned v' ∧ SlAt B (fun i => .int .u64 (nth (Lib.compact l) i)) (Lib.compact l).length w' v' ∧ Below B w w' := by
  rcases h with ⟨rfl, rfl⟩ | ⟨g, cap, rfl, h1, h2, h3, h4, h5⟩
  · refine (compact_nil w 0).mono ?_
    rintro e w' ⟨rfl, rfl⟩
    exact ⟨_, rfl, ⟨none, 0, rfl, Nat.le_refl _, Nat.zero_le _, fun _ => rfl, Or.inl rfl⟩, Below.refl _ _⟩
  · have hc := AnyE.slices_Compact Tryz.compactU encU (fun _ => rfl) (EqlAt.intD _ _ .u64) (NeqAt.intD _ _ .u64) 0 Tryz.zeroValue43 g 0 cap l.toArray w h5 (by simp; omega) (by simpa using h3)
    have hle : (Lib.compact l).length ≤ l.length := by
      unfold Lib.compact Lib.compactUpTo
      rw [List.length_map]
      refine Nat.le_trans (List.length_filter_le _ _) ?_
      simp
    have e0 : Lib.compactUpTo l.toArray l.toArray.size = Lib.compact l := by simp [Lib.compact]
    rw [e0] at hc
    have hc2 : Calls Tryz.prog 128 #[.slice (some ⟨g, 0, none⟩) l.length cap] w _ := (show Calls Tryz.prog (Tryz.compactU_ren.f 43) #[.slice (some ⟨g, 0, none⟩) l.length cap] w _ from by simpa using hc)
    refine hc2.mono ?_
    rintro e w' ⟨rfl, q, rfl⟩
    have hh := holds_putRow encU (Sort.ahead w q) g 0 l.toArray (Lib.compact l ++ List.replicate (l.toArray.size - (Lib.compact l).length) 0).toArray (holds_ahead _ _ _ _ _ _ h5) (by simp; omega)
    refine ⟨_, rfl, ⟨_, cap, rfl, by omega, h4, (fun h => by cases h), Or.inr ⟨g, 0, rfl, h1, by simpa using h2, fun i hi => ?_⟩⟩, (below_ahead w q).trans (below_putRow _ g 0 _ h1)⟩
    have := (hh i (by simp; omega)).1
    rw [getD_arr] at this
    simp at this
    simp
    rw [this]
    unfold nth
    simp [hi, List.getElem?_append_left hi]

/-- ring.Sorted: the places, rising, each once, in memory of the call's own. -/
theorem sorted_any (w : World) (v : Value) (l : List Int) (h : SlAt 0 (fun i => .int .u64 (nth l i)) l.length w v) (hl : l.length ≤ 4000000000) :
    Calls Tryz.prog 88 #[v] w fun e w' => ∃ v', e = .returned v' ∧ SlAt w.heap.size (fun i => .int .u64 (nth (setI l) i)) (setI l).length w' v' ∧ Below w.heap.size w w' := by
  have c1 := Lib.hid (clone_any w v l h hl)
  have hl2 : (l.mergeSort fun x y => decide (x ≤ y)).length ≤ 4000000000 := by simpa using hl
  have c2 := Lib.hid (fun w1 v1 (h1 : Own w.heap.size w1 v1 l) => sort_any w1 v1 l _ h1 hl)
  have c3 := Lib.hid (fun w1 v1 h1 => compact_any w1 v1 (l.mergeSort fun x y => decide (x ≤ y)) w.heap.size h1 hl2)
  clear h
  go_enter Tryz.func88, Tryz.ntmps88
  go_wp2_with (go_at_call 126; refine c1.out.mono ?_; rintro e w1 ⟨v1, rfl, ho, hB⟩)
  have o1 := Lib.hid (Own.of_row ho)
  clear ho
  go_wp2_with (go_at_call 127; refine (c2.out _ _ o1.out).mono ?_; rintro e w2 ⟨rfl, o2, hB2⟩)
  have O2 := Lib.hid o2
  clear o2
  go_wp2_with (go_at_call 128; refine (c3.out _ _ O2.out).mono ?_; rintro e w3 ⟨v3, rfl, o3, hB3⟩)
  go_ret
  exact ⟨_, rfl, o3, (hB.trans hB2).trans hB3⟩
end Go.Proofs.YtahiahjhpakeiaaGreatDoor
end
