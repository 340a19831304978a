/-
  slices.Clone, slices.Sort, slices.Compact at string, at slices of whatever memory.
-/
import Derived.Test.YtahiahjhpakeiaaGreatDoorShelfTab
import Derived.Test.YtahiahjhpakeiaaGreatDoorKept1
import Derived.Test.YtahiahjhpakeiaaGreatDoorKept17
import Derived.Test.YtahiahjhpakeiaaGreatDoorRows
section
namespace Go.Proofs.YtahiahjhpakeiaaGreatDoor
open Go.RowKit Go.Sort
set_option linter.unusedVariables false
set_option linter.unusedSimpArgs false

noncomputable def strI : TypeInfo := (Tryz.prog.info? 9).get (by kernel_rfl)
theorem strI_at : Tryz.prog.info? 9 = some strI := by kernel_rfl
theorem belowS_putRow (w : World) (b off : Nat) (d : Array Str) {B : Nat} (h : B ≤ b) : Go.RowKit.Below B w (putRow encStr w b off d) :=
  ⟨rfl, rfl, rfl, by simp, fun k hk => by
    show (w.heap.modify b _)[k]? = _
    rw [Array.getElem?_modify, if_neg (by omega)]⟩
/-- A slice of texts. -/
def SlS (B : Nat) (l : List Str) (w : World) (v : Value) : Prop := SlAt B (fun i => sV (nthT l i)) l.length w v
theorem map_range_nthT (l : List Str) : (List.range l.length).map (fun i => sV (nthT l i)) = l.map sV := by
  apply List.ext_getElem (by simp)
  intro i h1 h2
  simp at h1
  simp [nthT_eq h1]

theorem cloneS_any (w : World) (v : Value) (l : List Str) (h : SlS 0 l w v) (hl : l.length ≤ 100000000) :
    Calls Tryz.prog 52 #[v] w fun e w' => ∃ v', e = .returned v' ∧ w'.ownsRow w.heap.size 9 1 v' l.length (l.map sV) ∧ Below w.heap.size w w' := by
  obtain ⟨i0, hi, hz0, hz1, hz2⟩ : ∃ i0, Tryz.prog.info? 9 = some i0 ∧ i0.zero = some (Value.string ByteArray.empty) ∧ i0.size = 1 ∧ i0.bytes = 16 := ⟨strI, strI_at, by kernel_rfl, by kernel_rfl, by kernel_rfl⟩
  have hm := map_range_nthT l
  have hA := Lib.hid h
  obtain ⟨a, cap, rfl, h1, h2, h6, h3⟩ := h
  have q22 : ∀ (w : World) (a : Option Addr) (n c n' c' : Nat), (binOp .eql 24 (.slice a n c) (.slice none n' c')).run Tryz.prog w = .ok (.bool a.isNone) w := fun w a n c n' c' => Lib.run_eql_slice_nil w _ _ a n c n' c' Tryz.underlying24
  clear h3
  cases a with
  | none =>
    have hc0 := h6 rfl
    have hl0 : l = [] := List.length_eq_zero_iff.1 (by omega)
    subst hl0
    clear hA h6 h1 h2 hl hm
    go_enter Tryz.func52, Tryz.ntmps52
    go_wp2
    go_ret
    exact ⟨_, rfl, ⟨rfl, Or.inl ⟨rfl, rfl⟩⟩, Below.refl _ _⟩
  | some a =>
    clear h6
    go_enter Tryz.func52, Tryz.ntmps52
    go_wp2_with (at_builtin; refine wpList_app rfl _ _ 24 rfl w.heap.size 9 i0 (.string ByteArray.empty) 16 Tryz.underlying24 hi hz0 hz1 hz2 rfl _ 0 [] rfl (World.ownsRow_made w #[] 0 (Nat.le_refl _) (Nat.zero_le _) (by simp)) 0 _ _ _ rfl (hA.out.below (bel_alloc (Below.refl _ _) _)) (fun _ => rfl) ?qc1 ?qc2 ?qc3 ?_)
    case qc1 => simp [maxLen]; omega
    case qc2 => omega
    case qc3 => simp
    intro v' w1 ho hg
    go_wp2
    go_ret
    refine ⟨_, rfl, ?_, ((Below.refl _ w).alloc (Nat.le_refl _) _).grown hg (by simp) (by intro k hk; simp [Value.ownBlock] at hk; omega)⟩
    simpa [hm] using ho

/-- A slice of the call's own, as the sort wants it. -/
def OwnS (B : Nat) (w : World) (v : Value) (l : List Str) : Prop :=
  (v = .slice none 0 0 ∧ l = []) ∨ ∃ g cap, v = .slice (some ⟨g, 0, none⟩) l.length cap ∧ B ≤ g ∧ g < w.heap.size ∧ l.length ≤ cap ∧ cap ≤ maxLen ∧ Holds encStr w g 0 l.toArray
theorem OwnS.of_row {w : World} {B : Nat} {v : Value} {l : List Str} (h : w.ownsRow B 9 1 v l.length (l.map sV)) : OwnS B w v l := by
  have hc := fun g hg => h.cells (g := g) hg
  rcases h.2 with ⟨rfl, h0⟩ | ⟨g, cap, cur, rfl, hB, hg, hn, hm, hs, ht⟩
  · exact Or.inl ⟨rfl, List.length_eq_zero_iff.1 h0⟩
  · refine Or.inr ⟨g, cap, rfl, hB, (Array.getElem?_eq_some_iff.1 hg).1, hn, hm, fun j hj => ⟨?_, ?_⟩⟩
    · have hj' : j < l.length := by simpa using hj
      have := hc g rfl j (sV (nthT l j)) (by simp [hj', nthT_eq hj'])
      rw [show ((⟨g, 0, none⟩ : Addr).add j) = ⟨g, 0 + j, none⟩ from by unfold Addr.add; by_cases e : j = 0 <;> simp [e]] at this
      rw [getD_arrT]
      exact this
    · unfold World.frozen?
      rw [hg]
      rfl
theorem OwnS.slAt {w : World} {B : Nat} {v : Value} {l : List Str} (h : OwnS B w v l) : SlS B l w v := by
  rcases h with ⟨rfl, rfl⟩ | ⟨g, cap, rfl, h1, h2, h3, h4, h5⟩
  · exact ⟨none, 0, rfl, Nat.le_refl _, Nat.zero_le _, fun _ => rfl, Or.inl rfl⟩
  · exact ⟨_, cap, rfl, h3, h4, (fun h => by cases h), Or.inr ⟨g, 0, rfl, h1, h2, fun i hi => by have := (h5 i (by simpa using hi)).1; rwa [getD_arrT] at this⟩⟩

theorem sortS_any (w : World) (v : Value) (l : List Str) (B : Nat) (h : OwnS B w v l) (hl : l.length ≤ 100000000) :
    Calls Tryz.prog 53 #[v] w fun e w' => e = .returned (.tuple #[]) ∧ OwnS B w' v (l.mergeSort fun x y => decide (x ≤ y)) ∧ Below B w w' := by
  rcases h with ⟨rfl, rfl⟩ | ⟨g, cap, rfl, h1, h2, h3, h4, h5⟩
  · refine (show Calls Tryz.prog 53 #[.slice none 0 0] w _ from AnyM.slices_Sort_string_none Tryz.sortS none 0 w).mono ?_
    rintro e w' ⟨rfl, rfl⟩
    exact ⟨rfl, Or.inl ⟨rfl, by simp⟩, Below.refl _ _⟩
  · refine (show Calls Tryz.prog 53 #[.slice (some ⟨g, 0, none⟩) l.length cap] w _ from AnyM.slices_Sort_string Tryz.sortS g 0 cap l w h5 h2 (by omega)).mono ?_
    rintro e w' ⟨rfl, n, os, rfl⟩
    have hh : Holds encStr (putRow encStr (Sort.ahead w n) g 0 (l.mergeSort fun x y => decide (x ≤ y)).toArray) g 0 (l.mergeSort fun x y => decide (x ≤ y)).toArray := holds_putRow _ _ _ _ l.toArray _ (holds_ahead _ _ _ _ _ _ h5) (by simp)
    refine ⟨rfl, Or.inr ⟨g, cap, by simp, h1, by simp; omega, by simpa using h3, h4, holds_grow _ _ _ _ _ _ (by simpa using h2) hh⟩, ?_⟩
    exact ((below_ahead w n).trans (belowS_putRow _ g 0 _ h1)).trans (below_grow _ os (by simp; omega))

theorem compactS_nil (w : World) (c : Nat) : Calls Tryz.prog 54 #[.slice none 0 c] w fun e w' => e = .returned (.slice none 0 c) ∧ w' = w := by
  go_enter Tryz.func54, Tryz.ntmps54
  go_wp2
  go_ret
  exact ⟨rfl, rfl⟩
theorem eqlStrD (P : Program) (T : TypeId) : EqlAt P T encStr (fun x y => decide (x = y)) := ⟨fun x y w => by
  have h := (EqlAt.string P T).1 ⟨x.toArray⟩ ⟨y.toArray⟩ w
  rw [h]
  dsimp only
  rw [ByteArray.toList_mk, ByteArray.toList_mk]
  by_cases e : x = y <;> simp [e], fun op a b x y w => (EqlAt.string P T).2 op a b ⟨x.toArray⟩ ⟨y.toArray⟩ w⟩
theorem neqStrD (P : Program) (T : TypeId) : NeqAt P T encStr (fun x y => decide (x = y)) := ⟨fun x y w => by
  have h := (NeqAt.string P T).1 ⟨x.toArray⟩ ⟨y.toArray⟩ w
  rw [h]
  dsimp only
  rw [ByteArray.toList_mk, ByteArray.toList_mk]
  by_cases e : x = y <;> simp [e], fun op a b x y w => (NeqAt.string P T).2 op a b ⟨x.toArray⟩ ⟨y.toArray⟩ w⟩
theorem compactS_any (w : World) (v : Value) (l : List Str) (B : Nat) (h : OwnS B w v l) (hl : l.length ≤ 100000000) :
    Calls Tryz.prog 54 #[v] w fun e w' => ∃ v', e = .returned v' ∧ SlS B (Lib.compact l) w' v' ∧ Below B w w' := by
  rcases h with ⟨rfl, rfl⟩ | ⟨g, cap, rfl, h1, h2, h3, h4, h5⟩
  · refine (compactS_nil w 0).mono ?_
    rintro e w' ⟨rfl, rfl⟩
    exact ⟨_, rfl, ⟨none, 0, rfl, Nat.le_refl _, Nat.zero_le _, fun _ => rfl, Or.inl rfl⟩, Below.refl _ _⟩
  · have hc := AnyE.slices_Compact Tryz.compactS encStr (fun _ => rfl) (eqlStrD _ _) (neqStrD _ _) [] Tryz.zeroValue9 g 0 cap l.toArray w h5 (by simp; omega) (by simpa using h3)
    have hle : (Lib.compact l).length ≤ l.length := by
      unfold Lib.compact Lib.compactUpTo
      rw [List.length_map]
      refine Nat.le_trans (List.length_filter_le _ _) ?_
      simp
    have e0 : Lib.compactUpTo l.toArray l.toArray.size = Lib.compact l := by simp [Lib.compact]
    rw [e0] at hc
    have hc2 : Calls Tryz.prog 54 #[.slice (some ⟨g, 0, none⟩) l.length cap] w _ := (show Calls Tryz.prog (Tryz.compactS_ren.f 43) #[.slice (some ⟨g, 0, none⟩) l.length cap] w _ from by simpa using hc)
    refine hc2.mono ?_
    rintro e w' ⟨rfl, q, rfl⟩
    have hh := holds_putRow encStr (Sort.ahead w q) g 0 l.toArray (Lib.compact l ++ List.replicate (l.toArray.size - (Lib.compact l).length) []).toArray (holds_ahead _ _ _ _ _ _ h5) (by simp; omega)
    refine ⟨_, rfl, ⟨_, cap, rfl, by omega, h4, (fun h => by cases h), Or.inr ⟨g, 0, rfl, h1, by simpa using h2, fun i hi => ?_⟩⟩, (below_ahead w q).trans (belowS_putRow _ g 0 _ h1)⟩
    have := (hh i (by simp; omega)).1
    rw [getD_arrT, show l.toArray.size = l.length from by simp] at this
    rw [this]
    have e9 : nthT (Lib.compact l ++ List.replicate (l.length - (Lib.compact l).length) []) i = nthT (Lib.compact l) i := by
      unfold nthT
      rw [List.getD_eq_getElem?_getD, List.getD_eq_getElem?_getD, List.getElem?_append_left hi]
    rw [e9]
    rfl
theorem sort_len (l : List Str) : (l.mergeSort fun x y => decide (x ≤ y)).length = l.length := by simp
end Go.Proofs.YtahiahjhpakeiaaGreatDoor
end
