
/-
  slices.Index at api.Id; the closure of chord.New: which address has the place so many behind.
-/
import Derived.Test.YthbijjpaljjapaaDoorChordI
namespace Go.Proofs.YthbijjpaljjapaaDoor
open Go.RowKit Go.Maps Go.Sort
set_option linter.unusedVariables false
set_option linter.unusedSimpArgs false
attribute [local go_sem] later_cell later_frozen later_lt

/-- Where a place is in a list; -1: it isn't. -/
def idxI (l : List Int) (x : Int) : Int := Lib.idxBy (fun x y => x == y) l x
theorem getL (l : List Int) (j : Nat) : l[j]! = nth l j := by
  unfold nth
  by_cases h : j < l.length
  · rw [getElem!_pos _ j h]; simp [h]
  · rw [getElem!_neg _ j h]; simp [h]
theorem index_any (w : World) (v : Value) (l : List Int) (h : SlAt 0 (fun i => .int .u64 (nth l i)) l.length w v) (hl : l.length ≤ 4000000000) (x : Int) :
    Calls Tryd.prog 17 #[v, .int .u64 x] w fun e w' => e = .returned (.int .i64 (idxI l x)) ∧ w = w' := by
  rcases h.parts with ⟨h0, a, cap, rfl, _⟩ | ⟨h0, b, off, cap, rfl, h1, h2, _, _, hc⟩
  · have e : idxI l x = -1 := by rw [List.length_eq_zero_iff.1 h0]; rfl
    rw [e]
    exact (AnyE.slices_Index_empty Tryd.indexU a cap (.int .u64 x) w).mono fun e w' h => ⟨h.1, h.2.symm⟩
  · have := AnyE.slices_Index Tryd.indexU (Value.int .u64) (fun x y => x == y) (EqlAt.int _ _ .u64) b off l.length cap l x w (Nat.le_refl _) (by omega) (fun j hj => by rw [getL]; exact hc j hj)
    rw [List.take_length] at this
    exact Calls.mono this fun e w' h => ⟨h.1, h.2.symm⟩
theorem idxI_at {l : List Int} (hn : l.Nodup) {k : Nat} (hk : k < l.length) : idxI l (nth l k) = k := by
  have := Lib.idxByFrom_hit (fun x y : Int => x == y) (nth l k) l k 0 hk (by rw [getL]; simp) (fun j hj => by
    rw [getL]
    simp only [beq_eq_false_iff_ne, ne_eq]
    rw [nth_eq hk, nth_eq (by omega)]
    intro e
    have := (List.getElem_inj hn).1 e
    omega)
  unfold idxI Lib.idxBy
  rw [this]
  simp
/-- The address of the place i behind the first, round the circle of four. -/
def atI (ids s : List Int) (i : Int) : Int := idxI ids (nth s ((i + 4) % 4).toNat)
theorem at_any (w : World) (b1 b2 : Nat) (ids s : List Int) (v1 v2 : Value) (h1 : w.cell? ⟨b1, 0, none⟩ = some v1) (h2 : w.cell? ⟨b2, 0, none⟩ = some v2) (z1 : b1 < w.heap.size) (z2 : b2 < w.heap.size)
    (hi : SlAt 0 (fun i => .int .u64 (nth ids i)) ids.length w v1) (hs : SlAt 0 (fun i => .int .u64 (nth s i)) s.length w v2) (hi4 : ids.length = 4) (hs4 : s.length = 4) (i : Int) (h0 : -1 ≤ i) (h10 : i ≤ 10) :
    Calls Tryd.prog 16 #[.int .i64 i, .pointer (some ⟨b1, 0, none⟩), .pointer (some ⟨b2, 0, none⟩)] w fun e w' => e = .returned (.int .i64 (atI ids s i)) ∧ Below w.heap.size w w' := by
  obtain ⟨j, hj, hj4⟩ : ∃ j : Nat, (i + 4) % 4 = (j : Int) ∧ j < 4 := ⟨((i + 4) % 4).toNat, by omega, by omega⟩
  have ht : (i + 4).tmod 4 = (j : Int) := by rw [Int.tmod_eq_emod_of_nonneg (by omega)]; exact hj
  have hE : atI ids s i = idxI ids (nth s j) := by unfold atI; rw [hj]; rfl
  rw [hE]
  clear hE hj
  have ci := Lib.hid (fun wr (hb : Below w.heap.size w wr) => index_any wr v1 ids (hi.below hb) (by omega) (nth s j))
  obtain ⟨a2, c2, rfl, _⟩ := hs.slice
  obtain ⟨b, off, rfl, _, hb, hc⟩ := hs.at j (by omega) w (Below.refl _ _)
  obtain ⟨a1, c1, rfl, _⟩ := hi.slice
  rw [hs4] at h2
  rw [hi4] at h1 ci
  clear hi hs
  go_enter Tryd.func16, Tryd.ntmps16
  go_wp2_with fail
  refine wp_region_calm (by kernel_rfl) (by kernel_rfl) ?_
  repeat (first | (go_big_quiet_step ((go_at_call 17; exact calls_calm_same (ci.out _ (by (repeat (first | exact Below.refl _ _ | (with_reducible assumption) | (with_reducible refine bel_later ?_ _) | (with_reducible refine bel_alloc ?_ _) | (with_reducible refine bel_drew ?_) | (with_reducible refine bel_drewN ?_ _) | (with_reducible refine bel_set ?_ (by first | (simp; done) | (simp; omega) | (dsimp only; omega)) _)))))))) | (refine wpQuiet_step (fun K hK => ?_); go_simp; first | (refine hK _ ?_; clear hK K) | (apply Exists.intro; refine ⟨fun _ => ?_, hK _ ?_⟩; (go_at_call 17; exact calls_calm_same (ci.out _ (by (repeat (first | exact Below.refl _ _ | (with_reducible assumption) | (with_reducible refine bel_later ?_ _) | (with_reducible refine bel_alloc ?_ _) | (with_reducible refine bel_drew ?_) | (with_reducible refine bel_drewN ?_ _) | (with_reducible refine bel_set ?_ (by first | (simp; done) | (simp; omega) | (dsimp only; omega)) _)))))); clear hK K)))
  refine wpQuiet_nil ?_
  intro _ hw'
  obtain ⟨xq, hw''⟩ := hw'
  subst hw''
  go_wp2_with fail
  go_ret
  exact ⟨rfl, by (repeat (first | exact Below.refl _ _ | (with_reducible assumption) | (with_reducible refine bel_later ?_ _) | (with_reducible refine bel_alloc ?_ _) | (with_reducible refine bel_drew ?_) | (with_reducible refine bel_drewN ?_ _) | (with_reducible refine bel_set ?_ (by first | (simp; done) | (simp; omega) | (dsimp only; omega)) _)))⟩
end Go.Proofs.YthbijjpaljjapaaDoor
