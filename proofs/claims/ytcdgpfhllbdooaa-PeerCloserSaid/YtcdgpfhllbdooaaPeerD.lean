
/-
  peer.Rectify of a World: who is ahead, when an address says that it is.
-/
import Derived.Test.YtcdgpfhllbdooaaPeerB
namespace Go.Proofs.Ytcdgpfhllbdooaa
open Go.RowKit
set_option linter.unusedVariables false
set_option linter.unusedSimpArgs false
attribute [local go_sem] later_cell later_frozen later_lt cell_set_off cell_set_block

/-- Who is ahead, when n says that it is. -/
def rectB (L : List Bool) (I : List Int) (id pred n : Int) : Int := if pred == -1 || !livesB L pred || withinB (idOf I n) (idOf I pred) id then n else pred

set_option maxHeartbeats 1000000 in
theorem rect_any (w : World) (v : Value) (L : List Bool) (I : List Int) (hv : WorldAt w v L I) (hm : L.length ≤ maxLen) (hm2 : I.length ≤ maxLen) (id pred n : Int) (a : Option Addr) (ln cap : Nat) :
    Calls Try.prog 17 #[.agg #[.int .u64 id, .int .i64 pred, .slice a ln cap], .int .i64 n, .iface 25 v] w fun e w' => e = .returned (.agg #[.int .u64 id, .int .i64 (rectB L I id pred n), .slice a ln cap]) ∧ Below w.heap.size w w' := by
  have hl := Lib.hid fun (wr : World) (hb : Below w.heap.size w wr) (n : Int) => lives_any wr v L I (hv.below hb) n hm
  have hd := Lib.hid fun (wr : World) (hb : Below w.heap.size w wr) (n : Int) => id_any wr v L I (hv.below hb) n hm2
  obtain ⟨x1, x2, rfl, _⟩ := hv
  have hm1 := method_lives
  have hm2 := method_id
  have hm3 := ahead_lives
  have hm4 := ahead_id
  have hc : (pred == -1) = true ∧ rectB L I id pred n = n ∨ (pred == -1) = false ∧ (livesB L pred = false ∧ rectB L I id pred n = n ∨ livesB L pred = true ∧ (withinB (idOf I n) (idOf I pred) id = true ∧ rectB L I id pred n = n ∨ withinB (idOf I n) (idOf I pred) id = false ∧ rectB L I id pred n = pred)) := by
    unfold rectB
    cases h1 : pred == -1 <;> cases h2 : livesB L pred <;> cases h3 : withinB (idOf I n) (idOf I pred) id <;> simp
  rcases hc with ⟨c1, E⟩ | ⟨c1, ⟨c2, E⟩ | ⟨c2, ⟨c3, E⟩ | ⟨c3, E⟩⟩⟩
  all_goals
    have EE := Lib.hid E
    clear E
    go_enter Try.func17, Try.ntmps17
    go_wp2
    refine wp_region_calm (by kernel_rfl) (by kernel_rfl) ?_
    repeat (first | (go_big_quiet_step ((first | (go_at_call 16; exact calls_calm (hl.out _ (by (repeat (first | exact Below.refl _ _ | (with_reducible assumption) | (with_reducible refine bel_later ?_ _) | (with_reducible refine bel_alloc ?_ _) | (with_reducible refine bel_drew ?_) | (with_reducible refine bel_drewN ?_ _) | (with_reducible refine bel_set ?_ (by first | (simp; done) | (simp; omega) | (dsimp only; omega)) _)))) _)) | (go_at_call 19; exact calls_calm (hd.out _ (by (repeat (first | exact Below.refl _ _ | (with_reducible assumption) | (with_reducible refine bel_later ?_ _) | (with_reducible refine bel_alloc ?_ _) | (with_reducible refine bel_drew ?_) | (with_reducible refine bel_drewN ?_ _) | (with_reducible refine bel_set ?_ (by first | (simp; done) | (simp; omega) | (dsimp only; omega)) _)))) _)) | (go_at_call 24; exact calls_calm_same (within_any _ _ _ _))))) | (refine wpQuiet_step (fun K hK => ?_); go_simp; first | (refine hK _ ?_; clear hK K) | (apply Exists.intro; refine ⟨fun _ => ?_, hK _ ?_⟩; (first | (go_at_call 16; exact calls_calm (hl.out _ (by (repeat (first | exact Below.refl _ _ | (with_reducible assumption) | (with_reducible refine bel_later ?_ _) | (with_reducible refine bel_alloc ?_ _) | (with_reducible refine bel_drew ?_) | (with_reducible refine bel_drewN ?_ _) | (with_reducible refine bel_set ?_ (by first | (simp; done) | (simp; omega) | (dsimp only; omega)) _)))) _)) | (go_at_call 19; exact calls_calm (hd.out _ (by (repeat (first | exact Below.refl _ _ | (with_reducible assumption) | (with_reducible refine bel_later ?_ _) | (with_reducible refine bel_alloc ?_ _) | (with_reducible refine bel_drew ?_) | (with_reducible refine bel_drewN ?_ _) | (with_reducible refine bel_set ?_ (by first | (simp; done) | (simp; omega) | (dsimp only; omega)) _)))) _)) | (go_at_call 24; exact calls_calm_same (within_any _ _ _ _))); clear hK K)))
    refine wpQuiet_nil ?_
    intro _ hw'
    obtain ⟨xq, hw''⟩ := hw'
    subst hw''
    have j0 : xq.world.cell? ⟨w.heap.size + 1, 0, none⟩ = some (.int .u64 0) := by rw [later_cell xq _ _ (by simp)]; simp [go_sem]
    have j1 : xq.world.cell? ⟨w.heap.size + 1, 1, none⟩ = some (.int .i64 0) := by rw [later_cell xq _ _ (by simp)]; simp [go_sem]
    have j2 : xq.world.cell? ⟨w.heap.size + 1, 2, none⟩ = some (.slice none 0 0) := by rw [later_cell xq _ _ (by simp)]; simp [go_sem]
    have k0 : xq.world.cell? ⟨w.heap.size, 0, none⟩ = some (.int .u64 id) := by rw [later_cell xq _ _ (by simp; omega)]; simp [go_sem]
    have k1 : xq.world.cell? ⟨w.heap.size, 1, none⟩ = some (.int .i64 pred) := by rw [later_cell xq _ _ (by simp; omega)]; simp [go_sem]
    have k2 : xq.world.cell? ⟨w.heap.size, 2, none⟩ = some (.slice a ln cap) := by rw [later_cell xq _ _ (by simp; omega)]; simp [go_sem]
    go_wp2
    refine bodyPost_ret (v := .agg #[.int .u64 id, .int .i64 (rectB L I id pred n), .slice a ln cap]) ?_ rfl ⟨rfl, ?_⟩
    · rw [EE.out]; simp [results, Try.results17, go_sem, k0, k1, k2, j0, j1, j2]
    · (repeat (first | exact Below.refl _ _ | (with_reducible assumption) | (with_reducible refine bel_later ?_ _) | (with_reducible refine bel_alloc ?_ _) | (with_reducible refine bel_drew ?_) | (with_reducible refine bel_drewN ?_ _) | (with_reducible refine bel_set ?_ (by first | (simp; done) | (simp; omega) | (dsimp only; omega)) _)))
end Go.Proofs.Ytcdgpfhllbdooaa
