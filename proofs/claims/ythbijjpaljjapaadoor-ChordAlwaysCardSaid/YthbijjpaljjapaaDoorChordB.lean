
/-
  peer.Head, Nearer, Rectify, Follow over a ring.
-/
import Derived.Test.YthbijjpaljjapaaDoorChordA
import Derived.Test.YthbijjpaljjapaaDoorRingA
import Derived.Deep.RegionWith
namespace Go.Proofs.YthbijjpaljjapaaDoor
open Go.RowKit Go.Maps
set_option linter.unusedVariables false
set_option linter.unusedSimpArgs false
attribute [local go_sem] later_cell later_frozen later_lt cell_set_off cell_set_block

theorem method_lives (k : Nat) (a : Option Addr) (w : World) : (method (k + 1) 24 (.pointer a) "Lives").run Tryd.prog w = .ok (21, .pointer a) w := by kernel_rfl
theorem method_id (k : Nat) (a : Option Addr) (w : World) : (method (k + 1) 24 (.pointer a) "Id").run Tryd.prog w = .ok (22, .pointer a) w := by kernel_rfl
theorem ahead_lives (k : Nat) (b o : Nat) (w : World) : (nilAhead (k + 1) 24 (.pointer (some ⟨b, o, none⟩)) "Lives").run Tryd.prog w = .ok (some false) w := by kernel_rfl
theorem ahead_id (k : Nat) (b o : Nat) (w : World) : (nilAhead (k + 1) 24 (.pointer (some ⟨b, o, none⟩)) "Id").run Tryd.prog w = .ok (some false) w := by kernel_rfl
variable {S : Nat → Prop} {w : World} {rb mb : Nat} {g : Int → Nat} {f : RS}

theorem indexf_at (h : RAt S w rb mb g f) (l : List Int) (hlm : l.length ≤ 4000000000) (hok : ∀ x ∈ l, okInt x) (lv : Value) (hl : SlAt 0 (fun i => .int .i64 (nth l i)) l.length w lv) :
    Calls Tryd.prog 40 #[lv, .func (.method "Lives") #[.iface 24 (.pointer (some ⟨rb, 0, none⟩))] #[]] w fun e w' => e = .returned (.int .i64 (firstR f l)) ∧ Below w.heap.size w w' := by
  have hlv := Lib.hid fun (wr : World) (hb : Below w.heap.size w wr) (k : Nat) (hk : k < l.length) => lives_at (h.below hb) (nth l k) (hok _ (by rw [nth_eq hk]; exact List.getElem_mem hk))
  have hmm := method_lives
  obtain ⟨a, cap, rfl, _, _, _, hl⟩ := hl
  have hcell := Lib.hid fun (k : Nat) (h : k < l.length) (wr : World) (hB : Below w.heap.size w wr) => (by
    obtain ⟨b, off, rfl, _, hb, hc⟩ := hl.resolve_left (by omega)
    exact ⟨b, off, rfl, (hB.cell (p := ⟨b, off + k, none⟩) hb).trans (hc k h)⟩ : ∃ b off : Nat, a = some ⟨b, off, none⟩ ∧ wr.cell? ⟨b, off + k, none⟩ = some (.int .i64 (nth l k)))
  clear hl h hok
  go_enter Tryd.func40, Tryd.ntmps40
  go_wp2
  go_loopw [5, 8] (fun _ i wr => ∃ k : Nat, k ≤ l.length ∧ i = .int .i64 k ∧ Below w.heap.size w wr ∧ Hid (∀ j, j < k → livesR f (nth l j) = false)) (fun _ i _ => l.length - (intOf i).toNat)
  case atStart => exact ⟨0, Nat.zero_le _, rfl, Below.refl _ _, fun j hj => absurd hj (by omega)⟩
  case round =>
    obtain ⟨k, hk, rfl, hB, hno⟩ := hrel
    by_cases hlt : k < l.length
    · obtain ⟨b, off, rfl, ck⟩ := hcell.out k hlt wr hB
      go_wp2_with (go_at_call 21; refine (hlv.out _ hB k hlt).mono ?_; rintro e w' ⟨rfl, rfl⟩)
      · have h1 : livesR f (nth l k) = true := by assumption
        go_ret
        exact ⟨by rw [firstR_some hlt hno.out h1]; first | done | rfl, hB⟩
      · have h1 : livesR f (nth l k) = false := by assumption
        go_roundw
        case rel =>
          go_light
          refine ⟨k + 1, by omega, by go_num, hB, fun j hj => ?_⟩
          by_cases e : j = k
          · subst e; exact h1
          · exact hno.out j (by omega)
        case measure => go_light; simp [intOf]; omega
    · go_wp2
      go_ret
      obtain rfl : k = l.length := by omega
      exact ⟨by rw [firstR_none hno.out]; first | done | rfl, hB⟩

theorem head_at (h : RAt S w rb mb g f) (l : List Int) (hlm : l.length ≤ 4000000000) (hok : ∀ x ∈ l, okInt x) (lv : Value) (hl : SlAt 0 (fun i => .int .i64 (nth l i)) l.length w lv) (id pred : Int) :
    Calls Tryd.prog 24 #[.agg #[.int .u64 id, .int .i64 pred, lv], .iface 24 (.pointer (some ⟨rb, 0, none⟩))] w fun e w' => e = .returned (.int .i64 (headL f l)) ∧ Below w.heap.size w w' := by
  have hix := Lib.hid fun (wr : World) (hb : Below w.heap.size w wr) => indexf_at (h.below hb) l hlm hok lv (hl.below hb)
  have hmm := ahead_lives
  obtain ⟨a, cap, rfl, _, _, _, hl⟩ := hl
  clear h hok
  rcases headL_at f l with ⟨e1, e2⟩ | ⟨k, hk, e1, e2⟩
  · rw [e1] at hix
    have E := Lib.hid e2
    clear e1 e2
    go_enter Tryd.func24, Tryd.ntmps24
    go_wp2
    refine wp_region_calm (by kernel_rfl) (by kernel_rfl) ?_
    repeat (first | (go_big_quiet_step ((go_at_call 40; exact calls_calm (hix.out _ (by (repeat (first | exact Below.refl _ _ | (with_reducible assumption) | (with_reducible refine bel_later ?_ _) | (with_reducible refine bel_alloc ?_ _) | (with_reducible refine bel_drew ?_) | (with_reducible refine bel_drewN ?_ _) | (with_reducible refine bel_set ?_ (by first | (simp; done) | (simp; omega) | (dsimp only; omega)) _)))))))) | (refine wpQuiet_step (fun K hK => ?_); go_simp; first | (refine hK _ ?_; clear hK K) | (apply Exists.intro; refine ⟨fun _ => ?_, hK _ ?_⟩; (go_at_call 40; exact calls_calm (hix.out _ (by (repeat (first | exact Below.refl _ _ | (with_reducible assumption) | (with_reducible refine bel_later ?_ _) | (with_reducible refine bel_alloc ?_ _) | (with_reducible refine bel_drew ?_) | (with_reducible refine bel_drewN ?_ _) | (with_reducible refine bel_set ?_ (by first | (simp; done) | (simp; omega) | (dsimp only; omega)) _)))))); clear hK K)))
    refine wpQuiet_nil ?_
    intro _ hw'
    obtain ⟨xq, hw''⟩ := hw'
    subst hw''
    go_wp2
    go_ret
    exact ⟨by rw [E.out]; first | done | rfl, by (repeat (first | exact Below.refl _ _ | (with_reducible assumption) | (with_reducible refine bel_later ?_ _) | (with_reducible refine bel_alloc ?_ _) | (with_reducible refine bel_drew ?_) | (with_reducible refine bel_drewN ?_ _) | (with_reducible refine bel_set ?_ (by first | (simp; done) | (simp; omega) | (dsimp only; omega)) _)))⟩
  · rw [e1] at hix
    have E := Lib.hid e2
    obtain ⟨b, off, rfl, _, hb, hc⟩ := hl.resolve_left (by omega)
    have ck := hc k hk
    clear e1 e2 hl hc
    go_enter Tryd.func24, Tryd.ntmps24
    go_wp2
    refine wp_region_calm (by kernel_rfl) (by kernel_rfl) ?_
    repeat (first | (go_big_quiet_step ((go_at_call 40; exact calls_calm (hix.out _ (by (repeat (first | exact Below.refl _ _ | (with_reducible assumption) | (with_reducible refine bel_later ?_ _) | (with_reducible refine bel_alloc ?_ _) | (with_reducible refine bel_drew ?_) | (with_reducible refine bel_drewN ?_ _) | (with_reducible refine bel_set ?_ (by first | (simp; done) | (simp; omega) | (dsimp only; omega)) _)))))))) | (refine wpQuiet_step (fun K hK => ?_); go_simp; first | (refine hK _ ?_; clear hK K) | (apply Exists.intro; refine ⟨fun _ => ?_, hK _ ?_⟩; (go_at_call 40; exact calls_calm (hix.out _ (by (repeat (first | exact Below.refl _ _ | (with_reducible assumption) | (with_reducible refine bel_later ?_ _) | (with_reducible refine bel_alloc ?_ _) | (with_reducible refine bel_drew ?_) | (with_reducible refine bel_drewN ?_ _) | (with_reducible refine bel_set ?_ (by first | (simp; done) | (simp; omega) | (dsimp only; omega)) _)))))); clear hK K)))
    refine wpQuiet_nil ?_
    intro _ hw'
    obtain ⟨xq, hw''⟩ := hw'
    subst hw''
    go_wp2
    go_ret
    exact ⟨by rw [E.out]; first | done | rfl, by (repeat (first | exact Below.refl _ _ | (with_reducible assumption) | (with_reducible refine bel_later ?_ _) | (with_reducible refine bel_alloc ?_ _) | (with_reducible refine bel_drew ?_) | (with_reducible refine bel_drewN ?_ _) | (with_reducible refine bel_set ?_ (by first | (simp; done) | (simp; omega) | (dsimp only; omega)) _)))⟩

set_option maxHeartbeats 1000000 in
theorem rect_at (h : RAt S w rb mb g f) (id pred n : Int) (hp : okInt pred) (hn : okInt n) (a : Option Addr) (ln cap : Nat) :
    Calls Tryd.prog 29 #[.agg #[.int .u64 id, .int .i64 pred, .slice a ln cap], .int .i64 n, .iface 24 (.pointer (some ⟨rb, 0, none⟩))] w fun e w' => e = .returned (.agg #[.int .u64 id, .int .i64 (rectR f id pred n), .slice a ln cap]) ∧ Below w.heap.size w w' := by
  have hl := Lib.hid fun (wr : World) (hb : Below w.heap.size w wr) => lives_at (h.below hb) pred hp
  have hd := Lib.hid fun (wr : World) (hb : Below w.heap.size w wr) => id_at (h.below hb) pred hp
  have hd2 := Lib.hid fun (wr : World) (hb : Below w.heap.size w wr) => id_at (h.below hb) n hn
  have hm1 := method_lives
  have hm2 := method_id
  have hm3 := ahead_lives
  have hm4 := ahead_id
  have hc : (pred == -1) = true ∧ rectR f id pred n = n ∨ (pred == -1) = false ∧ (livesR f pred = false ∧ rectR f id pred n = n ∨ livesR f pred = true ∧ (withinB (idR f n) (idR f pred) id = true ∧ rectR f id pred n = n ∨ withinB (idR f n) (idR f pred) id = false ∧ rectR f id pred n = pred)) := by
    unfold rectR
    cases h1 : pred == -1 <;> cases h2 : livesR f pred <;> cases h3 : withinB (idR f n) (idR f pred) id <;> simp
  clear h hp hn
  rcases hc with ⟨c1, E⟩ | ⟨c1, ⟨c2, E⟩ | ⟨c2, ⟨c3, E⟩ | ⟨c3, E⟩⟩⟩
  all_goals
    have EE := Lib.hid E
    clear E
    go_enter Tryd.func29, Tryd.ntmps29
    go_wp2
    refine wp_region_calm (by kernel_rfl) (by kernel_rfl) ?_
    repeat (first | (go_big_quiet_step ((first | (go_at_call 21; exact calls_calm_same (hl.out _ (by (repeat (first | exact Below.refl _ _ | (with_reducible assumption) | (with_reducible refine bel_later ?_ _) | (with_reducible refine bel_alloc ?_ _) | (with_reducible refine bel_drew ?_) | (with_reducible refine bel_drewN ?_ _) | (with_reducible refine bel_set ?_ (by first | (simp; done) | (simp; omega) | (dsimp only; omega)) _)))))) | (go_at_call_of 22 (Value.int .i64 pred); exact calls_calm_same (hd.out _ (by (repeat (first | exact Below.refl _ _ | (with_reducible assumption) | (with_reducible refine bel_later ?_ _) | (with_reducible refine bel_alloc ?_ _) | (with_reducible refine bel_drew ?_) | (with_reducible refine bel_drewN ?_ _) | (with_reducible refine bel_set ?_ (by first | (simp; done) | (simp; omega) | (dsimp only; omega)) _)))))) | (go_at_call_of 22 (Value.int .i64 n); exact calls_calm_same (hd2.out _ (by (repeat (first | exact Below.refl _ _ | (with_reducible assumption) | (with_reducible refine bel_later ?_ _) | (with_reducible refine bel_alloc ?_ _) | (with_reducible refine bel_drew ?_) | (with_reducible refine bel_drewN ?_ _) | (with_reducible refine bel_set ?_ (by first | (simp; done) | (simp; omega) | (dsimp only; omega)) _)))))) | (go_at_call 25; exact calls_calm_same (within_any _ _ _ _))))) | (refine wpQuiet_step (fun K hK => ?_); go_simp; first | (refine hK _ ?_; clear hK K) | (apply Exists.intro; refine ⟨fun _ => ?_, hK _ ?_⟩; (first | (go_at_call 21; exact calls_calm_same (hl.out _ (by (repeat (first | exact Below.refl _ _ | (with_reducible assumption) | (with_reducible refine bel_later ?_ _) | (with_reducible refine bel_alloc ?_ _) | (with_reducible refine bel_drew ?_) | (with_reducible refine bel_drewN ?_ _) | (with_reducible refine bel_set ?_ (by first | (simp; done) | (simp; omega) | (dsimp only; omega)) _)))))) | (go_at_call_of 22 (Value.int .i64 pred); exact calls_calm_same (hd.out _ (by (repeat (first | exact Below.refl _ _ | (with_reducible assumption) | (with_reducible refine bel_later ?_ _) | (with_reducible refine bel_alloc ?_ _) | (with_reducible refine bel_drew ?_) | (with_reducible refine bel_drewN ?_ _) | (with_reducible refine bel_set ?_ (by first | (simp; done) | (simp; omega) | (dsimp only; omega)) _)))))) | (go_at_call_of 22 (Value.int .i64 n); exact calls_calm_same (hd2.out _ (by (repeat (first | exact Below.refl _ _ | (with_reducible assumption) | (with_reducible refine bel_later ?_ _) | (with_reducible refine bel_alloc ?_ _) | (with_reducible refine bel_drew ?_) | (with_reducible refine bel_drewN ?_ _) | (with_reducible refine bel_set ?_ (by first | (simp; done) | (simp; omega) | (dsimp only; omega)) _)))))) | (go_at_call 25; exact calls_calm_same (within_any _ _ _ _))); clear hK K)))
    refine wpQuiet_nil ?_
    intro _ hw'
    obtain ⟨xq, hw''⟩ := hw'
    subst hw''
    have j0 : xq.world.cell? ⟨w.heap.size + 1, 0, none⟩ = some (.int .u64 0) := by rw [later_cell xq _ _ (by simp)]; simp [go_sem]
    have j1 : xq.world.cell? ⟨w.heap.size + 1, 1, none⟩ = some (.int .i64 0) := by rw [later_cell xq _ _ (by simp)]; simp [go_sem]
    have j2 : xq.world.cell? ⟨w.heap.size + 1, 2, none⟩ = some (.slice none 0 0) := by rw [later_cell xq _ _ (by simp)]; simp [go_sem]
    have k0 : xq.world.cell? ⟨w.heap.size, 0, none⟩ = some (.int .u64 id) := by rw [later_cell xq _ _ (by simp; omega)]; simp [go_sem]
    have k1 : xq.world.cell? ⟨w.heap.size, 1, none⟩ = some (.int .i64 pred) := by rw [later_cell xq _ _ (by simp; omega)]; simp [go_sem]
    have k2 : xq.world.cell? ⟨w.heap.size, 2, none⟩ = some (.slice a ln cap) := by rw [later_cell xq _ _ (by simp; omega)]; simp [go_sem]
    go_wp2
    refine bodyPost_ret (v := .agg #[.int .u64 id, .int .i64 (rectR f id pred n), .slice a ln cap]) ?_ rfl ⟨rfl, ?_⟩
    · rw [EE.out]; simp [results, Tryd.results29, go_sem, k0, k1, k2, j0, j1, j2]
    · (repeat (first | exact Below.refl _ _ | (with_reducible assumption) | (with_reducible refine bel_later ?_ _) | (with_reducible refine bel_alloc ?_ _) | (with_reducible refine bel_drew ?_) | (with_reducible refine bel_drewN ?_ _) | (with_reducible refine bel_set ?_ (by first | (simp; done) | (simp; omega) | (dsimp only; omega)) _)))

theorem near_at (h : RAt S w rb mb g f) (q fr to : Int) (hq : okInt q) (ht : okInt to) :
    Calls Tryd.prog 28 #[.int .i64 q, .int .u64 fr, .int .i64 to, .iface 24 (.pointer (some ⟨rb, 0, none⟩))] w fun e w' => e = .returned (.bool (nearR f q fr to)) ∧ Below w.heap.size w w' := by
  have hl := Lib.hid (lives_at h q hq)
  have hd := Lib.hid (id_at h q hq)
  have hd2 := Lib.hid (id_at h to ht)
  have hm1 := method_lives
  have hm2 := method_id
  have hm3 := ahead_lives
  have hm4 := ahead_id
  have hc : (q != -1) = false ∧ nearR f q fr to = false ∨ (q != -1) = true ∧ (livesR f q = false ∧ nearR f q fr to = false ∨ livesR f q = true ∧ nearR f q fr to = withinB (idR f q) fr (idR f to)) := by
    unfold nearR
    cases h1 : q != -1 <;> cases h2 : livesR f q <;> simp
  clear h hq ht
  rcases hc with ⟨c1, E⟩ | ⟨c1, ⟨c2, E⟩ | ⟨c2, E⟩⟩
  all_goals
    have EE := Lib.hid E
    clear E
    go_enter Tryd.func28, Tryd.ntmps28
    go_wp2_with (first | (go_at_call 21; refine hl.out.mono ?_; rintro e w' ⟨rfl, rfl⟩) | (go_at_call_of 22 (Value.int .i64 q); refine hd.out.mono ?_; rintro e w' ⟨rfl, rfl⟩) | (go_at_call_of 22 (Value.int .i64 to); refine hd2.out.mono ?_; rintro e w' ⟨rfl, rfl⟩) | (go_at_call 25; refine (within_any _ _ _ _).mono ?_; rintro e w' ⟨rfl, rfl⟩))
    go_ret
    exact ⟨by rw [EE.out]; first | done | rfl, Below.refl _ _⟩
end Go.Proofs.YthbijjpaljjapaaDoor
