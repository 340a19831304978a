
/-
  What Lives and Id of a ring answer.
  peer.Head, Nearer, Rectify, Follow over a ring.
  peer.Follow: whoever is followed, and whom it knows, three at most.
  What a fault is; what Stabilize leaves of a ring.
  What Stabilize leaves of a ring.
-/
import Derived.Test.YtahiahjhpakeiaaGreatDoorRows
import Derived.Test.YtahiahjhpakeiaaGreatDoorBase
import Derived.LoopTactic
import Derived.Outline
import Derived.BigQuiet
import Derived.Test.YtahiahjhpakeiaaGreatDoorRingA
import Derived.Deep.RegionWith
import Derived.Deep.Cut
namespace Go.Proofs.YtahiahjhpakeiaaGreatDoor
open Go.RowKit Go.Maps
set_option linter.unusedVariables false
set_option linter.unusedSimpArgs false
attribute [local go_sem] later_cell later_frozen later_lt

theorem keyInt : Keyed Tryz.prog 3 := int_keyed Tryz.underlying3
abbrev RAt := RingIs Tryz.prog 3
variable {S : Nat → Prop} {w : World} {rb mb : Nat} {g : Int → Nat} {f : RS}

/-- A member's cells, and its entry in the map. -/
theorem RingIs.at (h : RAt S w rb mb g f) {n : Int} {m : Mem} (hn : f n = some m) (hi : okInt n) :
    w.cell? ⟨g n, 0, none⟩ = some (.bool m.live) ∧ w.cell? ⟨g n, 1, none⟩ = some (.int .u64 m.id) ∧ w.cell? ⟨g n, 2, none⟩ = some (.int .i64 m.pred) ∧ g n < w.heap.size ∧
    (Instr.lookup 130 (.map (some mb)) (.int .i64 n) false).run Tryz.prog w = .ok (.pointer (some ⟨g n, 0, none⟩)) w := by
  obtain ⟨c0, c1, c2, _⟩ := h.mem n m hn
  have := h.look keyInt Tryz.underlying3 Tryz.underlying130 (Tryz.zeroValue129 w) n hi
  rw [show ptrM f g n = some (g n) from by unfold ptrM; rw [hn]; rfl] at this
  exact ⟨c0, c1, c2, (h.memS n m hn).2.1, this⟩
theorem RingIs.out (h : RAt S w rb mb g f) {n : Int} (hn : f n = none) (hi : okInt n) :
    (Instr.lookup 130 (.map (some mb)) (.int .i64 n) false).run Tryz.prog w = .ok (.pointer none) w := by
  have := h.look keyInt Tryz.underlying3 Tryz.underlying130 (Tryz.zeroValue129 w) n hi
  rwa [show ptrM f g n = none from by unfold ptrM; rw [hn]; rfl] at this

theorem lives_at (h : RAt S w rb mb g f) (n : Int) (hi : okInt n) :
    Calls Tryz.prog 20 #[.pointer (some ⟨rb, 0, none⟩), .int .i64 n] w fun e w' => e = .returned (.bool (livesR f n)) ∧ w = w' := by
  have r0 := h.root
  have z0 := h.rbz
  cases hn : f n with
  | none =>
    have e : livesR f n = false := by unfold livesR; rw [hn]
    have hl := h.out hn hi
    have E := Lib.hid e
    clear h hn e
    go_enter Tryz.func20, Tryz.ntmps20
    go_wp2
    go_ret
    exact ⟨by rw [E.out]; first | done | rfl, rfl⟩
  | some m =>
    have e : livesR f n = m.live := by unfold livesR; rw [hn]
    obtain ⟨c0, _, _, hz, hl⟩ := h.at hn hi
    have E := Lib.hid e
    clear h hn e
    go_enter Tryz.func20, Tryz.ntmps20
    go_wp2
    go_ret
    exact ⟨by rw [E.out]; first | done | rfl, rfl⟩
theorem id_at (h : RAt S w rb mb g f) (n : Int) (hi : okInt n) :
    Calls Tryz.prog 43 #[.pointer (some ⟨rb, 0, none⟩), .int .i64 n] w fun e w' => e = .returned (.int .u64 (idR f n)) ∧ w = w' := by
  have r0 := h.root
  have z0 := h.rbz
  cases hn : f n with
  | none =>
    have e : idR f n = 0 := by unfold idR; rw [hn]
    have hl := h.out hn hi
    have E := Lib.hid e
    clear h hn e
    go_enter Tryz.func43, Tryz.ntmps43
    go_wp2
    go_ret
    exact ⟨by rw [E.out]; first | done | rfl, rfl⟩
  | some m =>
    have e : idR f n = m.id := by unfold idR; rw [hn]
    obtain ⟨_, c1, _, hz, hl⟩ := h.at hn hi
    have E := Lib.hid e
    clear h hn e
    go_enter Tryz.func43, Tryz.ntmps43
    go_wp2
    go_ret
    exact ⟨by rw [E.out]; first | done | rfl, rfl⟩
end Go.Proofs.YtahiahjhpakeiaaGreatDoor
namespace Go.Proofs.YtahiahjhpakeiaaGreatDoor
open Go.RowKit Go.Maps
set_option linter.unusedVariables false
set_option linter.unusedSimpArgs false
attribute [local go_sem] later_cell later_frozen later_lt cell_set_off cell_set_block

theorem method_lives (k : Nat) (a : Option Addr) (w : World) : (method (k + 1) 25 (.pointer a) "Lives").run Tryz.prog w = .ok (20, .pointer a) w := by kernel_rfl
theorem method_id (k : Nat) (a : Option Addr) (w : World) : (method (k + 1) 25 (.pointer a) "Id").run Tryz.prog w = .ok (43, .pointer a) w := by kernel_rfl
theorem ahead_lives (k : Nat) (b o : Nat) (w : World) : (nilAhead (k + 1) 25 (.pointer (some ⟨b, o, none⟩)) "Lives").run Tryz.prog w = .ok (some false) w := by kernel_rfl
theorem ahead_id (k : Nat) (b o : Nat) (w : World) : (nilAhead (k + 1) 25 (.pointer (some ⟨b, o, none⟩)) "Id").run Tryz.prog w = .ok (some false) w := by kernel_rfl
variable {S : Nat → Prop} {w : World} {rb mb : Nat} {g : Int → Nat} {f : RS}

theorem indexf_at (h : RAt S w rb mb g f) (l : List Int) (hlm : l.length ≤ 4000000000) (hok : ∀ x ∈ l, okInt x) (lv : Value) (hl : SlAt 0 (fun i => .int .i64 (nth l i)) l.length w lv) :
    Calls Tryz.prog 55 #[lv, .func (.method "Lives") #[.iface 25 (.pointer (some ⟨rb, 0, none⟩))] #[]] w fun e w' => e = .returned (.int .i64 (firstR f l)) ∧ Below w.heap.size w w' := by
  have hlv := Lib.hid fun (wr : World) (hb : Below w.heap.size w wr) (k : Nat) (hk : k < l.length) => lives_at (h.below hb) (nth l k) (hok _ (by rw [nth_eq hk]; exact List.getElem_mem hk))
  have hmm := method_lives
  obtain ⟨a, cap, rfl, _, _, _, hl⟩ := hl
  have hcell := Lib.hid fun (k : Nat) (h : k < l.length) (wr : World) (hB : Below w.heap.size w wr) => (by
    obtain ⟨b, off, rfl, _, hb, hc⟩ := hl.resolve_left (by omega)
    exact ⟨b, off, rfl, (hB.cell (p := ⟨b, off + k, none⟩) hb).trans (hc k h)⟩ : ∃ b off : Nat, a = some ⟨b, off, none⟩ ∧ wr.cell? ⟨b, off + k, none⟩ = some (.int .i64 (nth l k)))
  clear hl h hok
  go_enter Tryz.func55, Tryz.ntmps55
  go_wp2
  go_loopw [5, 8] (fun _ i wr => ∃ k : Nat, k ≤ l.length ∧ i = .int .i64 k ∧ Below w.heap.size w wr ∧ Hid (∀ j, j < k → livesR f (nth l j) = false)) (fun _ i _ => l.length - (intOf i).toNat)
  case atStart => exact ⟨0, Nat.zero_le _, rfl, Below.refl _ _, fun j hj => absurd hj (by omega)⟩
  case round =>
    obtain ⟨k, hk, rfl, hB, hno⟩ := hrel
    by_cases hlt : k < l.length
    · obtain ⟨b, off, rfl, ck⟩ := hcell.out k hlt wr hB
      go_wp2_with (go_at_call 20; refine (hlv.out _ hB k hlt).mono ?_; rintro e w' ⟨rfl, rfl⟩)
      · have h1 : livesR f (nth l k) = true := by assumption
        go_ret
        exact ⟨by rw [firstR_some hlt hno.out h1]; first | done | rfl, hB⟩
      · have h1 : livesR f (nth l k) = false := by assumption
        go_roundw
        case rel =>
          go_light
          refine ⟨k + 1, by omega, by go_num, hB, fun j hj => ?_⟩
          by_cases e : j = k
          · subst e; exact h1
          · exact hno.out j (by omega)
        case measure => go_light; simp [intOf]; omega
    · go_wp2
      go_ret
      obtain rfl : k = l.length := by omega
      exact ⟨by rw [firstR_none hno.out]; first | done | rfl, hB⟩

theorem head_at (h : RAt S w rb mb g f) (l : List Int) (hlm : l.length ≤ 4000000000) (hok : ∀ x ∈ l, okInt x) (lv : Value) (hl : SlAt 0 (fun i => .int .i64 (nth l i)) l.length w lv) (id pred : Int) :
    Calls Tryz.prog 71 #[.agg #[.int .u64 id, .int .i64 pred, lv], .iface 25 (.pointer (some ⟨rb, 0, none⟩))] w fun e w' => e = .returned (.int .i64 (headL f l)) ∧ Below w.heap.size w w' := by
  have hix := Lib.hid fun (wr : World) (hb : Below w.heap.size w wr) => indexf_at (h.below hb) l hlm hok lv (hl.below hb)
  have hmm := ahead_lives
  obtain ⟨a, cap, rfl, _, _, _, hl⟩ := hl
  clear h hok
  rcases headL_at f l with ⟨e1, e2⟩ | ⟨k, hk, e1, e2⟩
  · rw [e1] at hix
    have E := Lib.hid e2
    clear e1 e2
    go_enter Tryz.func71, Tryz.ntmps71
    go_wp2
    refine wp_region_calm (by kernel_rfl) (by kernel_rfl) ?_
    repeat (first | (go_big_quiet_step ((go_at_call 55; exact calls_calm (hix.out _ (by (repeat (first | exact Below.refl _ _ | (with_reducible assumption) | (with_reducible refine bel_later ?_ _) | (with_reducible refine bel_alloc ?_ _) | (with_reducible refine bel_drew ?_) | (with_reducible refine bel_drewN ?_ _) | (with_reducible refine bel_set ?_ (by first | (simp; done) | (simp; omega) | (dsimp only; omega)) _)))))))) | (refine wpQuiet_step (fun K hK => ?_); go_simp; first | (refine hK _ ?_; clear hK K) | (apply Exists.intro; refine ⟨fun _ => ?_, hK _ ?_⟩; (go_at_call 55; exact calls_calm (hix.out _ (by (repeat (first | exact Below.refl _ _ | (with_reducible assumption) | (with_reducible refine bel_later ?_ _) | (with_reducible refine bel_alloc ?_ _) | (with_reducible refine bel_drew ?_) | (with_reducible refine bel_drewN ?_ _) | (with_reducible refine bel_set ?_ (by first | (simp; done) | (simp; omega) | (dsimp only; omega)) _)))))); clear hK K)))
    refine wpQuiet_nil ?_
    intro _ hw'
    obtain ⟨xq, hw''⟩ := hw'
    subst hw''
    go_wp2
    go_ret
    exact ⟨by rw [E.out]; first | done | rfl, by (repeat (first | exact Below.refl _ _ | (with_reducible assumption) | (with_reducible refine bel_later ?_ _) | (with_reducible refine bel_alloc ?_ _) | (with_reducible refine bel_drew ?_) | (with_reducible refine bel_drewN ?_ _) | (with_reducible refine bel_set ?_ (by first | (simp; done) | (simp; omega) | (dsimp only; omega)) _)))⟩
  · rw [e1] at hix
    have E := Lib.hid e2
    obtain ⟨b, off, rfl, _, hb, hc⟩ := hl.resolve_left (by omega)
    have ck := hc k hk
    clear e1 e2 hl hc
    go_enter Tryz.func71, Tryz.ntmps71
    go_wp2
    refine wp_region_calm (by kernel_rfl) (by kernel_rfl) ?_
    repeat (first | (go_big_quiet_step ((go_at_call 55; exact calls_calm (hix.out _ (by (repeat (first | exact Below.refl _ _ | (with_reducible assumption) | (with_reducible refine bel_later ?_ _) | (with_reducible refine bel_alloc ?_ _) | (with_reducible refine bel_drew ?_) | (with_reducible refine bel_drewN ?_ _) | (with_reducible refine bel_set ?_ (by first | (simp; done) | (simp; omega) | (dsimp only; omega)) _)))))))) | (refine wpQuiet_step (fun K hK => ?_); go_simp; first | (refine hK _ ?_; clear hK K) | (apply Exists.intro; refine ⟨fun _ => ?_, hK _ ?_⟩; (go_at_call 55; exact calls_calm (hix.out _ (by (repeat (first | exact Below.refl _ _ | (with_reducible assumption) | (with_reducible refine bel_later ?_ _) | (with_reducible refine bel_alloc ?_ _) | (with_reducible refine bel_drew ?_) | (with_reducible refine bel_drewN ?_ _) | (with_reducible refine bel_set ?_ (by first | (simp; done) | (simp; omega) | (dsimp only; omega)) _)))))); clear hK K)))
    refine wpQuiet_nil ?_
    intro _ hw'
    obtain ⟨xq, hw''⟩ := hw'
    subst hw''
    go_wp2
    go_ret
    exact ⟨by rw [E.out]; first | done | rfl, by (repeat (first | exact Below.refl _ _ | (with_reducible assumption) | (with_reducible refine bel_later ?_ _) | (with_reducible refine bel_alloc ?_ _) | (with_reducible refine bel_drew ?_) | (with_reducible refine bel_drewN ?_ _) | (with_reducible refine bel_set ?_ (by first | (simp; done) | (simp; omega) | (dsimp only; omega)) _)))⟩

set_option maxHeartbeats 1000000 in
theorem rect_at (h : RAt S w rb mb g f) (id pred n : Int) (hp : okInt pred) (hn : okInt n) (a : Option Addr) (ln cap : Nat) :
    Calls Tryz.prog 107 #[.agg #[.int .u64 id, .int .i64 pred, .slice a ln cap], .int .i64 n, .iface 25 (.pointer (some ⟨rb, 0, none⟩))] w fun e w' => e = .returned (.agg #[.int .u64 id, .int .i64 (rectR f id pred n), .slice a ln cap]) ∧ Below w.heap.size w w' := by
  have hl := Lib.hid fun (wr : World) (hb : Below w.heap.size w wr) => lives_at (h.below hb) pred hp
  have hd := Lib.hid fun (wr : World) (hb : Below w.heap.size w wr) => id_at (h.below hb) pred hp
  have hd2 := Lib.hid fun (wr : World) (hb : Below w.heap.size w wr) => id_at (h.below hb) n hn
  have hm1 := method_lives
  have hm2 := method_id
  have hm3 := ahead_lives
  have hm4 := ahead_id
  have hc : (pred == -1) = true ∧ rectR f id pred n = n ∨ (pred == -1) = false ∧ (livesR f pred = false ∧ rectR f id pred n = n ∨ livesR f pred = true ∧ (withinB (idR f n) (idR f pred) id = true ∧ rectR f id pred n = n ∨ withinB (idR f n) (idR f pred) id = false ∧ rectR f id pred n = pred)) := by
    unfold rectR
    cases h1 : pred == -1 <;> cases h2 : livesR f pred <;> cases h3 : withinB (idR f n) (idR f pred) id <;> simp
  clear h hp hn
  rcases hc with ⟨c1, E⟩ | ⟨c1, ⟨c2, E⟩ | ⟨c2, ⟨c3, E⟩ | ⟨c3, E⟩⟩⟩
  all_goals
    have EE := Lib.hid E
    clear E
    go_enter Tryz.func107, Tryz.ntmps107
    go_wp2
    refine wp_region_calm (by kernel_rfl) (by kernel_rfl) ?_
    repeat (first | (go_big_quiet_step ((first | (go_at_call 20; exact calls_calm_same (hl.out _ (by (repeat (first | exact Below.refl _ _ | (with_reducible assumption) | (with_reducible refine bel_later ?_ _) | (with_reducible refine bel_alloc ?_ _) | (with_reducible refine bel_drew ?_) | (with_reducible refine bel_drewN ?_ _) | (with_reducible refine bel_set ?_ (by first | (simp; done) | (simp; omega) | (dsimp only; omega)) _)))))) | (go_at_call_of 43 (Value.int .i64 pred); exact calls_calm_same (hd.out _ (by (repeat (first | exact Below.refl _ _ | (with_reducible assumption) | (with_reducible refine bel_later ?_ _) | (with_reducible refine bel_alloc ?_ _) | (with_reducible refine bel_drew ?_) | (with_reducible refine bel_drewN ?_ _) | (with_reducible refine bel_set ?_ (by first | (simp; done) | (simp; omega) | (dsimp only; omega)) _)))))) | (go_at_call_of 43 (Value.int .i64 n); exact calls_calm_same (hd2.out _ (by (repeat (first | exact Below.refl _ _ | (with_reducible assumption) | (with_reducible refine bel_later ?_ _) | (with_reducible refine bel_alloc ?_ _) | (with_reducible refine bel_drew ?_) | (with_reducible refine bel_drewN ?_ _) | (with_reducible refine bel_set ?_ (by first | (simp; done) | (simp; omega) | (dsimp only; omega)) _)))))) | (go_at_call 72; exact calls_calm_same (within_any _ _ _ _))))) | (refine wpQuiet_step (fun K hK => ?_); go_simp; first | (refine hK _ ?_; clear hK K) | (apply Exists.intro; refine ⟨fun _ => ?_, hK _ ?_⟩; (first | (go_at_call 20; exact calls_calm_same (hl.out _ (by (repeat (first | exact Below.refl _ _ | (with_reducible assumption) | (with_reducible refine bel_later ?_ _) | (with_reducible refine bel_alloc ?_ _) | (with_reducible refine bel_drew ?_) | (with_reducible refine bel_drewN ?_ _) | (with_reducible refine bel_set ?_ (by first | (simp; done) | (simp; omega) | (dsimp only; omega)) _)))))) | (go_at_call_of 43 (Value.int .i64 pred); exact calls_calm_same (hd.out _ (by (repeat (first | exact Below.refl _ _ | (with_reducible assumption) | (with_reducible refine bel_later ?_ _) | (with_reducible refine bel_alloc ?_ _) | (with_reducible refine bel_drew ?_) | (with_reducible refine bel_drewN ?_ _) | (with_reducible refine bel_set ?_ (by first | (simp; done) | (simp; omega) | (dsimp only; omega)) _)))))) | (go_at_call_of 43 (Value.int .i64 n); exact calls_calm_same (hd2.out _ (by (repeat (first | exact Below.refl _ _ | (with_reducible assumption) | (with_reducible refine bel_later ?_ _) | (with_reducible refine bel_alloc ?_ _) | (with_reducible refine bel_drew ?_) | (with_reducible refine bel_drewN ?_ _) | (with_reducible refine bel_set ?_ (by first | (simp; done) | (simp; omega) | (dsimp only; omega)) _)))))) | (go_at_call 72; exact calls_calm_same (within_any _ _ _ _))); clear hK K)))
    refine wpQuiet_nil ?_
    intro _ hw'
    obtain ⟨xq, hw''⟩ := hw'
    subst hw''
    have j0 : xq.world.cell? ⟨w.heap.size + 1, 0, none⟩ = some (.int .u64 0) := by rw [later_cell xq _ _ (by simp)]; simp [go_sem]
    have j1 : xq.world.cell? ⟨w.heap.size + 1, 1, none⟩ = some (.int .i64 0) := by rw [later_cell xq _ _ (by simp)]; simp [go_sem]
    have j2 : xq.world.cell? ⟨w.heap.size + 1, 2, none⟩ = some (.slice none 0 0) := by rw [later_cell xq _ _ (by simp)]; simp [go_sem]
    have k0 : xq.world.cell? ⟨w.heap.size, 0, none⟩ = some (.int .u64 id) := by rw [later_cell xq _ _ (by simp; omega)]; simp [go_sem]
    have k1 : xq.world.cell? ⟨w.heap.size, 1, none⟩ = some (.int .i64 pred) := by rw [later_cell xq _ _ (by simp; omega)]; simp [go_sem]
    have k2 : xq.world.cell? ⟨w.heap.size, 2, none⟩ = some (.slice a ln cap) := by rw [later_cell xq _ _ (by simp; omega)]; simp [go_sem]
    go_wp2
    refine bodyPost_ret (v := .agg #[.int .u64 id, .int .i64 (rectR f id pred n), .slice a ln cap]) ?_ rfl ⟨rfl, ?_⟩
    · rw [EE.out]; simp [results, Tryz.results107, go_sem, k0, k1, k2, j0, j1, j2]
    · (repeat (first | exact Below.refl _ _ | (with_reducible assumption) | (with_reducible refine bel_later ?_ _) | (with_reducible refine bel_alloc ?_ _) | (with_reducible refine bel_drew ?_) | (with_reducible refine bel_drewN ?_ _) | (with_reducible refine bel_set ?_ (by first | (simp; done) | (simp; omega) | (dsimp only; omega)) _)))

theorem near_at (h : RAt S w rb mb g f) (q fr to : Int) (hq : okInt q) (ht : okInt to) :
    Calls Tryz.prog 106 #[.int .i64 q, .int .u64 fr, .int .i64 to, .iface 25 (.pointer (some ⟨rb, 0, none⟩))] w fun e w' => e = .returned (.bool (nearR f q fr to)) ∧ Below w.heap.size w w' := by
  have hl := Lib.hid (lives_at h q hq)
  have hd := Lib.hid (id_at h q hq)
  have hd2 := Lib.hid (id_at h to ht)
  have hm1 := method_lives
  have hm2 := method_id
  have hm3 := ahead_lives
  have hm4 := ahead_id
  have hc : (q != -1) = false ∧ nearR f q fr to = false ∨ (q != -1) = true ∧ (livesR f q = false ∧ nearR f q fr to = false ∨ livesR f q = true ∧ nearR f q fr to = withinB (idR f q) fr (idR f to)) := by
    unfold nearR
    cases h1 : q != -1 <;> cases h2 : livesR f q <;> simp
  clear h hq ht
  rcases hc with ⟨c1, E⟩ | ⟨c1, ⟨c2, E⟩ | ⟨c2, E⟩⟩
  all_goals
    have EE := Lib.hid E
    clear E
    go_enter Tryz.func106, Tryz.ntmps106
    go_wp2_with (first | (go_at_call 20; refine hl.out.mono ?_; rintro e w' ⟨rfl, rfl⟩) | (go_at_call_of 43 (Value.int .i64 q); refine hd.out.mono ?_; rintro e w' ⟨rfl, rfl⟩) | (go_at_call_of 43 (Value.int .i64 to); refine hd2.out.mono ?_; rintro e w' ⟨rfl, rfl⟩) | (go_at_call 72; refine (within_any _ _ _ _).mono ?_; rintro e w' ⟨rfl, rfl⟩))
    go_ret
    exact ⟨by rw [EE.out]; first | done | rfl, Below.refl _ _⟩
end Go.Proofs.YtahiahjhpakeiaaGreatDoor
namespace Go.Proofs.YtahiahjhpakeiaaGreatDoor
open Go.RowKit Go.Maps
set_option linter.unusedVariables false
set_option linter.unusedSimpArgs false
attribute [local go_sem] later_cell later_frozen later_lt

noncomputable def intI : TypeInfo := (Tryz.prog.info? 3).get (by kernel_rfl)
theorem intI_at : Tryz.prog.info? 3 = some intI := by kernel_rfl

theorem follow_at (w : World) (s id pred : Int) (lv : Value) (l : List Int) (hl : SlAt 0 (fun i => .int .i64 (nth l i)) l.length w lv) (hlm : l.length ≤ 1000000) :
    Calls Tryz.prog 105 #[.int .i64 s, .agg #[.int .u64 id, .int .i64 pred, lv]] w fun e w' => ∃ v, e = .returned v ∧ SlAt w.heap.size (fun i => .int .i64 (nth (followL s l) i)) (followL s l).length w' v ∧ Below w.heap.size w w' := by
  obtain ⟨i0, hi, hz0, hz1, hz2⟩ : ∃ i0, Tryz.prog.info? 3 = some i0 ∧ i0.zero = some (Value.int .i64 0) ∧ i0.size = 1 ∧ i0.bytes = 8 := ⟨intI, intI_at, by kernel_rfl, by kernel_rfl, by kernel_rfl⟩
  unfold followL
  go_enter Tryz.func105, Tryz.ntmps105
  obtain ⟨la, lc, rfl, hlv⟩ : ∃ a c, lv = .slice a l.length c ∧ True := by obtain ⟨a, c, rfl, _⟩ := hl; exact ⟨a, c, rfl, trivial⟩
  go_wp2_with (at_builtin; refine wpList_app rfl _ _ 36 rfl w.heap.size 3 i0 (.int .i64 0) 8 Tryz.underlying36 hi hz0 hz1 hz2 rfl _ 1 [.int .i64 s] rfl (own_lit _ [.int .i64 s] 3 _ _ 1 ?c7 rfl ?c0 ?c1) _ _ _ _ rfl (hl.below ?c2) ?c3 ?c4 ?c5 ?c6 ?_)
  case c7 => simp
  case c0 => simp
  case c1 => simp [maxLen]
  case c2 => (repeat (first | exact Below.refl _ _ | (with_reducible assumption) | (with_reducible refine bel_later ?_ _) | (with_reducible refine bel_alloc ?_ _) | (with_reducible refine bel_drew ?_) | (with_reducible refine bel_drewN ?_ _) | (with_reducible refine bel_set ?_ (by first | (simp; done) | (simp; omega) | (dsimp only; omega)) _)))
  case c3 => intro i; rfl
  case c4 => simp only [maxLen]; omega
  case c5 => omega
  case c6 => simp; omega
  intro v' w1 hown hg
  have hsl := own_slAt hown
  have hB : Below w.heap.size w w1 := ((bel_alloc (bel_alloc (Below.refl _ _) _) _)).grown hg (by simp; omega) (fun k hk => by simp [Value.ownBlock] at hk; omega)
  have hv := hsl.parts.resolve_left (by omega)
  obtain ⟨_, g, off, cap, hv, hcap, hm, hg1, hg2, hc⟩ := hv
  have H := Lib.hid hsl
  clear hown hsl hc hg
  rw [hv] at H ⊢
  clear hv
  unfold maxLen at hm
  have he : ∀ i, i < 1 + l.length → i < 3 → (Value.int IntKind.i64 s :: List.map (fun i => Value.int IntKind.i64 (nth l i)) (List.range l.length)).getD i undef = .int .i64 (nth ((s :: l).take 3) i) := by
    intro i h1 h2
    rw [map_range_nth, ← List.map_cons (f := Value.int IntKind.i64), getD_nth _ _ _ (by simp; omega), nth_take h2]
  have HE := Lib.hid he
  clear he
  by_cases h3 : 2 < l.length
  · have hlen : Hid (((s :: l).take 3).length = 3) := by
      have e : ((s :: l).take 3).length = 3 := by simp; omega
      exact e
    go_wp2
    go_ret
    exact ⟨_, rfl, by rw [hlen.out]; exact (H.out.take (m := 3) (by omega)).congr fun i hi => HE.out i (by omega) hi, hB⟩
  · have hlen : Hid (((s :: l).take 3).length = 1 + l.length) := by
      have e : ((s :: l).take 3).length = 1 + l.length := by simp; omega
      exact e
    go_wp2
    go_ret
    exact ⟨_, rfl, by rw [hlen.out]; exact H.out.congr fun i hi => HE.out i hi (by omega), hB⟩
end Go.Proofs.YtahiahjhpakeiaaGreatDoor
namespace Go.Proofs.YtahiahjhpakeiaaGreatDoor
open Go.RowKit Go.Maps
set_option linter.unusedVariables false
set_option linter.unusedSimpArgs false
attribute [local go_sem] later_cell later_frozen later_lt

/-- An error of this layer: a fault of a code. -/
def IsErr (B : Nat) (w : World) (v : Value) (c : Int) : Prop :=
  ∃ b : Nat, v = .iface 146 (.pointer (some ⟨b, 0, none⟩)) ∧ B ≤ b ∧ b < w.heap.size ∧ w.cell? ⟨b, 2, none⟩ = some (.iface 109 (.int .i64 c))
theorem IsErr.below {B : Nat} {w w' : World} {v : Value} {c : Int} (h : IsErr B w v c) (hb : Below w.heap.size w w') : IsErr B w' v c := by
  obtain ⟨b, rfl, h1, h2, h3⟩ := h
  exact ⟨b, rfl, h1, Nat.lt_of_lt_of_le h2 hb.size, (hb.cell (p := ⟨b, 2, none⟩) h2).trans h3⟩
theorem fault_any (w : World) (c : Int) : Calls Tryz.prog 70 #[.int .i64 c] w fun e w' => ∃ v, e = .returned v ∧ IsErr w.heap.size w' v c ∧ Below w.heap.size w w' := by
  go_enter Tryz.func70, Tryz.ntmps70
  go_wp2
  go_ret
  refine ⟨_, rfl, ⟨w.heap.size, rfl, Nat.le_refl _, by simp, by simp [go_sem]⟩, bel_alloc (Below.refl _ _) _⟩

theorem set_at {w : World} {b o : Nat} {u v : Value} (h : w.cell? ⟨b, o, none⟩ = some u) : (w.setCell ⟨b, o, none⟩ v).cell? ⟨b, o, none⟩ = some v := World.cell?_setCell_same _ _ _ h
section
variable {S : Nat → Prop} {w w1 w2 : World} {rb mb : Nat} {g : Int → Nat} {f : RS}
/-- Blocks that are not the ring's own. -/
abbrev Off (S : Nat → Prop) (rb mb : Nat) (g : Int → Nat) (f : RS) (b : Nat) : Prop := S b ∧ b ≠ rb ∧ b ≠ mb ∧ ∀ j m, f j = some m → b ≠ g j
theorem RingIs.fresh (h : RAt S w rb mb g f) {b : Nat} (hb : w.heap.size ≤ b) : Off S rb mb g f b :=
  ⟨h.up b hb, by have := h.rbz; omega, by have := h.mbz; omega, fun j m e => by have := (h.memS j m e).2.1; omega⟩
theorem RingIs.newSl (h : RAt S w rb mb g f) {l : List Int} {w' : World} {v : Value} (hv : SlAt w.heap.size (fun i => .int .i64 (nth l i)) l.length w' v) : SlIn (Off S rb mb g f) l w' v :=
  SlIn.of_slAt hv fun b hb => h.fresh hb
/-- A member's list is another one. -/
theorem RingIs.setSucc (h : RAt S w rb mb g f) {n : Int} {m : Mem} (hn : f n = some m) {l : List Int} {v : Value} (hv : SlIn (Off S rb mb g f) l w v) (hd : Dom (setM f n ⟨m.live, m.id, m.pred, l⟩)) :
    RAt S (w.setCell ⟨g n, 3, none⟩ v) rb mb g (setM f n ⟨m.live, m.id, m.pred, l⟩) := by
  obtain ⟨c0, c1, c2, u, c3, hu⟩ := h.mem n m hn
  refine h.write hn (size_set _ _ _) (fun b hb => Below.heap_setCell _ _ _ _ hb) (fun o => by rw [World.frozen?_setCell]; exact (h.memS n m hn).2.2.2.2 o) hd (v := v) ?_ ?_ ?_ ?_ hv
  · rw [cell_set_off _ _ _ _ _ (by decide)]; exact c0
  · rw [cell_set_off _ _ _ _ _ (by decide)]; exact c1
  · rw [cell_set_off _ _ _ _ _ (by decide)]; exact c2
  · exact set_at c3
/-- What a member knows is another thing. -/
theorem RingIs.setPred (h : RAt S w rb mb g f) {n : Int} {m : Mem} (hn : f n = some m) {q : Int} {v : Value} (c3 : w.cell? ⟨g n, 3, none⟩ = some v) (hv : SlIn (Off S rb mb g f) m.succ w v) (hd : Dom (setM f n ⟨m.live, m.id, q, m.succ⟩)) :
    RAt S (((w.setCell ⟨g n, 1, none⟩ (.int .u64 m.id)).setCell ⟨g n, 2, none⟩ (.int .i64 q)).setCell ⟨g n, 3, none⟩ v) rb mb g (setM f n ⟨m.live, m.id, q, m.succ⟩) := by
  obtain ⟨c0, c1, c2, _⟩ := h.mem n m hn
  refine h.write hn (by rw [size_set, size_set, size_set]) (fun b hb => ?_) (fun o => by rw [World.frozen?_setCell, World.frozen?_setCell, World.frozen?_setCell]; exact (h.memS n m hn).2.2.2.2 o) hd (v := v) ?_ ?_ ?_ ?_ hv
  · rw [Below.heap_setCell _ _ _ _ hb, Below.heap_setCell _ _ _ _ hb, Below.heap_setCell _ _ _ _ hb]
  · rw [cell_set_off _ _ _ _ _ (by decide), cell_set_off _ _ _ _ _ (by decide), cell_set_off _ _ _ _ _ (by decide)]; exact c0
  · rw [cell_set_off _ _ _ _ _ (by decide), cell_set_off _ _ _ _ _ (by decide)]; exact set_at c1
  · rw [cell_set_off _ _ _ _ _ (by decide)]; exact set_at (by rw [cell_set_off _ _ _ _ _ (by decide)]; exact c2)
  · exact set_at (by rw [cell_set_off _ _ _ _ _ (by decide), cell_set_off _ _ _ _ _ (by decide)]; exact c3)
end

theorem okInt_dom {n : Int} (h0 : -1 ≤ n) (h1 : n < 32) : okInt n := by
  unfold okInt Lit.wf
  rw [Bool.and_eq_true, decide_eq_true_eq, decide_eq_true_eq]
  exact ⟨by show (-9223372036854775808 : Int) ≤ n; omega, by show n ≤ (9223372036854775807 : Int); omega⟩
end Go.Proofs.YtahiahjhpakeiaaGreatDoor
namespace Go.Proofs.YtahiahjhpakeiaaGreatDoor
open Go.RowKit Go.Maps
set_option linter.unusedVariables false
set_option linter.unusedSimpArgs false
attribute [local go_sem] later_cell later_frozen later_lt

theorem dom_succ {f : RS} (h : Dom f) {n : Int} {m : Mem} (hn : f n = some m) {l : List Int} (h1 : l.length ≤ 3) (h2 : ∀ x ∈ l, 0 ≤ x ∧ x < 32) : Dom (setM f n ⟨m.live, m.id, m.pred, l⟩) := fun j mj e => by
  by_cases ej : j = n
  · subst ej; rw [setM_same] at e; cases e
    obtain ⟨a, b, c, _, d, _⟩ := h j m hn
    exact ⟨a, b, c, h1, d, h2⟩
  · rw [setM_ne f _ ej] at e; exact h j mj e
theorem dom_pred {f : RS} (h : Dom f) {n : Int} {m : Mem} (hn : f n = some m) {q : Int} (h1 : -1 ≤ q) (h2 : q < 32) : Dom (setM f n ⟨m.live, m.id, q, m.succ⟩) := fun j mj e => by
  by_cases ej : j = n
  · subst ej; rw [setM_same] at e; cases e
    obtain ⟨a, b, c, d, _, k⟩ := h j m hn
    exact ⟨a, b, c, d, ⟨h1, h2⟩, k⟩
  · rw [setM_ne f _ ej] at e; exact h j mj e
theorem follow_len (s : Int) (l : List Int) : (followL s l).length ≤ 3 := by unfold followL; rw [List.length_take]; omega
theorem follow_mem {s : Int} {l : List Int} (hs : 0 ≤ s ∧ s < 32) (hl : ∀ x ∈ l, 0 ≤ x ∧ x < 32) : ∀ x ∈ followL s l, 0 ≤ x ∧ x < 32 := fun x hx => by
  rcases List.mem_cons.1 (List.mem_of_mem_take hx) with rfl | h
  · exact hs
  · exact hl x h
variable {S : Nat → Prop} {w : World} {rb mb : Nat} {g : Int → Nat} {f : RS}

theorem setM_setM (f : RS) (n : Int) (m m' : Mem) : setM (setM f n m) n m' = setM f n m' := funext fun j => by unfold setM; split <;> rfl
theorem setM_get {f : RS} {n s : Int} {m ms : Mem} {l : List Int} (hn : f n = some m) (hs : f s = some ms) :
    ∃ m3, setM f n ⟨m.live, m.id, m.pred, l⟩ s = some m3 ∧ m3.live = ms.live ∧ m3.id = ms.id ∧ m3.pred = ms.pred ∧ (s ≠ n → m3 = ms) := by
  by_cases e : s = n
  · subst e
    rw [hn] at hs
    cases hs
    exact ⟨_, setM_same _ _ _, rfl, rfl, rfl, fun h => absurd rfl h⟩
  · exact ⟨ms, by rw [setM_ne f _ e]; exact hs, rfl, rfl, rfl, fun _ => rfl⟩
theorem lives_setM {f : RS} {n : Int} {m : Mem} {l : List Int} {q : Int} (hn : f n = some m) (j : Int) : livesR (setM f n ⟨m.live, m.id, q, l⟩) j = livesR f j := by
  rw [livesR_set]; split
  · rename_i e; rw [e]; unfold livesR; rw [hn]
  · rfl
theorem id_setM {f : RS} {n : Int} {m : Mem} {l : List Int} {q : Int} (hn : f n = some m) (j : Int) : idR (setM f n ⟨m.live, m.id, q, l⟩) j = idR f j := by
  rw [idR_set]; split
  · rename_i e; rw [e]; unfold idR; rw [hn]
  · rfl
theorem near_congr {f f' : RS} (h1 : ∀ j, livesR f' j = livesR f j) (h2 : ∀ j, idR f' j = idR f j) (q fr to : Int) : nearR f' q fr to = nearR f q fr to := by unfold nearR; rw [h1, h2, h2]
theorem rect_congr {f f' : RS} (h1 : ∀ j, livesR f' j = livesR f j) (h2 : ∀ j, idR f' j = idR f j) (id pred n : Int) : rectR f' id pred n = rectR f id pred n := by unfold rectR; rw [h1, h2, h2]
theorem near_ne {f : RS} {q n s : Int} (h : nearR f q (idR f n) s = true) : q ≠ n ∧ livesR f q = true := by
  unfold nearR at h
  rw [Bool.and_eq_true, Bool.and_eq_true] at h
  refine ⟨fun e => ?_, h.1.2⟩
  have := h.2
  rw [e] at this
  unfold withinB at this
  split at this <;> simp at this
theorem rect_dom {f : RS} {id pred n : Int} (hp : -1 ≤ pred ∧ pred < 32) (hn : 0 ≤ n ∧ n < 32) : -1 ≤ rectR f id pred n ∧ rectR f id pred n < 32 := by
  unfold rectR; split <;> omega
/-- The member that looked has its list; who is told has its own. -/
theorem stabR_eq {f : RS} {n T : Int} {m mT m' : Mem} {l : List Int} (hn : f n = some m) (hT : stabT f n = T) (hmT : f T = some mT) (hl : l = followL T mT.succ) (hm' : setM f n ⟨m.live, m.id, m.pred, l⟩ T = some m') :
    setM (setM f n ⟨m.live, m.id, m.pred, l⟩) T ⟨m'.live, m'.id, rectR (setM f n ⟨m.live, m.id, m.pred, l⟩) m'.id m'.pred n, m'.succ⟩ = stabR f n := by
  have h1 : stab1 f n = setM f n ⟨m.live, m.id, m.pred, l⟩ := by
    unfold stab1
    rw [hT, hl]
    unfold livesR idR predR succR
    rw [hn, hmT]
  obtain ⟨m3, e, e1, e2, e3, _⟩ := setM_get (l := l) hn hmT
  rw [hm'] at e
  cases e
  have hsu : succR (setM f n ⟨m.live, m.id, m.pred, l⟩) T = m'.succ := by unfold succR; rw [hm']
  unfold stabR
  rw [hT, h1, hsu, rect_congr (lives_setM hn) (id_setM hn), e1, e2, e3]
  unfold livesR idR predR
  rw [hmT]

def StabPost (S : Nat → Prop) (w : World) (rb mb : Nat) (g : Int → Nat) (f : RS) (n : Int) (e : Ending) (w' : World) : Prop :=
  if livesR f n = true then e = .returned .nilIface ∧ RAt S w' rb mb g (stabR f n) ∧ Kept S w w' else ∃ v, e = .returned v ∧ IsErr w.heap.size w' v 6 ∧ Below w.heap.size w w'
theorem stabT_no {f : RS} {n : Int} {m : Mem} (hn : f n = some m) {s : Int} (hs : s = headL f m.succ) {ms : Mem} (hms : f s = some ms) (h : nearR f ms.pred m.id s = false) : stabT f n = s := by
  have e1 : headR f n = s := by unfold headR succR; rw [hn, hs]
  unfold stabT
  rw [e1, show predR f s = ms.pred from by unfold predR; rw [hms], show idR f n = m.id from by unfold idR; rw [hn], h]
  rfl
theorem stabT_yes {f : RS} {n : Int} {m : Mem} (hn : f n = some m) {s : Int} (hs : s = headL f m.succ) {ms : Mem} (hms : f s = some ms) (h : nearR f ms.pred m.id s = true) : stabT f n = ms.pred := by
  have e1 : headR f n = s := by unfold headR succR; rw [hn, hs]
  unfold stabT
  rw [e1, show predR f s = ms.pred from by unfold predR; rw [hms], show idR f n = m.id from by unfold idR; rw [hn], h]
  rfl
set_option maxRecDepth 100000 in
set_option maxHeartbeats 4000000 in
theorem stab_at (h : RAt S w rb mb g f) (n : Int) (hi : okInt n) (hh : Heads f) :
    Calls Tryz.prog 49 #[.pointer (some ⟨rb, 0, none⟩), .int .i64 n] w (StabPost S w rb mb g f n) := by
  have r0 := h.root
  have z0 := h.rbz
  have cl := Lib.hid (lives_at h n hi)
  cases hlv : livesR f n with
  | false =>
    rw [hlv] at cl
    have HP : Hid (∀ e w', (∃ v, e = .returned v ∧ IsErr w.heap.size w' v 6 ∧ Below w.heap.size w w') → StabPost S w rb mb g f n e w') := fun e w' hx => by unfold StabPost; rw [hlv]; exact hx
    clear h hlv hh
    go_enter Tryz.func49, Tryz.ntmps49
    go_wp2_with (first | (go_at_call 20; refine cl.out.mono ?_; rintro e w' ⟨rfl, rfl⟩) | (go_at_call 70; refine (fault_any _ _).mono ?_; rintro e w' ⟨v, rfl, hE, hB⟩))
    go_ret
    exact HP.out _ _ ⟨_, rfl, hE, hB⟩
  | true =>
    obtain ⟨m, hn, hml⟩ := livesR_some hlv
    rw [hlv] at cl
    obtain ⟨c0, c1, c2, zn, ln⟩ := h.at hn hi
    obtain ⟨_, _, _, v3, c3, hv3⟩ := h.mem n m hn
    obtain ⟨s1, s2, s3, s4, s5⟩ := h.memS n m hn
    obtain ⟨a3, q3, rfl, _⟩ : ∃ a c, v3 = .slice a m.succ.length c ∧ True := by obtain ⟨a, c, rfl, _⟩ := hv3; exact ⟨a, c, rfl, trivial⟩
    have hd := h.dom n m hn
    have ch := Lib.hid (head_at h m.succ (by omega) (fun x hx => okInt_dom (by have := hd.2.2.2.2.2 x hx; omega) (by have := hd.2.2.2.2.2 x hx; omega)) _ hv3.slAt m.id m.pred)
    have H := Lib.hid h
    have HH := Lib.hid hh
    have HN := Lib.hid hn
    have HP : Hid (∀ e w', (e = .returned .nilIface ∧ RAt S w' rb mb g (stabR f n) ∧ Kept S w w') → StabPost S w rb mb g f n e w') := fun e w' hx => by unfold StabPost; rw [if_pos hlv]; exact hx
    have hs : livesR f (headL f m.succ) = true := by have := hh n hlv; rwa [show headR f n = headL f m.succ from by unfold headR succR; rw [hn]] at this
    have HS := Lib.hid hs
    clear h hh hn hlv hv3 hd hs
    go_enter Tryz.func49, Tryz.ntmps49
    go_wp2_with (go_at_call 20; refine cl.out.mono ?_; rintro e w' ⟨rfl, rfl⟩)
    refine ch.out.mono ?_
    rintro e w1 ⟨rfl, hB1⟩
    have h1 := H.out.below hB1
    obtain ⟨s, hsE⟩ : ∃ s, s = headL f m.succ := ⟨_, rfl⟩
    rw [← hsE] at HS ⊢
    have HSE := Lib.hid hsE
    clear hsE
    obtain ⟨ms, hms, hmsl⟩ := livesR_some HS.out
    have hds := h1.dom s ms hms
    have oks : okInt s := okInt_dom (by omega) (by omega)
    obtain ⟨d0, d1, d2, zs, ls⟩ := h1.at hms oks
    obtain ⟨_, _, _, vs, d3, hvs⟩ := h1.mem s ms hms
    obtain ⟨aS, qS, rfl, _⟩ : ∃ a c, vs = .slice a ms.succ.length c ∧ True := by obtain ⟨a, c, rfl, _⟩ := hvs; exact ⟨a, c, rfl, trivial⟩
    have r1 := h1.root
    have z1 := h1.rbz
    have cf := Lib.hid (follow_at w1 s ms.id ms.pred _ ms.succ hvs.slAt (by omega))
    have H1 := Lib.hid h1
    have hds6 := Lib.hid hds.2.2.2.2.2
    clear h1 hvs
    go_wp2_with fail
    refine cf.out.mono ?_
    rintro e w2 ⟨v2, rfl, hv2, hB2⟩
    obtain ⟨a2, q2, rfl, _⟩ := hv2.slice
    have h2 := H1.out.below hB2
    obtain ⟨c0, c1, c2, zn, ln⟩ := h2.at HN.out hi
    obtain ⟨_, _, _, v3, c3, hv3⟩ := h2.mem n m HN.out
    have fz := (h2.memS n m HN.out).2.2.2.2 3
    have r2 := h2.root
    have z2 := h2.rbz
    have hl2 := H1.out.newSl hv2
    have h3 := h2.setSucc HN.out hl2 (dom_succ h2.dom HN.out (follow_len _ _) (follow_mem (by omega) hds6.out))
    have K3 := Lib.hid ((((Kept.refl S w).below hB1).below hB2).set (p := ⟨g n, 3, none⟩) s1 (.slice a2 (followL s ms.succ).length q2))
    have H2 := Lib.hid h2
    have H3 := Lib.hid h3
    have HL2 := Lib.hid hl2
    clear h2 h3 hv2 hl2 hv3
    go_upto_region 6 with (fail)
    obtain ⟨w3, hw3⟩ : ∃ w3, w3 = w2.setCell ⟨g n, 3, none⟩ (.slice a2 (followL s ms.succ).length q2) := ⟨_, rfl⟩
    rw [← hw3] at H3 K3 ⊢
    clear hw3
    clear c0 c1 c2 c3 zn ln fz r2 z2
    obtain ⟨m3, hm3, e1, e2, e3, e4⟩ := setM_get (l := followL s ms.succ) HN.out hms
    have cn := near_at H3.out ms.pred m.id s (okInt_dom (by omega) (by omega)) oks
    rw [near_congr (lives_setM HN.out) (id_setM HN.out)] at cn
    have CN := Lib.hid cn
    obtain ⟨n0, n1, n2, zn3, ln3⟩ := H3.out.at (setM_same f n _) hi
    obtain ⟨t0, t1, t2, zt3, lt3⟩ := H3.out.at hm3 oks
    rw [e3] at t2
    have r3 := H3.out.root
    have z3 := H3.out.rbz
    have E3 := Lib.hid (And.intro hm3 (And.intro e1 (And.intro e2 (And.intro e3 e4))))
    clear cn hm3 e1 e2 e3 e4
    dsimp only at n0 n1 n2
    go_wp2_with fail
    refine CN.out.mono ?_
    rintro e w4 ⟨rfl, hB4⟩
    have hn32 := Lib.hid (show 0 ≤ n ∧ n < 32 from livesR_dom H.out.dom (by unfold livesR; rw [HN.out]; exact hml))
    have K4 := Lib.hid (K3.out.below hB4)
    have H4 := Lib.hid (H3.out.below hB4)
    clear n0 n1 n2 zn3 ln3 t0 t1 t2 zt3 lt3 r3 z3
    cases hq : nearR f ms.pred m.id s with
    | false =>
      obtain ⟨f3, hf3⟩ : ∃ f3, f3 = setM f n ⟨m.live, m.id, m.pred, followL s ms.succ⟩ := ⟨_, rfl⟩
      have hfin := Lib.hid (stabR_eq HN.out (stabT_no HN.out HSE.out hms hq) hms rfl E3.out.1)
      have HZ := H4
      have hmz := Lib.hid E3.out.1
      have KZ := K4
      have okT := oks
      rw [← hf3] at hfin HZ hmz
      clear hq hf3
      go_upto_region 10 with (fail)
      obtain ⟨a0, a1, a2c, zT, lT⟩ := HZ.out.at hmz.out okT
      obtain ⟨_, _, _, vz, a3c, hvz⟩ := HZ.out.mem s m3 hmz.out
      obtain ⟨sT, _, _, _, fzT⟩ := HZ.out.memS s m3 hmz.out
      have fz1 := fzT 1
      have fz2 := fzT 2
      have fz3 := fzT 3
      obtain ⟨az, qz, rfl, _⟩ : ∃ a c, vz = .slice a (m3).succ.length c ∧ True := by obtain ⟨a, c, rfl, _⟩ := hvz; exact ⟨a, c, rfl, trivial⟩
      have hdz := HZ.out.dom s m3 hmz.out
      have rz := HZ.out.root
      have zz := HZ.out.rbz
      have cr := Lib.hid fun (wr : World) (hb : Below (w4).heap.size w4 wr) => rect_at (HZ.out.below hb) (m3).id (m3).pred n (okInt_dom (by omega) (by omega)) hi az (m3).succ.length qz
      have HV := Lib.hid hvz
      have hrd := Lib.hid (rect_dom (f := f3) (id := (m3).id) hdz.2.2.2.2.1 hn32.out)
      have lTx : ∀ x : Later w4, (Instr.lookup 130 (.map (some mb)) (.int .i64 s) false).run Tryz.prog x.world = .ok (.pointer (some ⟨g s, 0, none⟩)) x.world := fun x => ((HZ.out.below x.below).at hmz.out okT).2.2.2.2
      clear hdz hvz fzT
      refine wp_region_calm_tail (21) (by kernel_rfl) (by kernel_rfl) ?_
      simp only [List.take_succ_cons, List.take_zero, List.drop_succ_cons, List.drop_zero]
      repeat (first | (go_big_quiet_step ((go_at_call 107; exact calls_calm (cr.out _ (by (repeat (first | exact Below.refl _ _ | (with_reducible assumption) | (with_reducible refine bel_later ?_ _) | (with_reducible refine bel_alloc ?_ _) | (with_reducible refine bel_drew ?_) | (with_reducible refine bel_drewN ?_ _) | (with_reducible refine bel_set ?_ (by first | (simp; done) | (simp; omega) | (dsimp only; omega)) _)))))))) | (refine wpQuiet_step (fun K hK => ?_); go_simp; first | (refine hK _ ?_; clear hK K) | (apply Exists.intro; refine ⟨fun _ => ?_, hK _ ?_⟩; (go_at_call 107; exact calls_calm (cr.out _ (by (repeat (first | exact Below.refl _ _ | (with_reducible assumption) | (with_reducible refine bel_later ?_ _) | (with_reducible refine bel_alloc ?_ _) | (with_reducible refine bel_drew ?_) | (with_reducible refine bel_drewN ?_ _) | (with_reducible refine bel_set ?_ (by first | (simp; done) | (simp; omega) | (dsimp only; omega)) _)))))); clear hK K)))
      refine wpQuiet_nil ?_
      intro _ hw'
      obtain ⟨xq, hw''⟩ := hw'
      subst hw''
      have LZ := HZ.out.below xq.below
      have j1 := (LZ.at hmz.out okT).2.1
      have j2 := (LZ.at hmz.out okT).2.2.1
      have j3 : xq.world.cell? ⟨g s, 3, none⟩ = some (.slice az (m3).succ.length qz) := by rw [later_cell xq _ _ zT]; exact a3c
      have y1 := (LZ.memS s m3 hmz.out).2.2.2.2 1
      have y2 := (LZ.memS s m3 hmz.out).2.2.2.2 2
      have y3 := (LZ.memS s m3 hmz.out).2.2.2.2 3
      have HLZ := Lib.hid LZ
      clear LZ
      go_wp2_with fail
      go_ret
      refine HP.out _ _ ⟨rfl, ?_, ?_⟩
      · rw [← hfin.out]
        exact HLZ.out.setPred hmz.out j3 (HV.out.imp (fun _ _ h => h) xq.below.size (fun b hb _ => xq.below.block b hb)) (dom_pred HLZ.out.dom hmz.out hrd.out.1 hrd.out.2)
      · exact (((KZ.out.later xq).set sT _).set sT _).set sT _
    | true =>
      have hq2 : nearR f ms.pred (idR f n) s = true := by rw [show idR f n = m.id from by unfold idR; rw [HN.out]]; exact hq
      obtain ⟨hqn, hql⟩ := near_ne hq2
      obtain ⟨mq, hmq, _⟩ := livesR_some hql
      have okT := okInt_dom hds.2.2.2.2.1.1 hds.2.2.2.2.1.2
      have hdq := H.out.dom _ mq hmq
      have hdq6 := Lib.hid hdq.2.2.2.2.2
      have hmq4 : setM f n ⟨m.live, m.id, m.pred, followL s ms.succ⟩ ms.pred = some mq := by rw [setM_ne f _ hqn]; exact hmq
      obtain ⟨p0, p1, p2, zq, lq⟩ := H4.out.at hmq4 okT
      obtain ⟨_, _, _, vq, p3, hvq⟩ := H4.out.mem _ mq hmq4
      obtain ⟨aq, cq, rfl, _⟩ : ∃ a c, vq = .slice a mq.succ.length c ∧ True := by obtain ⟨a, c, rfl, _⟩ := hvq; exact ⟨a, c, rfl, trivial⟩
      have r4 := H4.out.root
      have z4 := H4.out.rbz
      have cf2 := Lib.hid (follow_at w4 ms.pred mq.id mq.pred _ mq.succ hvq.slAt (by omega))
      have hfin := Lib.hid (stabR_eq HN.out (stabT_yes HN.out HSE.out hms hq) hmq rfl (setM_ne f ⟨m.live, m.id, m.pred, followL ms.pred mq.succ⟩ hqn ▸ hmq))
      have HMQ := Lib.hid hmq
      have HQN := Lib.hid hqn
      clear hq hq2 hqn hql hmq4 hvq hmq
      go_wp2_with fail
      refine cf2.out.mono ?_
      rintro e w5 ⟨v5, rfl, hv5, hB5⟩
      obtain ⟨a5, q5, rfl, _⟩ := hv5.slice
      have h5 := H4.out.below hB5
      obtain ⟨c0, c1, c2, zn, ln⟩ := h5.at (setM_same f n _) hi
      obtain ⟨_, _, _, v6, c3, hv6⟩ := h5.mem n _ (setM_same f n _)
      have fz := (h5.memS n _ (setM_same f n _)).2.2.2.2 3
      have r5 := h5.root
      have z5 := h5.rbz
      have hl5 := H4.out.newSl hv5
      have h6 := h5.setSucc (setM_same f n _) hl5 (dom_succ h5.dom (setM_same f n _) (follow_len _ _) (follow_mem (by omega) hdq6.out))
      dsimp only at h6 c0 c1 c2
      rw [setM_setM] at h6
      have K6 := Lib.hid ((K4.out.below hB5).set (p := ⟨g n, 3, none⟩) s1 (.slice a5 (followL ms.pred mq.succ).length q5))
      have H6 := Lib.hid h6
      clear h5 h6 hv5 hl5 hv6 p0 p1 p2 p3 zq lq r4 z4
      go_upto_region 10 with (fail)
      obtain ⟨w6, hw6⟩ : ∃ w6, w6 = w5.setCell ⟨g n, 3, none⟩ (.slice a5 (followL ms.pred mq.succ).length q5) := ⟨_, rfl⟩
      rw [← hw6] at H6 K6 ⊢
      clear hw6
      obtain ⟨f3, hf3⟩ : ∃ f3, f3 = setM f n ⟨m.live, m.id, m.pred, followL ms.pred mq.succ⟩ := ⟨_, rfl⟩
      have hmz := Lib.hid (show setM f n ⟨m.live, m.id, m.pred, followL ms.pred mq.succ⟩ ms.pred = some mq from by rw [setM_ne f _ HQN.out]; exact HMQ.out)
      have HZ := H6
      have KZ := K6
      rw [← hf3] at hfin HZ hmz
      clear hf3
      obtain ⟨a0, a1, a2c, zT, lT⟩ := HZ.out.at hmz.out okT
      obtain ⟨_, _, _, vz, a3c, hvz⟩ := HZ.out.mem ms.pred mq hmz.out
      obtain ⟨sT, _, _, _, fzT⟩ := HZ.out.memS ms.pred mq hmz.out
      have fz1 := fzT 1
      have fz2 := fzT 2
      have fz3 := fzT 3
      obtain ⟨az, qz, rfl, _⟩ : ∃ a c, vz = .slice a (mq).succ.length c ∧ True := by obtain ⟨a, c, rfl, _⟩ := hvz; exact ⟨a, c, rfl, trivial⟩
      have hdz := HZ.out.dom ms.pred mq hmz.out
      have rz := HZ.out.root
      have zz := HZ.out.rbz
      have cr := Lib.hid fun (wr : World) (hb : Below (w6).heap.size w6 wr) => rect_at (HZ.out.below hb) (mq).id (mq).pred n (okInt_dom (by omega) (by omega)) hi az (mq).succ.length qz
      have HV := Lib.hid hvz
      have hrd := Lib.hid (rect_dom (f := f3) (id := (mq).id) hdz.2.2.2.2.1 hn32.out)
      have lTx : ∀ x : Later w6, (Instr.lookup 130 (.map (some mb)) (.int .i64 ms.pred) false).run Tryz.prog x.world = .ok (.pointer (some ⟨g ms.pred, 0, none⟩)) x.world := fun x => ((HZ.out.below x.below).at hmz.out okT).2.2.2.2
      clear hdz hvz fzT
      refine wp_region_calm_tail (21) (by kernel_rfl) (by kernel_rfl) ?_
      simp only [List.take_succ_cons, List.take_zero, List.drop_succ_cons, List.drop_zero]
      repeat (first | (go_big_quiet_step ((go_at_call 107; exact calls_calm (cr.out _ (by (repeat (first | exact Below.refl _ _ | (with_reducible assumption) | (with_reducible refine bel_later ?_ _) | (with_reducible refine bel_alloc ?_ _) | (with_reducible refine bel_drew ?_) | (with_reducible refine bel_drewN ?_ _) | (with_reducible refine bel_set ?_ (by first | (simp; done) | (simp; omega) | (dsimp only; omega)) _)))))))) | (refine wpQuiet_step (fun K hK => ?_); go_simp; first | (refine hK _ ?_; clear hK K) | (apply Exists.intro; refine ⟨fun _ => ?_, hK _ ?_⟩; (go_at_call 107; exact calls_calm (cr.out _ (by (repeat (first | exact Below.refl _ _ | (with_reducible assumption) | (with_reducible refine bel_later ?_ _) | (with_reducible refine bel_alloc ?_ _) | (with_reducible refine bel_drew ?_) | (with_reducible refine bel_drewN ?_ _) | (with_reducible refine bel_set ?_ (by first | (simp; done) | (simp; omega) | (dsimp only; omega)) _)))))); clear hK K)))
      refine wpQuiet_nil ?_
      intro _ hw'
      obtain ⟨xq, hw''⟩ := hw'
      subst hw''
      have LZ := HZ.out.below xq.below
      have j1 := (LZ.at hmz.out okT).2.1
      have j2 := (LZ.at hmz.out okT).2.2.1
      have j3 : xq.world.cell? ⟨g ms.pred, 3, none⟩ = some (.slice az (mq).succ.length qz) := by rw [later_cell xq _ _ zT]; exact a3c
      have y1 := (LZ.memS ms.pred mq hmz.out).2.2.2.2 1
      have y2 := (LZ.memS ms.pred mq hmz.out).2.2.2.2 2
      have y3 := (LZ.memS ms.pred mq hmz.out).2.2.2.2 3
      have HLZ := Lib.hid LZ
      clear LZ
      go_wp2_with fail
      go_ret
      refine HP.out _ _ ⟨rfl, ?_, ?_⟩
      · rw [← hfin.out]
        exact HLZ.out.setPred hmz.out j3 (HV.out.imp (fun _ _ h => h) xq.below.size (fun b hb _ => xq.below.block b hb)) (dom_pred HLZ.out.dom hmz.out hrd.out.1 hrd.out.2)
      · exact (((KZ.out.later xq).set sT _).set sT _).set sT _
end Go.Proofs.YtahiahjhpakeiaaGreatDoor
