/-
  What Lives and Id of a ring answer. peer.Head, Nearer, Rectify, Follow over a ring. peer.Follow: whoever is followed, and whom it knows, three at most. What a fault is; what Stabilize leaves of a ring. What Stabilize leaves of a ring. The document's ring in memory: four rows of 32, read as the members by their addresses. No program is named here. The reference's Dist, Within, Sorted.
-/
import Derived.Test.YtahiahjhpakeiaaGreatDoorKept1
import Derived.Test.YtahiahjhpakeiaaGreatDoorKept2
import Derived.Test.YtahiahjhpakeiaaGreatDoorRows
import Derived.LoopTactic
import Derived.Outline
import Derived.BigQuiet
import Derived.Deep.RegionWith
import Derived.Deep.Cut
section
namespace Go.Proofs.YtahiahjhpakeiaaGreatDoor
open Go.RowKit Go.Maps
set_option linter.unusedVariables false
set_option linter.unusedSimpArgs false
attribute [local go_sem] later_cell later_frozen later_lt

theorem keyInt : Keyed Tryz.prog 3 := int_keyed Tryz.underlying3
abbrev RAt := RingIs Tryz.prog 3
variable {S : Nat → Prop} {w : World} {rb mb : Nat} {g : Int → Nat} {f : RS}

/-- A member's cells, and its entry in the map. -/
theorem RingIs.at (h : RAt S w rb mb g f) {n : Int} {m : Mem} (hn : f n = some m) (hi : okInt n) :
    w.cell? ⟨g n, 0, none⟩ = some (.bool m.live) ∧ w.cell? ⟨g n, 1, none⟩ = some (.int .u64 m.id) ∧ w.cell? ⟨g n, 2, none⟩ = some (.int .i64 m.pred) ∧ g n < w.heap.size ∧
    (Instr.lookup 130 (.map (some mb)) (.int .i64 n) false).run Tryz.prog w = .ok (.pointer (some ⟨g n, 0, none⟩)) w := by
  obtain ⟨c0, c1, c2, _⟩ := h.mem n m hn
  have := h.look keyInt Tryz.underlying3 Tryz.underlying130 (Tryz.zeroValue129 w) n hi
  rw [show ptrM f g n = some (g n) from by unfold ptrM; rw [hn]; rfl] at this
  exact ⟨c0, c1, c2, (h.memS n m hn).2.1, this⟩
theorem RingIs.out (h : RAt S w rb mb g f) {n : Int} (hn : f n = none) (hi : okInt n) :
    (Instr.lookup 130 (.map (some mb)) (.int .i64 n) false).run Tryz.prog w = .ok (.pointer none) w := by
  have := h.look keyInt Tryz.underlying3 Tryz.underlying130 (Tryz.zeroValue129 w) n hi
  rwa [show ptrM f g n = none from by unfold ptrM; rw [hn]; rfl] at this

theorem lives_at (h : RAt S w rb mb g f) (n : Int) (hi : okInt n) :
    Calls Tryz.prog 20 #[.pointer (some ⟨rb, 0, none⟩), .int .i64 n] w fun e w' => e = .returned (.bool (livesR f n)) ∧ w = w' := by
  have r0 := h.root
  have z0 := h.rbz
  cases hn : f n with
  | none =>
    have e : livesR f n = false := by unfold livesR; rw [hn]
    have hl := h.out hn hi
    have E := Lib.hid e
    clear h hn e
    go_enter Tryz.func20, Tryz.ntmps20
    go_wp2
    go_ret
    exact ⟨by rw [E.out]; first | done | rfl, rfl⟩
  | some m =>
    have e : livesR f n = m.live := by unfold livesR; rw [hn]
    obtain ⟨c0, _, _, hz, hl⟩ := h.at hn hi
    have E := Lib.hid e
    clear h hn e
    go_enter Tryz.func20, Tryz.ntmps20
    go_wp2
    go_ret
    exact ⟨by rw [E.out]; first | done | rfl, rfl⟩
theorem id_at (h : RAt S w rb mb g f) (n : Int) (hi : okInt n) :
    Calls Tryz.prog 43 #[.pointer (some ⟨rb, 0, none⟩), .int .i64 n] w fun e w' => e = .returned (.int .u64 (idR f n)) ∧ w = w' := by
  have r0 := h.root
  have z0 := h.rbz
  cases hn : f n with
  | none =>
    have e : idR f n = 0 := by unfold idR; rw [hn]
    have hl := h.out hn hi
    have E := Lib.hid e
    clear h hn e
    go_enter Tryz.func43, Tryz.ntmps43
    go_wp2
    go_ret
    exact ⟨by rw [E.out]; first | done | rfl, rfl⟩
  | some m =>
    have e : idR f n = m.id := by unfold idR; rw [hn]
    obtain ⟨_, c1, _, hz, hl⟩ := h.at hn hi
    have E := Lib.hid e
    clear h hn e
    go_enter Tryz.func43, Tryz.ntmps43
    go_wp2
    go_ret
    exact ⟨by rw [E.out]; first | done | rfl, rfl⟩
end Go.Proofs.YtahiahjhpakeiaaGreatDoor
namespace Go.Proofs.YtahiahjhpakeiaaGreatDoor
open Go.RowKit Go.Maps
set_option linter.unusedVariables false
set_option linter.unusedSimpArgs false
attribute [local go_sem] later_cell later_frozen later_lt cell_set_off cell_set_block

theorem method_lives (k : Nat) (a : Option Addr) (w : World) : (method (k + 1) 25 (.pointer a) "Lives").run Tryz.prog w = .ok (20, .pointer a) w := by kernel_rfl
theorem method_id (k : Nat) (a : Option Addr) (w : World) : (method (k + 1) 25 (.pointer a) "Id").run Tryz.prog w = .ok (43, .pointer a) w := by kernel_rfl
theorem ahead_lives (k : Nat) (b o : Nat) (w : World) : (nilAhead (k + 1) 25 (.pointer (some ⟨b, o, none⟩)) "Lives").run Tryz.prog w = .ok (some false) w := by kernel_rfl
theorem ahead_id (k : Nat) (b o : Nat) (w : World) : (nilAhead (k + 1) 25 (.pointer (some ⟨b, o, none⟩)) "Id").run Tryz.prog w = .ok (some false) w := by kernel_rfl
variable {S : Nat → Prop} {w : World} {rb mb : Nat} {g : Int → Nat} {f : RS}

theorem indexf_at (h : RAt S w rb mb g f) (l : List Int) (hlm : l.length ≤ 4000000000) (hok : ∀ x ∈ l, okInt x) (lv : Value) (hl : SlAt 0 (fun i => .int .i64 (nth l i)) l.length w lv) :
    Calls Tryz.prog 55 #[lv, .func (.method "Lives") #[.iface 25 (.pointer (some ⟨rb, 0, none⟩))] #[]] w fun e w' => e = .returned (.int .i64 (firstR f l)) ∧ Below w.heap.size w w' := by
  have hlv := Lib.hid fun (wr : World) (hb : Below w.heap.size w wr) (k : Nat) (hk : k < l.length) => lives_at (h.below hb) (nth l k) (hok _ (by rw [nth_eq hk]; exact List.getElem_mem hk))
  have hmm := method_lives
  obtain ⟨a, cap, rfl, _, _, _, hl⟩ := hl
  have hcell := Lib.hid fun (k : Nat) (h : k < l.length) (wr : World) (hB : Below w.heap.size w wr) => (by
    obtain ⟨b, off, rfl, _, hb, hc⟩ := hl.resolve_left (by omega)
    exact ⟨b, off, rfl, (hB.cell (p := ⟨b, off + k, none⟩) hb).trans (hc k h)⟩ : ∃ b off : Nat, a = some ⟨b, off, none⟩ ∧ wr.cell? ⟨b, off + k, none⟩ = some (.int .i64 (nth l k)))
  clear hl h hok
  go_enter Tryz.func55, Tryz.ntmps55
  go_wp2
  go_loopw [5, 8] (fun _ i wr => ∃ k : Nat, k ≤ l.length ∧ i = .int .i64 k ∧ Below w.heap.size w wr ∧ Hid (∀ j, j < k → livesR f (nth l j) = false)) (fun _ i _ => l.length - (intOf i).toNat)
  case atStart => exact ⟨0, Nat.zero_le _, rfl, Below.refl _ _, fun j hj => absurd hj (by omega)⟩
  case round =>
    obtain ⟨k, hk, rfl, hB, hno⟩ := hrel
    by_cases hlt : k < l.length
    · obtain ⟨b, off, rfl, ck⟩ := hcell.out k hlt wr hB
      go_wp2_with (go_at_call 20; refine (hlv.out _ hB k hlt).mono ?_; rintro e w' ⟨rfl, rfl⟩)
      · have h1 : livesR f (nth l k) = true := by assumption
        go_ret
        exact ⟨by rw [firstR_some hlt hno.out h1]; first | done | rfl, hB⟩
      · have h1 : livesR f (nth l k) = false := by assumption
        go_roundw
        case rel =>
          go_light
          refine ⟨k + 1, by omega, by go_num, hB, fun j hj => ?_⟩
          by_cases e : j = k
          · subst e; exact h1
          · exact hno.out j (by omega)
        case measure => go_light; simp [intOf]; omega
    · go_wp2
      go_ret
      obtain rfl : k = l.length := by omega
      exact ⟨by rw [firstR_none hno.out]; first | done | rfl, hB⟩

theorem head_at (h : RAt S w rb mb g f) (l : List Int) (hlm : l.length ≤ 4000000000) (hok : ∀ x ∈ l, okInt x) (lv : Value) (hl : SlAt 0 (fun i => .int .i64 (nth l i)) l.length w lv) (id pred : Int) :
    Calls Tryz.prog 71 #[.agg #[.int .u64 id, .int .i64 pred, lv], .iface 25 (.pointer (some ⟨rb, 0, none⟩))] w fun e w' => e = .returned (.int .i64 (headL f l)) ∧ Below w.heap.size w w' := by
  have hix := Lib.hid fun (wr : World) (hb : Below w.heap.size w wr) => indexf_at (h.below hb) l hlm hok lv (hl.below hb)
  have hmm := ahead_lives
  obtain ⟨a, cap, rfl, _, _, _, hl⟩ := hl
  clear h hok
  rcases headL_at f l with ⟨e1, e2⟩ | ⟨k, hk, e1, e2⟩
  · rw [e1] at hix
    have E := Lib.hid e2
    clear e1 e2
    go_enter Tryz.func71, Tryz.ntmps71
    go_wp2
    refine wp_region_calm (by kernel_rfl) (by kernel_rfl) ?_
    repeat (first | (go_big_quiet_step ((go_at_call 55; exact calls_calm (hix.out _ (by (repeat (first | exact Below.refl _ _ | (with_reducible assumption) | (with_reducible refine bel_later ?_ _) | (with_reducible refine bel_alloc ?_ _) | (with_reducible refine bel_drew ?_) | (with_reducible refine bel_drewN ?_ _) | (with_reducible refine bel_set ?_ (by first | (simp; done) | (simp; omega) | (dsimp only; omega)) _)))))))) | (refine wpQuiet_step (fun K hK => ?_); go_simp; first | (refine hK _ ?_; clear hK K) | (apply Exists.intro; refine ⟨fun _ => ?_, hK _ ?_⟩; (go_at_call 55; exact calls_calm (hix.out _ (by (repeat (first | exact Below.refl _ _ | (with_reducible assumption) | (with_reducible refine bel_later ?_ _) | (with_reducible refine bel_alloc ?_ _) | (with_reducible refine bel_drew ?_) | (with_reducible refine bel_drewN ?_ _) | (with_reducible refine bel_set ?_ (by first | (simp; done) | (simp; omega) | (dsimp only; omega)) _)))))); clear hK K)))
    refine wpQuiet_nil ?_
    intro _ hw'
    obtain ⟨xq, hw''⟩ := hw'
    subst hw''
    go_wp2
    go_ret
    exact ⟨by rw [E.out]; first | done | rfl, by (repeat (first | exact Below.refl _ _ | (with_reducible assumption) | (with_reducible refine bel_later ?_ _) | (with_reducible refine bel_alloc ?_ _) | (with_reducible refine bel_drew ?_) | (with_reducible refine bel_drewN ?_ _) | (with_reducible refine bel_set ?_ (by first | (simp; done) | (simp; omega) | (dsimp only; omega)) _)))⟩
  · rw [e1] at hix
    have E := Lib.hid e2
    obtain ⟨b, off, rfl, _, hb, hc⟩ := hl.resolve_left (by omega)
    have ck := hc k hk
    clear e1 e2 hl hc
    go_enter Tryz.func71, Tryz.ntmps71
    go_wp2
    refine wp_region_calm (by kernel_rfl) (by kernel_rfl) ?_
    repeat (first | (go_big_quiet_step ((go_at_call 55; exact calls_calm (hix.out _ (by (repeat (first | exact Below.refl _ _ | (with_reducible assumption) | (with_reducible refine bel_later ?_ _) | (with_reducible refine bel_alloc ?_ _) | (with_reducible refine bel_drew ?_) | (with_reducible refine bel_drewN ?_ _) | (with_reducible refine bel_set ?_ (by first | (simp; done) | (simp; omega) | (dsimp only; omega)) _)))))))) | (refine wpQuiet_step (fun K hK => ?_); go_simp; first | (refine hK _ ?_; clear hK K) | (apply Exists.intro; refine ⟨fun _ => ?_, hK _ ?_⟩; (go_at_call 55; exact calls_calm (hix.out _ (by (repeat (first | exact Below.refl _ _ | (with_reducible assumption) | (with_reducible refine bel_later ?_ _) | (with_reducible refine bel_alloc ?_ _) | (with_reducible refine bel_drew ?_) | (with_reducible refine bel_drewN ?_ _) | (with_reducible refine bel_set ?_ (by first | (simp; done) | (simp; omega) | (dsimp only; omega)) _)))))); clear hK K)))
    refine wpQuiet_nil ?_
    intro _ hw'
    obtain ⟨xq, hw''⟩ := hw'
    subst hw''
    go_wp2
    go_ret
    exact ⟨by rw [E.out]; first | done | rfl, by (repeat (first | exact Below.refl _ _ | (with_reducible assumption) | (with_reducible refine bel_later ?_ _) | (with_reducible refine bel_alloc ?_ _) | (with_reducible refine bel_drew ?_) | (with_reducible refine bel_drewN ?_ _) | (with_reducible refine bel_set ?_ (by first | (simp; done) | (simp; omega) | (dsimp only; omega)) _)))⟩

set_option maxHeartbeats 1000000 in
theorem rect_at (h : RAt S w rb mb g f) (id pred n : Int) (hp : okInt pred) (hn : okInt n) (a : Option Addr) (ln cap : Nat) :
    Calls Tryz.prog 107 #[.agg #[.int .u64 id, .int .i64 pred, .slice a ln cap], .int .i64 n, .iface 25 (.pointer (some ⟨rb, 0, none⟩))] w fun e w' => e = .returned (.agg #[.int .u64 id, .int .i64 (rectR f id pred n), .slice a ln cap]) ∧ Below w.heap.size w w' := by
  have hl := Lib.hid fun (wr : World) (hb : Below w.heap.size w wr) => lives_at (h.below hb) pred hp
  have hd := Lib.hid fun (wr : World) (hb : Below w.heap.size w wr) => id_at (h.below hb) pred hp
  have hd2 := Lib.hid fun (wr : World) (hb : Below w.heap.size w wr) => id_at (h.below hb) n hn
  have hm1 := method_lives
  have hm2 := method_id
  have hm3 := ahead_lives
  have hm4 := ahead_id
  have hc : (pred == -1) = true ∧ rectR f id pred n = n ∨ (pred == -1) = false ∧ (livesR f pred = false ∧ rectR f id pred n = n ∨ livesR f pred = true ∧ (withinB (idR f n) (idR f pred) id = true ∧ rectR f id pred n = n ∨ withinB (idR f n) (idR f pred) id = false ∧ rectR f id pred n = pred)) := by
    unfold rectR
    cases h1 : pred == -1 <;> cases h2 : livesR f pred <;> cases h3 : withinB (idR f n) (idR f pred) id <;> simp
  clear h hp hn
  rcases hc with ⟨c1, E⟩ | ⟨c1, ⟨c2, E⟩ | ⟨c2, ⟨c3, E⟩ | ⟨c3, E⟩⟩⟩
  all_goals
    have EE := Lib.hid E
    clear E
    go_enter Tryz.func107, Tryz.ntmps107
    go_wp2
    refine wp_region_calm (by kernel_rfl) (by kernel_rfl) ?_
    repeat (first | (go_big_quiet_step ((first | (go_at_call 20; exact calls_calm_same (hl.out _ (by (repeat (first | exact Below.refl _ _ | (with_reducible assumption) | (with_reducible refine bel_later ?_ _) | (with_reducible refine bel_alloc ?_ _) | (with_reducible refine bel_drew ?_) | (with_reducible refine bel_drewN ?_ _) | (with_reducible refine bel_set ?_ (by first | (simp; done) | (simp; omega) | (dsimp only; omega)) _)))))) | (go_at_call_of 43 (Value.int .i64 pred); exact calls_calm_same (hd.out _ (by (repeat (first | exact Below.refl _ _ | (with_reducible assumption) | (with_reducible refine bel_later ?_ _) | (with_reducible refine bel_alloc ?_ _) | (with_reducible refine bel_drew ?_) | (with_reducible refine bel_drewN ?_ _) | (with_reducible refine bel_set ?_ (by first | (simp; done) | (simp; omega) | (dsimp only; omega)) _)))))) | (go_at_call_of 43 (Value.int .i64 n); exact calls_calm_same (hd2.out _ (by (repeat (first | exact Below.refl _ _ | (with_reducible assumption) | (with_reducible refine bel_later ?_ _) | (with_reducible refine bel_alloc ?_ _) | (with_reducible refine bel_drew ?_) | (with_reducible refine bel_drewN ?_ _) | (with_reducible refine bel_set ?_ (by first | (simp; done) | (simp; omega) | (dsimp only; omega)) _)))))) | (go_at_call 72; exact calls_calm_same (within_any _ _ _ _))))) | (refine wpQuiet_step (fun K hK => ?_); go_simp; first | (refine hK _ ?_; clear hK K) | (apply Exists.intro; refine ⟨fun _ => ?_, hK _ ?_⟩; (first | (go_at_call 20; exact calls_calm_same (hl.out _ (by (repeat (first | exact Below.refl _ _ | (with_reducible assumption) | (with_reducible refine bel_later ?_ _) | (with_reducible refine bel_alloc ?_ _) | (with_reducible refine bel_drew ?_) | (with_reducible refine bel_drewN ?_ _) | (with_reducible refine bel_set ?_ (by first | (simp; done) | (simp; omega) | (dsimp only; omega)) _)))))) | (go_at_call_of 43 (Value.int .i64 pred); exact calls_calm_same (hd.out _ (by (repeat (first | exact Below.refl _ _ | (with_reducible assumption) | (with_reducible refine bel_later ?_ _) | (with_reducible refine bel_alloc ?_ _) | (with_reducible refine bel_drew ?_) | (with_reducible refine bel_drewN ?_ _) | (with_reducible refine bel_set ?_ (by first | (simp; done) | (simp; omega) | (dsimp only; omega)) _)))))) | (go_at_call_of 43 (Value.int .i64 n); exact calls_calm_same (hd2.out _ (by (repeat (first | exact Below.refl _ _ | (with_reducible assumption) | (with_reducible refine bel_later ?_ _) | (with_reducible refine bel_alloc ?_ _) | (with_reducible refine bel_drew ?_) | (with_reducible refine bel_drewN ?_ _) | (with_reducible refine bel_set ?_ (by first | (simp; done) | (simp; omega) | (dsimp only; omega)) _)))))) | (go_at_call 72; exact calls_calm_same (within_any _ _ _ _))); clear hK K)))
    refine wpQuiet_nil ?_
    intro _ hw'
    obtain ⟨xq, hw''⟩ := hw'
    subst hw''
    have j0 : xq.world.cell? ⟨w.heap.size + 1, 0, none⟩ = some (.int .u64 0) := by rw [later_cell xq _ _ (by simp)]; simp [go_sem]
    have j1 : xq.world.cell? ⟨w.heap.size + 1, 1, none⟩ = some (.int .i64 0) := by rw [later_cell xq _ _ (by simp)]; simp [go_sem]
    have j2 : xq.world.cell? ⟨w.heap.size + 1, 2, none⟩ = some (.slice none 0 0) := by rw [later_cell xq _ _ (by simp)]; simp [go_sem]
    have k0 : xq.world.cell? ⟨w.heap.size, 0, none⟩ = some (.int .u64 id) := by rw [later_cell xq _ _ (by simp; omega)]; simp [go_sem]
    have k1 : xq.world.cell? ⟨w.heap.size, 1, none⟩ = some (.int .i64 pred) := by rw [later_cell xq _ _ (by simp; omega)]; simp [go_sem]
    have k2 : xq.world.cell? ⟨w.heap.size, 2, none⟩ = some (.slice a ln cap) := by rw [later_cell xq _ _ (by simp; omega)]; simp [go_sem]
    go_wp2
    refine bodyPost_ret (v := .agg #[.int .u64 id, .int .i64 (rectR f id pred n), .slice a ln cap]) ?_ rfl ⟨rfl, ?_⟩
    · rw [EE.out]; simp [results, Tryz.results107, go_sem, k0, k1, k2, j0, j1, j2]
    · (repeat (first | exact Below.refl _ _ | (with_reducible assumption) | (with_reducible refine bel_later ?_ _) | (with_reducible refine bel_alloc ?_ _) | (with_reducible refine bel_drew ?_) | (with_reducible refine bel_drewN ?_ _) | (with_reducible refine bel_set ?_ (by first | (simp; done) | (simp; omega) | (dsimp only; omega)) _)))

theorem near_at (h : RAt S w rb mb g f) (q fr to : Int) (hq : okInt q) (ht : okInt to) :
    Calls Tryz.prog 106 #[.int .i64 q, .int .u64 fr, .int .i64 to, .iface 25 (.pointer (some ⟨rb, 0, none⟩))] w fun e w' => e = .returned (.bool (nearR f q fr to)) ∧ Below w.heap.size w w' := by
  have hl := Lib.hid (lives_at h q hq)
  have hd := Lib.hid (id_at h q hq)
  have hd2 := Lib.hid (id_at h to ht)
  have hm1 := method_lives
  have hm2 := method_id
  have hm3 := ahead_lives
  have hm4 := ahead_id
  have hc : (q != -1) = false ∧ nearR f q fr to = false ∨ (q != -1) = true ∧ (livesR f q = false ∧ nearR f q fr to = false ∨ livesR f q = true ∧ nearR f q fr to = withinB (idR f q) fr (idR f to)) := by
    unfold nearR
    cases h1 : q != -1 <;> cases h2 : livesR f q <;> simp
  clear h hq ht
  rcases hc with ⟨c1, E⟩ | ⟨c1, ⟨c2, E⟩ | ⟨c2, E⟩⟩
  all_goals
    have EE := Lib.hid E
    clear E
    go_enter Tryz.func106, Tryz.ntmps106
    go_wp2_with (first | (go_at_call 20; refine hl.out.mono ?_; rintro e w' ⟨rfl, rfl⟩) | (go_at_call_of 43 (Value.int .i64 q); refine hd.out.mono ?_; rintro e w' ⟨rfl, rfl⟩) | (go_at_call_of 43 (Value.int .i64 to); refine hd2.out.mono ?_; rintro e w' ⟨rfl, rfl⟩) | (go_at_call 72; refine (within_any _ _ _ _).mono ?_; rintro e w' ⟨rfl, rfl⟩))
    go_ret
    exact ⟨by rw [EE.out]; first | done | rfl, Below.refl _ _⟩
end Go.Proofs.YtahiahjhpakeiaaGreatDoor
namespace Go.Proofs.YtahiahjhpakeiaaGreatDoor
open Go.RowKit Go.Maps
set_option linter.unusedVariables false
set_option linter.unusedSimpArgs false
attribute [local go_sem] later_cell later_frozen later_lt

noncomputable def intI : TypeInfo := (Tryz.prog.info? 3).get (by kernel_rfl)
theorem intI_at : Tryz.prog.info? 3 = some intI := by kernel_rfl

theorem follow_at (w : World) (s id pred : Int) (lv : Value) (l : List Int) (hl : SlAt 0 (fun i => .int .i64 (nth l i)) l.length w lv) (hlm : l.length ≤ 1000000) :
    Calls Tryz.prog 105 #[.int .i64 s, .agg #[.int .u64 id, .int .i64 pred, lv]] w fun e w' => ∃ v, e = .returned v ∧ SlAt w.heap.size (fun i => .int .i64 (nth (followL s l) i)) (followL s l).length w' v ∧ Below w.heap.size w w' := by
  obtain ⟨i0, hi, hz0, hz1, hz2⟩ : ∃ i0, Tryz.prog.info? 3 = some i0 ∧ i0.zero = some (Value.int .i64 0) ∧ i0.size = 1 ∧ i0.bytes = 8 := ⟨intI, intI_at, by kernel_rfl, by kernel_rfl, by kernel_rfl⟩
  unfold followL
  go_enter Tryz.func105, Tryz.ntmps105
  obtain ⟨la, lc, rfl, hlv⟩ : ∃ a c, lv = .slice a l.length c ∧ True := by obtain ⟨a, c, rfl, _⟩ := hl; exact ⟨a, c, rfl, trivial⟩
  go_wp2_with (at_builtin; refine wpList_app rfl _ _ 36 rfl w.heap.size 3 i0 (.int .i64 0) 8 Tryz.underlying36 hi hz0 hz1 hz2 rfl _ 1 [.int .i64 s] rfl (own_lit _ [.int .i64 s] 3 _ _ 1 ?c7 rfl ?c0 ?c1) _ _ _ _ rfl (hl.below ?c2) ?c3 ?c4 ?c5 ?c6 ?_)
  case c7 => simp
  case c0 => simp
  case c1 => simp [maxLen]
  case c2 => (repeat (first | exact Below.refl _ _ | (with_reducible assumption) | (with_reducible refine bel_later ?_ _) | (with_reducible refine bel_alloc ?_ _) | (with_reducible refine bel_drew ?_) | (with_reducible refine bel_drewN ?_ _) | (with_reducible refine bel_set ?_ (by first | (simp; done) | (simp; omega) | (dsimp only; omega)) _)))
  case c3 => intro i; rfl
  case c4 => simp only [maxLen]; omega
  case c5 => omega
  case c6 => simp; omega
  intro v' w1 hown hg
  have hsl := own_slAt hown
  have hB : Below w.heap.size w w1 := ((bel_alloc (bel_alloc (Below.refl _ _) _) _)).grown hg (by simp; omega) (fun k hk => by simp [Value.ownBlock] at hk; omega)
  have hv := hsl.parts.resolve_left (by omega)
  obtain ⟨_, g, off, cap, hv, hcap, hm, hg1, hg2, hc⟩ := hv
  have H := Lib.hid hsl
  clear hown hsl hc hg
  rw [hv] at H ⊢
  clear hv
  unfold maxLen at hm
  have he : ∀ i, i < 1 + l.length → i < 3 → (Value.int IntKind.i64 s :: List.map (fun i => Value.int IntKind.i64 (nth l i)) (List.range l.length)).getD i undef = .int .i64 (nth ((s :: l).take 3) i) := by
    intro i h1 h2
    rw [map_range_nth, ← List.map_cons (f := Value.int IntKind.i64), getD_nth _ _ _ (by simp; omega), nth_take h2]
  have HE := Lib.hid he
  clear he
  by_cases h3 : 2 < l.length
  · have hlen : Hid (((s :: l).take 3).length = 3) := by
      have e : ((s :: l).take 3).length = 3 := by simp; omega
      exact e
    go_wp2
    go_ret
    exact ⟨_, rfl, by rw [hlen.out]; exact (H.out.take (m := 3) (by omega)).congr fun i hi => HE.out i (by omega) hi, hB⟩
  · have hlen : Hid (((s :: l).take 3).length = 1 + l.length) := by
      have e : ((s :: l).take 3).length = 1 + l.length := by simp; omega
      exact e
    go_wp2
    go_ret
    exact ⟨_, rfl, by rw [hlen.out]; exact H.out.congr fun i hi => HE.out i hi (by omega), hB⟩
end Go.Proofs.YtahiahjhpakeiaaGreatDoor
namespace Go.Proofs.YtahiahjhpakeiaaGreatDoor
open Go.RowKit Go.Maps
set_option linter.unusedVariables false
set_option linter.unusedSimpArgs false
attribute [local go_sem] later_cell later_frozen later_lt

/-- An error of this layer: a fault of a code. -/
def IsErr (B : Nat) (w : World) (v : Value) (c : Int) : Prop :=
  ∃ b : Nat, v = .iface 146 (.pointer (some ⟨b, 0, none⟩)) ∧ B ≤ b ∧ b < w.heap.size ∧ w.cell? ⟨b, 2, none⟩ = some (.iface 109 (.int .i64 c))
theorem fault_any (w : World) (c : Int) : Calls Tryz.prog 70 #[.int .i64 c] w fun e w' => ∃ v, e = .returned v ∧ IsErr w.heap.size w' v c ∧ Below w.heap.size w w' := by
  go_enter Tryz.func70, Tryz.ntmps70
  go_wp2
  go_ret
  refine ⟨_, rfl, ⟨w.heap.size, rfl, Nat.le_refl _, by simp, by simp [go_sem]⟩, bel_alloc (Below.refl _ _) _⟩

theorem set_at {w : World} {b o : Nat} {u v : Value} (h : w.cell? ⟨b, o, none⟩ = some u) : (w.setCell ⟨b, o, none⟩ v).cell? ⟨b, o, none⟩ = some v := World.cell?_setCell_same _ _ _ h
section
variable {S : Nat → Prop} {w w1 w2 : World} {rb mb : Nat} {g : Int → Nat} {f : RS}
/-- Blocks that are not the ring's own. -/
abbrev Off (S : Nat → Prop) (rb mb : Nat) (g : Int → Nat) (f : RS) (b : Nat) : Prop := S b ∧ b ≠ rb ∧ b ≠ mb ∧ ∀ j m, f j = some m → b ≠ g j
theorem RingIs.fresh (h : RAt S w rb mb g f) {b : Nat} (hb : w.heap.size ≤ b) : Off S rb mb g f b :=
  ⟨h.up b hb, by have := h.rbz; omega, by have := h.mbz; omega, fun j m e => by have := (h.memS j m e).2.1; omega⟩
theorem RingIs.newSl (h : RAt S w rb mb g f) {l : List Int} {w' : World} {v : Value} (hv : SlAt w.heap.size (fun i => .int .i64 (nth l i)) l.length w' v) : SlIn (Off S rb mb g f) l w' v :=
  SlIn.of_slAt hv fun b hb => h.fresh hb
/-- A member's list is another one. -/
theorem RingIs.setSucc (h : RAt S w rb mb g f) {n : Int} {m : Mem} (hn : f n = some m) {l : List Int} {v : Value} (hv : SlIn (Off S rb mb g f) l w v) (hd : Dom (setM f n ⟨m.live, m.id, m.pred, l⟩)) :
    RAt S (w.setCell ⟨g n, 3, none⟩ v) rb mb g (setM f n ⟨m.live, m.id, m.pred, l⟩) := by
  obtain ⟨c0, c1, c2, u, c3, hu⟩ := h.mem n m hn
  refine h.write hn (size_set _ _ _) (fun b hb => Below.heap_setCell _ _ _ _ hb) (fun o => by rw [World.frozen?_setCell]; exact (h.memS n m hn).2.2.2.2 o) hd (v := v) ?_ ?_ ?_ ?_ hv
  · rw [cell_set_off _ _ _ _ _ (by decide)]; exact c0
  · rw [cell_set_off _ _ _ _ _ (by decide)]; exact c1
  · rw [cell_set_off _ _ _ _ _ (by decide)]; exact c2
  · exact set_at c3
/-- What a member knows is another thing. -/
theorem RingIs.setPred (h : RAt S w rb mb g f) {n : Int} {m : Mem} (hn : f n = some m) {q : Int} {v : Value} (c3 : w.cell? ⟨g n, 3, none⟩ = some v) (hv : SlIn (Off S rb mb g f) m.succ w v) (hd : Dom (setM f n ⟨m.live, m.id, q, m.succ⟩)) :
    RAt S (((w.setCell ⟨g n, 1, none⟩ (.int .u64 m.id)).setCell ⟨g n, 2, none⟩ (.int .i64 q)).setCell ⟨g n, 3, none⟩ v) rb mb g (setM f n ⟨m.live, m.id, q, m.succ⟩) := by
  obtain ⟨c0, c1, c2, _⟩ := h.mem n m hn
  refine h.write hn (by rw [size_set, size_set, size_set]) (fun b hb => ?_) (fun o => by rw [World.frozen?_setCell, World.frozen?_setCell, World.frozen?_setCell]; exact (h.memS n m hn).2.2.2.2 o) hd (v := v) ?_ ?_ ?_ ?_ hv
  · rw [Below.heap_setCell _ _ _ _ hb, Below.heap_setCell _ _ _ _ hb, Below.heap_setCell _ _ _ _ hb]
  · rw [cell_set_off _ _ _ _ _ (by decide), cell_set_off _ _ _ _ _ (by decide), cell_set_off _ _ _ _ _ (by decide)]; exact c0
  · rw [cell_set_off _ _ _ _ _ (by decide), cell_set_off _ _ _ _ _ (by decide)]; exact set_at c1
  · rw [cell_set_off _ _ _ _ _ (by decide)]; exact set_at (by rw [cell_set_off _ _ _ _ _ (by decide)]; exact c2)
  · exact set_at (by rw [cell_set_off _ _ _ _ _ (by decide), cell_set_off _ _ _ _ _ (by decide)]; exact c3)
end

theorem okInt_dom {n : Int} (h0 : -1 ≤ n) (h1 : n < 32) : okInt n := by
  unfold okInt Lit.wf
  rw [Bool.and_eq_true, decide_eq_true_eq, decide_eq_true_eq]
  exact ⟨by show (-9223372036854775808 : Int) ≤ n; omega, by show n ≤ (9223372036854775807 : Int); omega⟩
end Go.Proofs.YtahiahjhpakeiaaGreatDoor
namespace Go.Proofs.YtahiahjhpakeiaaGreatDoor
open Go.RowKit Go.Maps
set_option linter.unusedVariables false
set_option linter.unusedSimpArgs false
attribute [local go_sem] later_cell later_frozen later_lt

theorem dom_succ {f : RS} (h : Dom f) {n : Int} {m : Mem} (hn : f n = some m) {l : List Int} (h1 : l.length ≤ 3) (h2 : ∀ x ∈ l, 0 ≤ x ∧ x < 32) : Dom (setM f n ⟨m.live, m.id, m.pred, l⟩) := fun j mj e => by
  by_cases ej : j = n
  · subst ej; rw [setM_same] at e; cases e
    obtain ⟨a, b, c, _, d, _⟩ := h j m hn
    exact ⟨a, b, c, h1, d, h2⟩
  · rw [setM_ne f _ ej] at e; exact h j mj e
theorem dom_pred {f : RS} (h : Dom f) {n : Int} {m : Mem} (hn : f n = some m) {q : Int} (h1 : -1 ≤ q) (h2 : q < 32) : Dom (setM f n ⟨m.live, m.id, q, m.succ⟩) := fun j mj e => by
  by_cases ej : j = n
  · subst ej; rw [setM_same] at e; cases e
    obtain ⟨a, b, c, d, _, k⟩ := h j m hn
    exact ⟨a, b, c, d, ⟨h1, h2⟩, k⟩
  · rw [setM_ne f _ ej] at e; exact h j mj e
theorem follow_len (s : Int) (l : List Int) : (followL s l).length ≤ 3 := by unfold followL; rw [List.length_take]; omega
theorem follow_mem {s : Int} {l : List Int} (hs : 0 ≤ s ∧ s < 32) (hl : ∀ x ∈ l, 0 ≤ x ∧ x < 32) : ∀ x ∈ followL s l, 0 ≤ x ∧ x < 32 := fun x hx => by
  rcases List.mem_cons.1 (List.mem_of_mem_take hx) with rfl | h
  · exact hs
  · exact hl x h
variable {S : Nat → Prop} {w : World} {rb mb : Nat} {g : Int → Nat} {f : RS}

theorem setM_setM (f : RS) (n : Int) (m m' : Mem) : setM (setM f n m) n m' = setM f n m' := funext fun j => by unfold setM; split <;> rfl
theorem setM_get {f : RS} {n s : Int} {m ms : Mem} {l : List Int} (hn : f n = some m) (hs : f s = some ms) :
    ∃ m3, setM f n ⟨m.live, m.id, m.pred, l⟩ s = some m3 ∧ m3.live = ms.live ∧ m3.id = ms.id ∧ m3.pred = ms.pred ∧ (s ≠ n → m3 = ms) := by
  by_cases e : s = n
  · subst e
    rw [hn] at hs
    cases hs
    exact ⟨_, setM_same _ _ _, rfl, rfl, rfl, fun h => absurd rfl h⟩
  · exact ⟨ms, by rw [setM_ne f _ e]; exact hs, rfl, rfl, rfl, fun _ => rfl⟩
theorem lives_setM {f : RS} {n : Int} {m : Mem} {l : List Int} {q : Int} (hn : f n = some m) (j : Int) : livesR (setM f n ⟨m.live, m.id, q, l⟩) j = livesR f j := by
  rw [livesR_set]; split
  · rename_i e; rw [e]; unfold livesR; rw [hn]
  · rfl
theorem id_setM {f : RS} {n : Int} {m : Mem} {l : List Int} {q : Int} (hn : f n = some m) (j : Int) : idR (setM f n ⟨m.live, m.id, q, l⟩) j = idR f j := by
  rw [idR_set]; split
  · rename_i e; rw [e]; unfold idR; rw [hn]
  · rfl
theorem near_congr {f f' : RS} (h1 : ∀ j, livesR f' j = livesR f j) (h2 : ∀ j, idR f' j = idR f j) (q fr to : Int) : nearR f' q fr to = nearR f q fr to := by unfold nearR; rw [h1, h2, h2]
theorem rect_congr {f f' : RS} (h1 : ∀ j, livesR f' j = livesR f j) (h2 : ∀ j, idR f' j = idR f j) (id pred n : Int) : rectR f' id pred n = rectR f id pred n := by unfold rectR; rw [h1, h2, h2]
theorem near_ne {f : RS} {q n s : Int} (h : nearR f q (idR f n) s = true) : q ≠ n ∧ livesR f q = true := by
  unfold nearR at h
  rw [Bool.and_eq_true, Bool.and_eq_true] at h
  refine ⟨fun e => ?_, h.1.2⟩
  have := h.2
  rw [e] at this
  unfold withinB at this
  split at this <;> simp at this
theorem rect_dom {f : RS} {id pred n : Int} (hp : -1 ≤ pred ∧ pred < 32) (hn : 0 ≤ n ∧ n < 32) : -1 ≤ rectR f id pred n ∧ rectR f id pred n < 32 := by
  unfold rectR; split <;> omega
/-- The member that looked has its list; who is told has its own. -/
theorem stabR_eq {f : RS} {n T : Int} {m mT m' : Mem} {l : List Int} (hn : f n = some m) (hT : stabT f n = T) (hmT : f T = some mT) (hl : l = followL T mT.succ) (hm' : setM f n ⟨m.live, m.id, m.pred, l⟩ T = some m') :
    setM (setM f n ⟨m.live, m.id, m.pred, l⟩) T ⟨m'.live, m'.id, rectR (setM f n ⟨m.live, m.id, m.pred, l⟩) m'.id m'.pred n, m'.succ⟩ = stabR f n := by
  have h1 : stab1 f n = setM f n ⟨m.live, m.id, m.pred, l⟩ := by
    unfold stab1
    rw [hT, hl]
    unfold livesR idR predR succR
    rw [hn, hmT]
  obtain ⟨m3, e, e1, e2, e3, _⟩ := setM_get (l := l) hn hmT
  rw [hm'] at e
  cases e
  have hsu : succR (setM f n ⟨m.live, m.id, m.pred, l⟩) T = m'.succ := by unfold succR; rw [hm']
  unfold stabR
  rw [hT, h1, hsu, rect_congr (lives_setM hn) (id_setM hn), e1, e2, e3]
  unfold livesR idR predR
  rw [hmT]

def StabPost (S : Nat → Prop) (w : World) (rb mb : Nat) (g : Int → Nat) (f : RS) (n : Int) (e : Ending) (w' : World) : Prop :=
  if livesR f n = true then e = .returned .nilIface ∧ RAt S w' rb mb g (stabR f n) ∧ Kept S w w' else ∃ v, e = .returned v ∧ IsErr w.heap.size w' v 6 ∧ Below w.heap.size w w'
theorem stabT_no {f : RS} {n : Int} {m : Mem} (hn : f n = some m) {s : Int} (hs : s = headL f m.succ) {ms : Mem} (hms : f s = some ms) (h : nearR f ms.pred m.id s = false) : stabT f n = s := by
  have e1 : headR f n = s := by unfold headR succR; rw [hn, hs]
  unfold stabT
  rw [e1, show predR f s = ms.pred from by unfold predR; rw [hms], show idR f n = m.id from by unfold idR; rw [hn], h]
  rfl
theorem stabT_yes {f : RS} {n : Int} {m : Mem} (hn : f n = some m) {s : Int} (hs : s = headL f m.succ) {ms : Mem} (hms : f s = some ms) (h : nearR f ms.pred m.id s = true) : stabT f n = ms.pred := by
  have e1 : headR f n = s := by unfold headR succR; rw [hn, hs]
  unfold stabT
  rw [e1, show predR f s = ms.pred from by unfold predR; rw [hms], show idR f n = m.id from by unfold idR; rw [hn], h]
  rfl
set_option maxRecDepth 100000 in
set_option maxHeartbeats 4000000 in
theorem stab_at (h : RAt S w rb mb g f) (n : Int) (hi : okInt n) (hh : Heads f) :
    Calls Tryz.prog 49 #[.pointer (some ⟨rb, 0, none⟩), .int .i64 n] w (StabPost S w rb mb g f n) := by
  have r0 := h.root
  have z0 := h.rbz
  have cl := Lib.hid (lives_at h n hi)
  cases hlv : livesR f n with
  | false =>
    rw [hlv] at cl
    have HP : Hid (∀ e w', (∃ v, e = .returned v ∧ IsErr w.heap.size w' v 6 ∧ Below w.heap.size w w') → StabPost S w rb mb g f n e w') := fun e w' hx => by unfold StabPost; rw [hlv]; exact hx
    clear h hlv hh
    go_enter Tryz.func49, Tryz.ntmps49
    go_wp2_with (first | (go_at_call 20; refine cl.out.mono ?_; rintro e w' ⟨rfl, rfl⟩) | (go_at_call 70; refine (fault_any _ _).mono ?_; rintro e w' ⟨v, rfl, hE, hB⟩))
    go_ret
    exact HP.out _ _ ⟨_, rfl, hE, hB⟩
  | true =>
    obtain ⟨m, hn, hml⟩ := livesR_some hlv
    rw [hlv] at cl
    obtain ⟨c0, c1, c2, zn, ln⟩ := h.at hn hi
    obtain ⟨_, _, _, v3, c3, hv3⟩ := h.mem n m hn
    obtain ⟨s1, s2, s3, s4, s5⟩ := h.memS n m hn
    obtain ⟨a3, q3, rfl, _⟩ : ∃ a c, v3 = .slice a m.succ.length c ∧ True := by obtain ⟨a, c, rfl, _⟩ := hv3; exact ⟨a, c, rfl, trivial⟩
    have hd := h.dom n m hn
    have ch := Lib.hid (head_at h m.succ (by omega) (fun x hx => okInt_dom (by have := hd.2.2.2.2.2 x hx; omega) (by have := hd.2.2.2.2.2 x hx; omega)) _ hv3.slAt m.id m.pred)
    have H := Lib.hid h
    have HH := Lib.hid hh
    have HN := Lib.hid hn
    have HP : Hid (∀ e w', (e = .returned .nilIface ∧ RAt S w' rb mb g (stabR f n) ∧ Kept S w w') → StabPost S w rb mb g f n e w') := fun e w' hx => by unfold StabPost; rw [if_pos hlv]; exact hx
    have hs : livesR f (headL f m.succ) = true := by have := hh n hlv; rwa [show headR f n = headL f m.succ from by unfold headR succR; rw [hn]] at this
    have HS := Lib.hid hs
    clear h hh hn hlv hv3 hd hs
    go_enter Tryz.func49, Tryz.ntmps49
    go_wp2_with (go_at_call 20; refine cl.out.mono ?_; rintro e w' ⟨rfl, rfl⟩)
    refine ch.out.mono ?_
    rintro e w1 ⟨rfl, hB1⟩
    have h1 := H.out.below hB1
    obtain ⟨s, hsE⟩ : ∃ s, s = headL f m.succ := ⟨_, rfl⟩
    rw [← hsE] at HS ⊢
    have HSE := Lib.hid hsE
    clear hsE
    obtain ⟨ms, hms, hmsl⟩ := livesR_some HS.out
    have hds := h1.dom s ms hms
    have oks : okInt s := okInt_dom (by omega) (by omega)
    obtain ⟨d0, d1, d2, zs, ls⟩ := h1.at hms oks
    obtain ⟨_, _, _, vs, d3, hvs⟩ := h1.mem s ms hms
    obtain ⟨aS, qS, rfl, _⟩ : ∃ a c, vs = .slice a ms.succ.length c ∧ True := by obtain ⟨a, c, rfl, _⟩ := hvs; exact ⟨a, c, rfl, trivial⟩
    have r1 := h1.root
    have z1 := h1.rbz
    have cf := Lib.hid (follow_at w1 s ms.id ms.pred _ ms.succ hvs.slAt (by omega))
    have H1 := Lib.hid h1
    have hds6 := Lib.hid hds.2.2.2.2.2
    clear h1 hvs
    go_wp2_with fail
    refine cf.out.mono ?_
    rintro e w2 ⟨v2, rfl, hv2, hB2⟩
    obtain ⟨a2, q2, rfl, _⟩ := hv2.slice
    have h2 := H1.out.below hB2
    obtain ⟨c0, c1, c2, zn, ln⟩ := h2.at HN.out hi
    obtain ⟨_, _, _, v3, c3, hv3⟩ := h2.mem n m HN.out
    have fz := (h2.memS n m HN.out).2.2.2.2 3
    have r2 := h2.root
    have z2 := h2.rbz
    have hl2 := H1.out.newSl hv2
    have h3 := h2.setSucc HN.out hl2 (dom_succ h2.dom HN.out (follow_len _ _) (follow_mem (by omega) hds6.out))
    have K3 := Lib.hid ((((Kept.refl S w).below hB1).below hB2).set (p := ⟨g n, 3, none⟩) s1 (.slice a2 (followL s ms.succ).length q2))
    have H2 := Lib.hid h2
    have H3 := Lib.hid h3
    have HL2 := Lib.hid hl2
    clear h2 h3 hv2 hl2 hv3
    go_upto_region 6 with (fail)
    obtain ⟨w3, hw3⟩ : ∃ w3, w3 = w2.setCell ⟨g n, 3, none⟩ (.slice a2 (followL s ms.succ).length q2) := ⟨_, rfl⟩
    rw [← hw3] at H3 K3 ⊢
    clear hw3
    clear c0 c1 c2 c3 zn ln fz r2 z2
    obtain ⟨m3, hm3, e1, e2, e3, e4⟩ := setM_get (l := followL s ms.succ) HN.out hms
    have cn := near_at H3.out ms.pred m.id s (okInt_dom (by omega) (by omega)) oks
    rw [near_congr (lives_setM HN.out) (id_setM HN.out)] at cn
    have CN := Lib.hid cn
    obtain ⟨n0, n1, n2, zn3, ln3⟩ := H3.out.at (setM_same f n _) hi
    obtain ⟨t0, t1, t2, zt3, lt3⟩ := H3.out.at hm3 oks
    rw [e3] at t2
    have r3 := H3.out.root
    have z3 := H3.out.rbz
    have E3 := Lib.hid (And.intro hm3 (And.intro e1 (And.intro e2 (And.intro e3 e4))))
    clear cn hm3 e1 e2 e3 e4
    dsimp only at n0 n1 n2
    go_wp2_with fail
    refine CN.out.mono ?_
    rintro e w4 ⟨rfl, hB4⟩
    have hn32 := Lib.hid (show 0 ≤ n ∧ n < 32 from livesR_dom H.out.dom (by unfold livesR; rw [HN.out]; exact hml))
    have K4 := Lib.hid (K3.out.below hB4)
    have H4 := Lib.hid (H3.out.below hB4)
    clear n0 n1 n2 zn3 ln3 t0 t1 t2 zt3 lt3 r3 z3
    cases hq : nearR f ms.pred m.id s with
    | false =>
      obtain ⟨f3, hf3⟩ : ∃ f3, f3 = setM f n ⟨m.live, m.id, m.pred, followL s ms.succ⟩ := ⟨_, rfl⟩
      have hfin := Lib.hid (stabR_eq HN.out (stabT_no HN.out HSE.out hms hq) hms rfl E3.out.1)
      have HZ := H4
      have hmz := Lib.hid E3.out.1
      have KZ := K4
      have okT := oks
      rw [← hf3] at hfin HZ hmz
      clear hq hf3
      go_upto_region 10 with (fail)
      obtain ⟨a0, a1, a2c, zT, lT⟩ := HZ.out.at hmz.out okT
      obtain ⟨_, _, _, vz, a3c, hvz⟩ := HZ.out.mem s m3 hmz.out
      obtain ⟨sT, _, _, _, fzT⟩ := HZ.out.memS s m3 hmz.out
      have fz1 := fzT 1
      have fz2 := fzT 2
      have fz3 := fzT 3
      obtain ⟨az, qz, rfl, _⟩ : ∃ a c, vz = .slice a (m3).succ.length c ∧ True := by obtain ⟨a, c, rfl, _⟩ := hvz; exact ⟨a, c, rfl, trivial⟩
      have hdz := HZ.out.dom s m3 hmz.out
      have rz := HZ.out.root
      have zz := HZ.out.rbz
      have cr := Lib.hid fun (wr : World) (hb : Below (w4).heap.size w4 wr) => rect_at (HZ.out.below hb) (m3).id (m3).pred n (okInt_dom (by omega) (by omega)) hi az (m3).succ.length qz
      have HV := Lib.hid hvz
      have hrd := Lib.hid (rect_dom (f := f3) (id := (m3).id) hdz.2.2.2.2.1 hn32.out)
      have lTx : ∀ x : Later w4, (Instr.lookup 130 (.map (some mb)) (.int .i64 s) false).run Tryz.prog x.world = .ok (.pointer (some ⟨g s, 0, none⟩)) x.world := fun x => ((HZ.out.below x.below).at hmz.out okT).2.2.2.2
      clear hdz hvz fzT
      refine wp_region_calm_tail (21) (by kernel_rfl) (by kernel_rfl) ?_
      simp only [List.take_succ_cons, List.take_zero, List.drop_succ_cons, List.drop_zero]
      repeat (first | (go_big_quiet_step ((go_at_call 107; exact calls_calm (cr.out _ (by (repeat (first | exact Below.refl _ _ | (with_reducible assumption) | (with_reducible refine bel_later ?_ _) | (with_reducible refine bel_alloc ?_ _) | (with_reducible refine bel_drew ?_) | (with_reducible refine bel_drewN ?_ _) | (with_reducible refine bel_set ?_ (by first | (simp; done) | (simp; omega) | (dsimp only; omega)) _)))))))) | (refine wpQuiet_step (fun K hK => ?_); go_simp; first | (refine hK _ ?_; clear hK K) | (apply Exists.intro; refine ⟨fun _ => ?_, hK _ ?_⟩; (go_at_call 107; exact calls_calm (cr.out _ (by (repeat (first | exact Below.refl _ _ | (with_reducible assumption) | (with_reducible refine bel_later ?_ _) | (with_reducible refine bel_alloc ?_ _) | (with_reducible refine bel_drew ?_) | (with_reducible refine bel_drewN ?_ _) | (with_reducible refine bel_set ?_ (by first | (simp; done) | (simp; omega) | (dsimp only; omega)) _)))))); clear hK K)))
      refine wpQuiet_nil ?_
      intro _ hw'
      obtain ⟨xq, hw''⟩ := hw'
      subst hw''
      have LZ := HZ.out.below xq.below
      have j1 := (LZ.at hmz.out okT).2.1
      have j2 := (LZ.at hmz.out okT).2.2.1
      have j3 : xq.world.cell? ⟨g s, 3, none⟩ = some (.slice az (m3).succ.length qz) := by rw [later_cell xq _ _ zT]; exact a3c
      have y1 := (LZ.memS s m3 hmz.out).2.2.2.2 1
      have y2 := (LZ.memS s m3 hmz.out).2.2.2.2 2
      have y3 := (LZ.memS s m3 hmz.out).2.2.2.2 3
      have HLZ := Lib.hid LZ
      clear LZ
      go_wp2_with fail
      go_ret
      refine HP.out _ _ ⟨rfl, ?_, ?_⟩
      · rw [← hfin.out]
        exact HLZ.out.setPred hmz.out j3 (HV.out.imp (fun _ _ h => h) xq.below.size (fun b hb _ => xq.below.block b hb)) (dom_pred HLZ.out.dom hmz.out hrd.out.1 hrd.out.2)
      · exact (((KZ.out.later xq).set sT _).set sT _).set sT _
    | true =>
      have hq2 : nearR f ms.pred (idR f n) s = true := by rw [show idR f n = m.id from by unfold idR; rw [HN.out]]; exact hq
      obtain ⟨hqn, hql⟩ := near_ne hq2
      obtain ⟨mq, hmq, _⟩ := livesR_some hql
      have okT := okInt_dom hds.2.2.2.2.1.1 hds.2.2.2.2.1.2
      have hdq := H.out.dom _ mq hmq
      have hdq6 := Lib.hid hdq.2.2.2.2.2
      have hmq4 : setM f n ⟨m.live, m.id, m.pred, followL s ms.succ⟩ ms.pred = some mq := by rw [setM_ne f _ hqn]; exact hmq
      obtain ⟨p0, p1, p2, zq, lq⟩ := H4.out.at hmq4 okT
      obtain ⟨_, _, _, vq, p3, hvq⟩ := H4.out.mem _ mq hmq4
      obtain ⟨aq, cq, rfl, _⟩ : ∃ a c, vq = .slice a mq.succ.length c ∧ True := by obtain ⟨a, c, rfl, _⟩ := hvq; exact ⟨a, c, rfl, trivial⟩
      have r4 := H4.out.root
      have z4 := H4.out.rbz
      have cf2 := Lib.hid (follow_at w4 ms.pred mq.id mq.pred _ mq.succ hvq.slAt (by omega))
      have hfin := Lib.hid (stabR_eq HN.out (stabT_yes HN.out HSE.out hms hq) hmq rfl (setM_ne f ⟨m.live, m.id, m.pred, followL ms.pred mq.succ⟩ hqn ▸ hmq))
      have HMQ := Lib.hid hmq
      have HQN := Lib.hid hqn
      clear hq hq2 hqn hql hmq4 hvq hmq
      go_wp2_with fail
      refine cf2.out.mono ?_
      rintro e w5 ⟨v5, rfl, hv5, hB5⟩
      obtain ⟨a5, q5, rfl, _⟩ := hv5.slice
      have h5 := H4.out.below hB5
      obtain ⟨c0, c1, c2, zn, ln⟩ := h5.at (setM_same f n _) hi
      obtain ⟨_, _, _, v6, c3, hv6⟩ := h5.mem n _ (setM_same f n _)
      have fz := (h5.memS n _ (setM_same f n _)).2.2.2.2 3
      have r5 := h5.root
      have z5 := h5.rbz
      have hl5 := H4.out.newSl hv5
      have h6 := h5.setSucc (setM_same f n _) hl5 (dom_succ h5.dom (setM_same f n _) (follow_len _ _) (follow_mem (by omega) hdq6.out))
      dsimp only at h6 c0 c1 c2
      rw [setM_setM] at h6
      have K6 := Lib.hid ((K4.out.below hB5).set (p := ⟨g n, 3, none⟩) s1 (.slice a5 (followL ms.pred mq.succ).length q5))
      have H6 := Lib.hid h6
      clear h5 h6 hv5 hl5 hv6 p0 p1 p2 p3 zq lq r4 z4
      go_upto_region 10 with (fail)
      obtain ⟨w6, hw6⟩ : ∃ w6, w6 = w5.setCell ⟨g n, 3, none⟩ (.slice a5 (followL ms.pred mq.succ).length q5) := ⟨_, rfl⟩
      rw [← hw6] at H6 K6 ⊢
      clear hw6
      obtain ⟨f3, hf3⟩ : ∃ f3, f3 = setM f n ⟨m.live, m.id, m.pred, followL ms.pred mq.succ⟩ := ⟨_, rfl⟩
      have hmz := Lib.hid (show setM f n ⟨m.live, m.id, m.pred, followL ms.pred mq.succ⟩ ms.pred = some mq from by rw [setM_ne f _ HQN.out]; exact HMQ.out)
      have HZ := H6
      have KZ := K6
      rw [← hf3] at hfin HZ hmz
      clear hf3
      obtain ⟨a0, a1, a2c, zT, lT⟩ := HZ.out.at hmz.out okT
      obtain ⟨_, _, _, vz, a3c, hvz⟩ := HZ.out.mem ms.pred mq hmz.out
      obtain ⟨sT, _, _, _, fzT⟩ := HZ.out.memS ms.pred mq hmz.out
      have fz1 := fzT 1
      have fz2 := fzT 2
      have fz3 := fzT 3
      obtain ⟨az, qz, rfl, _⟩ : ∃ a c, vz = .slice a (mq).succ.length c ∧ True := by obtain ⟨a, c, rfl, _⟩ := hvz; exact ⟨a, c, rfl, trivial⟩
      have hdz := HZ.out.dom ms.pred mq hmz.out
      have rz := HZ.out.root
      have zz := HZ.out.rbz
      have cr := Lib.hid fun (wr : World) (hb : Below (w6).heap.size w6 wr) => rect_at (HZ.out.below hb) (mq).id (mq).pred n (okInt_dom (by omega) (by omega)) hi az (mq).succ.length qz
      have HV := Lib.hid hvz
      have hrd := Lib.hid (rect_dom (f := f3) (id := (mq).id) hdz.2.2.2.2.1 hn32.out)
      have lTx : ∀ x : Later w6, (Instr.lookup 130 (.map (some mb)) (.int .i64 ms.pred) false).run Tryz.prog x.world = .ok (.pointer (some ⟨g ms.pred, 0, none⟩)) x.world := fun x => ((HZ.out.below x.below).at hmz.out okT).2.2.2.2
      clear hdz hvz fzT
      refine wp_region_calm_tail (21) (by kernel_rfl) (by kernel_rfl) ?_
      simp only [List.take_succ_cons, List.take_zero, List.drop_succ_cons, List.drop_zero]
      repeat (first | (go_big_quiet_step ((go_at_call 107; exact calls_calm (cr.out _ (by (repeat (first | exact Below.refl _ _ | (with_reducible assumption) | (with_reducible refine bel_later ?_ _) | (with_reducible refine bel_alloc ?_ _) | (with_reducible refine bel_drew ?_) | (with_reducible refine bel_drewN ?_ _) | (with_reducible refine bel_set ?_ (by first | (simp; done) | (simp; omega) | (dsimp only; omega)) _)))))))) | (refine wpQuiet_step (fun K hK => ?_); go_simp; first | (refine hK _ ?_; clear hK K) | (apply Exists.intro; refine ⟨fun _ => ?_, hK _ ?_⟩; (go_at_call 107; exact calls_calm (cr.out _ (by (repeat (first | exact Below.refl _ _ | (with_reducible assumption) | (with_reducible refine bel_later ?_ _) | (with_reducible refine bel_alloc ?_ _) | (with_reducible refine bel_drew ?_) | (with_reducible refine bel_drewN ?_ _) | (with_reducible refine bel_set ?_ (by first | (simp; done) | (simp; omega) | (dsimp only; omega)) _)))))); clear hK K)))
      refine wpQuiet_nil ?_
      intro _ hw'
      obtain ⟨xq, hw''⟩ := hw'
      subst hw''
      have LZ := HZ.out.below xq.below
      have j1 := (LZ.at hmz.out okT).2.1
      have j2 := (LZ.at hmz.out okT).2.2.1
      have j3 : xq.world.cell? ⟨g ms.pred, 3, none⟩ = some (.slice az (mq).succ.length qz) := by rw [later_cell xq _ _ zT]; exact a3c
      have y1 := (LZ.memS ms.pred mq hmz.out).2.2.2.2 1
      have y2 := (LZ.memS ms.pred mq hmz.out).2.2.2.2 2
      have y3 := (LZ.memS ms.pred mq hmz.out).2.2.2.2 3
      have HLZ := Lib.hid LZ
      clear LZ
      go_wp2_with fail
      go_ret
      refine HP.out _ _ ⟨rfl, ?_, ?_⟩
      · rw [← hfin.out]
        exact HLZ.out.setPred hmz.out j3 (HV.out.imp (fun _ _ h => h) xq.below.size (fun b hb _ => xq.below.block b hb)) (dom_pred HLZ.out.dom hmz.out hrd.out.1 hrd.out.2)
      · exact (((KZ.out.later xq).set sT _).set sT _).set sT _
end Go.Proofs.YtahiahjhpakeiaaGreatDoor
end
section
namespace Go.Proofs.YtahiahjhpakeiaaGreatDoor
open Go.RowKit Go.Maps
set_option linter.unusedVariables false
set_option linter.unusedSimpArgs false

/-- A slice of 32 elements of s cells each. -/
structure Row32 (Q : Nat → Prop) (w : World) (s : Nat) (g : Nat → Value) (b off cap : Nat) : Prop where
  c0 : 32 ≤ cap
  c1 : cap ≤ maxLen
  q : Q b
  z : b < w.heap.size
  cell : ∀ j, j < 32 * s → w.cell? ⟨b, off + j, none⟩ = some (g j)
theorem Row32.imp {Q Q' : Nat → Prop} {w w' : World} {s : Nat} {g : Nat → Value} {b off cap : Nat} (h : Row32 Q w s g b off cap) (hQ : Q b → Q' b) (hs : w.heap.size ≤ w'.heap.size) (hb : w'.heap[b]? = w.heap[b]?) : Row32 Q' w' s g b off cap :=
  ⟨h.c0, h.c1, hQ h.q, Nat.lt_of_lt_of_le h.z hs, fun j hj => (World.cell?_of_block hb).trans (h.cell j hj)⟩
theorem Row32.congr {Q : Nat → Prop} {w : World} {s : Nat} {g g' : Nat → Value} {b off cap : Nat} (h : Row32 Q w s g b off cap) (e : ∀ j, j < 32 * s → g j = g' j) : Row32 Q w s g' b off cap :=
  ⟨h.c0, h.c1, h.q, h.z, fun j hj => by rw [h.cell j hj, e j hj]⟩

/-- Cell j of the peers' row; V: the lists' headers. -/
def peerC (f : RS) (V : Nat → Value) (j : Nat) : Value :=
  if j % 3 = 0 then .int .u64 (idR f (j / 3 : Nat)) else if j % 3 = 1 then .int .i64 (predR f (j / 3 : Nat)) else V (j / 3)
theorem peerC0 (f : RS) (V : Nat → Value) (k : Nat) : peerC f V (k * 3) = .int .u64 (idR f k) := by
  unfold peerC; rw [if_pos (by omega), show k * 3 / 3 = k by omega]
theorem peerC1 (f : RS) (V : Nat → Value) (k : Nat) : peerC f V (k * 3 + 1) = .int .i64 (predR f k) := by
  unfold peerC; rw [if_neg (by omega), if_pos (by omega), show (k * 3 + 1) / 3 = k by omega]
theorem peerC2 (f : RS) (V : Nat → Value) (k : Nat) : peerC f V (k * 3 + 2) = V k := by
  unfold peerC; rw [if_neg (by omega), if_neg (by omega), show (k * 3 + 2) / 3 = k by omega]

/-- Where the four rows are. -/
structure Where where
  b1 : Nat
  o1 : Nat
  k1 : Nat
  b2 : Nat
  o2 : Nat
  k2 : Nat
  b3 : Nat
  o3 : Nat
  k3 : Nat
  b4 : Nat
  o4 : Nat
  k4 : Nat
def Where.used (p : Where) : Value := .slice (some ⟨p.b1, p.o1, none⟩) 32 p.k1
def Where.live (p : Where) : Value := .slice (some ⟨p.b2, p.o2, none⟩) 32 p.k2
def Where.ids (p : Where) : Value := .slice (some ⟨p.b3, p.o3, none⟩) 32 p.k3
def Where.peers (p : Where) : Value := .slice (some ⟨p.b4, p.o4, none⟩) 32 p.k4
def Where.val (p : Where) : Value := .agg #[p.used, p.live, p.ids, p.peers]

/-- The document's ring: in rows of Q's. -/
structure RefRows (Q : Nat → Prop) (w : World) (p : Where) (f : RS) (V : Nat → Value) : Prop where
  used : Row32 Q w 1 (fun k => .bool (f (k : Nat)).isSome) p.b1 p.o1 p.k1
  live : Row32 Q w 1 (fun k => .bool (livesR f (k : Nat))) p.b2 p.o2 p.k2
  ids : Row32 Q w 1 (fun k => .int .u64 (idR f (k : Nat))) p.b3 p.o3 p.k3
  peers : Row32 Q w 3 (peerC f V) p.b4 p.o4 p.k4
/-- The lists in blocks of Q's. -/
def RefLists (Q : Nat → Prop) (w : World) (f : RS) (V : Nat → Value) : Prop := ∀ k : Nat, k < 32 → SlIn Q (succR f k) w (V k)
structure RefIs (Q : Nat → Prop) (w : World) (p : Where) (f : RS) (V : Nat → Value) : Prop where
  rows : RefRows Q w p f V
  list : RefLists Q w f V

/-- What a call of the document's leaves: a ring in new rows, its lists old or new. -/
def RefNew (Q : Nat → Prop) (w : World) (f : RS) (x : Value) (w' : World) : Prop :=
  ∃ p V, x = p.val ∧ RefIs (fun b => (Q b ∧ b < w.heap.size) ∨ w.heap.size ≤ b) w' p f V ∧ Below w.heap.size w w'
section
variable {Q : Nat → Prop} {w : World} {p : Where} {f : RS} {V : Nat → Value}
end

/-! Writes into a row of the call's own. -/
theorem Row32.set {Q : Nat → Prop} {w : World} {s : Nat} {g : Nat → Value} {b off cap : Nat} (h : Row32 Q w s g b off cap) {j : Nat} (hj : j < 32 * s) (v : Value) : Row32 Q (w.setCell ⟨b, off + j, none⟩ v) s (fun i => if i = j then v else g i) b off cap :=
  ⟨h.c0, h.c1, h.q, by rw [size_set]; exact h.z, fun i hi => by
    by_cases e : i = j
    · subst e; rw [if_pos rfl]; exact World.cell?_setCell_same _ _ _ (h.cell i hi)
    · rw [if_neg e, cell_set_off _ _ _ _ _ (by omega)]; exact h.cell i hi⟩
theorem Row32.other {Q : Nat → Prop} {w : World} {s : Nat} {g : Nat → Value} {b off cap : Nat} (h : Row32 Q w s g b off cap) (c : Nat) (o : Nat) (hne : c ≠ b) (v : Value) : Row32 Q (w.setCell ⟨c, o, none⟩ v) s g b off cap :=
  ⟨h.c0, h.c1, h.q, by rw [size_set]; exact h.z, fun i hi => by rw [cell_set_block _ _ _ _ _ _ hne]; exact h.cell i hi⟩
/-- The rows are four blocks from m on, into which one may write. -/
structure FreshRows (m : Nat) (w : World) (p : Where) : Prop where
  m1 : m ≤ p.b1
  m2 : m ≤ p.b2
  m3 : m ≤ p.b3
  m4 : m ≤ p.b4
  n12 : p.b1 ≠ p.b2
  n13 : p.b1 ≠ p.b3
  n14 : p.b1 ≠ p.b4
  n23 : p.b2 ≠ p.b3
  n24 : p.b2 ≠ p.b4
  n34 : p.b3 ≠ p.b4
  f1 : ∀ o, w.frozen? ⟨p.b1, o, none⟩ = false
  f2 : ∀ o, w.frozen? ⟨p.b2, o, none⟩ = false
  f3 : ∀ o, w.frozen? ⟨p.b3, o, none⟩ = false
  f4 : ∀ o, w.frozen? ⟨p.b4, o, none⟩ = false
theorem FreshRows.same {m : Nat} {w w' : World} {p : Where} (h : FreshRows m w p) (h1 : w'.heap[p.b1]? = w.heap[p.b1]?) (h2 : w'.heap[p.b2]? = w.heap[p.b2]?) (h3 : w'.heap[p.b3]? = w.heap[p.b3]?) (h4 : w'.heap[p.b4]? = w.heap[p.b4]?) : FreshRows m w' p :=
  { h with f1 := fun o => (World.frozen?_of_block h1).trans (h.f1 o), f2 := fun o => (World.frozen?_of_block h2).trans (h.f2 o), f3 := fun o => (World.frozen?_of_block h3).trans (h.f3 o), f4 := fun o => (World.frozen?_of_block h4).trans (h.f4 o) }
theorem FreshRows.set {m : Nat} {w : World} {p : Where} (h : FreshRows m w p) (a : Addr) (v : Value) : FreshRows m (w.setCell a v) p :=
  { h with f1 := fun o => by rw [World.frozen?_setCell]; exact h.f1 o, f2 := fun o => by rw [World.frozen?_setCell]; exact h.f2 o, f3 := fun o => by rw [World.frozen?_setCell]; exact h.f3 o, f4 := fun o => by rw [World.frozen?_setCell]; exact h.f4 o }
end Go.Proofs.YtahiahjhpakeiaaGreatDoor
namespace Go.Proofs.YtahiahjhpakeiaaGreatDoor
open Go.RowKit Go.WideShapes Go.ChangeShapes
set_option linter.unusedVariables false
set_option linter.unusedSimpArgs false
attribute [local go_sem] later_cell later_frozen later_lt

noncomputable def u64I : TypeInfo := (Tryz.prog.info? 42).get (by kernel_rfl)
theorem u64I_at : Tryz.prog.info? 42 = some u64I := by kernel_rfl
theorem rdist_any (a b : Int) (w : World) (ha : isPlace a) (hb : isPlace b) :
    Calls Tryz.prog 116 #[.int .u64 a, .int .u64 b] w fun e w' => e = .returned (.int .u64 (dist a b)) ∧ w = w' := by
  have e1 : a ≤ b → IntKind.u64.wrap (b - a) = dist a b := by rw [IntKind.wrap_u64]; intro h; rfl
  have e2 : b < a → IntKind.u64.wrap (IntKind.u64.wrap (18446744073709551615 - IntKind.u64.wrap (a - b)) + 1) = dist a b := by
    simp only [IntKind.wrap_u64]; unfold dist isPlace at *; omega
  have E1 := Lib.hid e1
  have E2 := Lib.hid e2
  clear e1 e2
  go_enter Tryz.func116, Tryz.ntmps116
  go_wp2
  · go_ret
    exact ⟨congrArg (fun z => Ending.returned (.int .u64 z)) (E1.out (by assumption)), rfl⟩
  · go_ret
    exact ⟨congrArg (fun z => Ending.returned (.int .u64 z)) (E2.out (by assumption)), rfl⟩

/-! ### The reference's Sorted -/
/-- The least of some numbers, so many of them. -/
def Pre (l out : List Int) : Prop := Up out ∧ (∀ x ∈ out, x ∈ l) ∧ ∀ x ∈ l, x ∈ out ∨ ∀ y ∈ out, y < x
def Least (l out : List Int) (k : Nat) (fb : Bool) (z : Int) : Prop :=
  if fb then (∃ j, j < k ∧ nth l j = z) ∧ (∀ y ∈ out, y < z) ∧ ∀ j, j < k → nth l j ∈ out ∨ z ≤ nth l j else ∀ j, j < k → nth l j ∈ out
theorem pre_nil (l : List Int) : Pre l [] := ⟨List.Pairwise.nil, fun x hx => by simp at hx, fun x _ => Or.inr fun y hy => by simp at hy⟩
theorem least_zero (l out : List Int) : Least l out 0 false 0 := fun j hj => absurd hj (by omega)
theorem up_last {out : List Int} (h : Up out) (h0 : 0 < out.length) {x : Int} : nth out (out.length - 1) < x ↔ ∀ y ∈ out, y < x := by
  constructor
  · intro hx y hy
    obtain ⟨j, hj, rfl⟩ := nth_mem.1 hy
    by_cases e : j = out.length - 1
    · rw [e]; exact hx
    · have := up_nth h (i := j) (j := out.length - 1) (by omega) (by omega); omega
  · intro hx
    exact hx _ (nth_mem.2 ⟨_, by omega, rfl⟩)
theorem least_take {l out : List Int} {k : Nat} {fb : Bool} {z : Int} (hk : k < l.length) (h : Least l out k fb z) (h1 : ∀ y ∈ out, y < nth l k) (h2 : fb = false ∨ nth l k < z) : Least l out (k + 1) true (nth l k) := by
  unfold Least at *
  rw [if_pos rfl]
  refine ⟨⟨k, Nat.lt_succ_self _, rfl⟩, h1, fun j hj => ?_⟩
  by_cases e : j = k
  · subst e; exact Or.inr (Int.le_refl _)
  · cases fb with
    | false => exact Or.inl (h j (by omega))
    | true =>
      rw [if_pos rfl] at h
      rcases h.2.2 j (by omega) with h3 | h3
      · exact Or.inl h3
      · rcases h2 with h2 | h2
        · cases h2
        · exact Or.inr (by omega)
theorem least_skip {l out : List Int} {k : Nat} {fb : Bool} {z : Int} (hp : Pre l out) (hk : k < l.length) (h : Least l out k fb z) (h1 : (¬ ∀ y ∈ out, y < nth l k) ∨ fb = true ∧ ¬ nth l k < z) : Least l out (k + 1) fb z := by
  have hx : nth l k ∈ out ∨ fb = true ∧ z ≤ nth l k := by
    rcases h1 with h1 | ⟨h1, h2⟩
    · exact Or.inl ((hp.2.2 _ (nth_mem.2 ⟨k, hk, rfl⟩)).resolve_right h1)
    · exact Or.inr ⟨h1, by omega⟩
  unfold Least at *
  cases fb with
  | false =>
    simp only [Bool.false_eq_true, if_false, false_and, or_false] at *
    intro j hj
    by_cases e : j = k
    · subst e; exact hx
    · exact h j (by omega)
  | true =>
    rw [if_pos rfl] at *
    refine ⟨by obtain ⟨j, hj, e⟩ := h.1; exact ⟨j, by omega, e⟩, h.2.1, fun j hj => ?_⟩
    by_cases e : j = k
    · subst e; rcases hx with hx | hx
      · exact Or.inl hx
      · exact Or.inr hx.2
    · exact h.2.2 j (by omega)
theorem pre_push {l out : List Int} {z : Int} (hp : Pre l out) (h : Least l out l.length true z) : Pre l (out ++ [z]) := by
  unfold Least at h
  rw [if_pos rfl] at h
  obtain ⟨⟨j, hj, e⟩, h2, h3⟩ := h
  refine ⟨List.pairwise_append.2 ⟨hp.1, by simp, fun a ha b hb => by simp at hb; subst hb; exact h2 a ha⟩, fun x hx => ?_, fun x hx => ?_⟩
  · rcases List.mem_append.1 hx with h | h
    · exact hp.2.1 x h
    · simp at h; subst h; exact nth_mem.2 ⟨j, hj, e⟩
  · obtain ⟨i, hi, rfl⟩ := nth_mem.1 hx
    rcases h3 i hi with h4 | h4
    · exact Or.inl (List.mem_append_left _ h4)
    · rcases Int.lt_or_eq_of_le h4 with h5 | h5
      · refine Or.inr fun y hy => ?_
        rcases List.mem_append.1 hy with h | h
        · have := h2 y h; omega
        · simp at h; omega
      · exact Or.inl (by simp [h5])
theorem pre_done {l out : List Int} {z : Int} (hp : Pre l out) (h : Least l out l.length false z) : out = setI l := by
  refine up_uniq hp.1 (setI_up l) fun x => ?_
  rw [mem_setI]
  constructor
  · exact hp.2.1 x
  · intro hx
    obtain ⟨i, hi, rfl⟩ := nth_mem.1 hx
    exact h i hi
theorem pre_len {l out : List Int} (hp : Pre l out) : out.length ≤ l.length :=
  Nat.le_trans (up_sub_len (setI_up l) hp.1 fun x hx => mem_setI.2 (hp.2.1 x hx)) (setI_len l)

set_option maxHeartbeats 4000000 in
theorem rsort_any (w : World) (v : Value) (l : List Int) (h : SlAt 0 (fun i => .int .u64 (nth l i)) l.length w v) (hl : l.length ≤ 1000) :
    Calls Tryz.prog 91 #[v] w fun e w' => ∃ v', e = .returned v' ∧ SlAt w.heap.size (fun i => .int .u64 (nth (setI l) i)) (setI l).length w' v' ∧ Below w.heap.size w w' := by
  obtain ⟨i0, hi, hz0, hz1, hz2⟩ : ∃ i0, Tryz.prog.info? 42 = some i0 ∧ i0.zero = some (Value.int .u64 0) ∧ i0.size = 1 ∧ i0.bytes = 8 := ⟨u64I, u64I_at, by kernel_rfl, by kernel_rfl, by kernel_rfl⟩
  obtain ⟨a, cap, rfl, hc, hm⟩ := h.slice
  have hA := Lib.hid h
  clear h
  unfold maxLen at hm
  go_enter Tryz.func91, Tryz.ntmps91
  go_wp2_with fail
  go_loopw [3, 4] (fun vo i wr => ∃ out : List Int, i = .int .i64 out.length ∧ wr.ownsRow w.heap.size 42 1 vo out.length (out.map (Value.int .u64)) ∧ Below w.heap.size w wr ∧ Hid (Pre l out)) (fun _ i _ => l.length + 1 - (intOf i).toNat)
  case atStart => exact ⟨[], rfl, by simpa using World.ownsRow_made w #[] 0 (Nat.le_refl _) (Nat.zero_le _) (by simp), by (repeat (first | exact Below.refl _ _ | (with_reducible assumption) | (with_reducible refine bel_later ?_ _) | (with_reducible refine bel_alloc ?_ _) | (with_reducible refine bel_drew ?_) | (with_reducible refine bel_drewN ?_ _) | (with_reducible refine bel_set ?_ (by first | (simp; done) | (simp; omega) | (dsimp only; omega)) _))), pre_nil l⟩
  case round =>
    obtain ⟨out, rfl, ho, hB, hP⟩ := hrel
    have hlen := pre_len hP.out
    have hs := own_ints ho
    obtain ⟨ao, co, rfl, hco, hcom⟩ := hs.slice
    have hO := Lib.hid ho
    have hS := Lib.hid hs
    have hsz := hB.size
    clear ho hs
    go_wp2_with fail
    obtain ⟨w1, hw1⟩ : ∃ w1 : World, w1 = wr := ⟨_, rfl⟩
    rw [← hw1] at hO hB hS hsz
    have hBH := Lib.hid hB
    clear hB
    rw [← hw1]
    clear hw1
    go_loopw [5, 6, 18] (fun f ls i wr => ∃ (k : Nat) (fb : Bool) (z : Int), k ≤ l.length ∧ i = .int .i64 k ∧ f = .bool fb ∧ ls = .int .u64 z ∧ wr = w1 ∧ Hid (Least l out k fb z)) (fun _ _ i _ => l.length - (intOf i).toNat)
    case atStart => exact ⟨0, false, 0, Nat.zero_le _, rfl, rfl, rfl, rfl, least_zero l out⟩
    case round =>
      obtain ⟨k, fb, z, hk, rfl, rfl, rfl, rfl, hL⟩ := hrel
      by_cases hlt : k < l.length
      · obtain ⟨b, off, rfl, _, hb, hcell⟩ := hA.out.at k hlt _ hBH.out
        by_cases h0 : out.length = 0
        · have h0b : ((out.length : Int) == 0) = true := by simp [h0]
          have hall : ∀ y ∈ out, y < nth l k := fun y hy => by rw [List.length_eq_zero_iff.1 h0] at hy; simp at hy
          cases fb
          · have TK := Lib.hid (least_take hlt hL.out hall (Or.inl rfl))
            clear hall
            go_wp2_with fail
            go_roundw
            case rel => go_light; exact ⟨k + 1, true, nth l k, by omega, by go_num, rfl, rfl, by first | trivial | rfl, TK.out⟩
            case measure => go_light; simp [intOf]; omega
          · by_cases hz : nth l k < z
            · have TK := Lib.hid (least_take hlt hL.out hall (Or.inr hz))
              clear hall
              go_wp2_with fail
              go_roundw
              case rel => go_light; exact ⟨k + 1, true, nth l k, by omega, by go_num, rfl, rfl, by first | trivial | rfl, TK.out⟩
              case measure => go_light; simp [intOf]; omega
            · have TK := Lib.hid (least_skip hP.out hlt hL.out (Or.inr ⟨rfl, hz⟩))
              obtain ⟨fb, rfl⟩ : ∃ fb, fb = true := ⟨_, rfl⟩
              clear hall
              go_wp2_with fail
              go_roundw
              case rel => go_light; exact ⟨k + 1, true, z, by omega, by go_num, rfl, rfl, by first | trivial | rfl, TK.out⟩
              case measure => go_light; simp [intOf]; omega
        · have h0b : ((out.length : Int) == 0) = false := by simp [h0]
          obtain ⟨n', hn'⟩ : ∃ n' : Nat, n' = out.length - 1 := ⟨_, rfl⟩
          have hidx : (out.length : Int) - 1 = (n' : Int) := by omega
          obtain ⟨b2, o2, rfl, _, hb2, hc2⟩ := hS.out.at n' (by omega) _ (Below.refl _ _)
          have hup := up_last hP.out.1 (x := nth l k) (by omega)
          rw [← hn'] at hup
          clear hn'
          by_cases hx : nth out n' < nth l k
          · have hall := hup.1 hx
            cases fb
            · have TK := Lib.hid (least_take hlt hL.out hall (Or.inl rfl))
              clear hall hup
              go_wp2_with fail
              go_roundw
              case rel => go_light; exact ⟨k + 1, true, nth l k, by omega, by go_num, rfl, rfl, by first | trivial | rfl, TK.out⟩
              case measure => go_light; simp [intOf]; omega
            · by_cases hz : nth l k < z
              · have TK := Lib.hid (least_take hlt hL.out hall (Or.inr hz))
                clear hall hup
                go_wp2_with fail
                go_roundw
                case rel => go_light; exact ⟨k + 1, true, nth l k, by omega, by go_num, rfl, rfl, by first | trivial | rfl, TK.out⟩
                case measure => go_light; simp [intOf]; omega
              · have TK := Lib.hid (least_skip hP.out hlt hL.out (Or.inr ⟨rfl, hz⟩))
                clear hall hup
                go_wp2_with fail
                go_roundw
                case rel => go_light; exact ⟨k + 1, true, z, by omega, by go_num, rfl, rfl, by first | trivial | rfl, TK.out⟩
                case measure => go_light; simp [intOf]; omega
          · have TK := Lib.hid (least_skip hP.out hlt hL.out (Or.inl fun h => hx (hup.2 h)))
            clear hup
            go_wp2_with fail
            go_roundw
            case rel => go_light; exact ⟨k + 1, fb, z, by omega, by go_num, rfl, rfl, by first | trivial | rfl, TK.out⟩
            case measure => go_light; simp [intOf]; omega
      · obtain rfl : k = l.length := by omega
        cases fb
        · have e := pre_done hP.out hL.out
          have HR := hS.out
          rw [e] at HR
          have HR2 := Lib.hid HR
          have E := Lib.hid e
          clear HR e
          go_wp2_with fail
          go_ret
          exact ⟨_, rfl, by rw [E.out]; exact HR2.out, hBH.out⟩
        · have PP := Lib.hid (pre_push hP.out hL.out)
          have hl2 := pre_len PP.out
          have hl3 : out.length + 1 ≤ l.length := by simpa using hl2
          clear hl2
          go_wp2_with (at_builtin; refine wpList_app rfl _ _ 27 rfl w.heap.size 42 i0 (.int .u64 0) 8 Tryz.underlying27 hi hz0 hz1 hz2 rfl _ out.length _ rfl (hO.out.alloc _) 0 _ 1 _ rfl (sl_new _ .u64 [z] 42 _ 1 rfl rfl (by simp [maxLen])) (fun _ => rfl) ?qc1 ?qc2 ?qc3 ?_)
          case qc1 => simp only [maxLen]; omega
          case qc2 => omega
          case qc3 => simp; omega
          intro v' w2 ho hg
          have hB1 : Below w.heap.size w w2 := (hBH.out.alloc hsz _).grown hg (by simp; omega) (fun j hj => by have := hO.out.lt j hj; omega)
          go_wp2_with fail
          go_roundw
          case rel =>
            go_light
            refine ⟨out ++ [z], by simp, ?_, hB1, PP.out⟩
            simpa [nth] using ho
          case measure => go_light; simp [intOf]; omega
end Go.Proofs.YtahiahjhpakeiaaGreatDoor
/-
  The document's layer 9 at the document's ring: Lives, Id, Head, Follow, Nearer, Rectify.
-/

namespace Go.Proofs.YtahiahjhpakeiaaGreatDoor
open Go.RowKit Go.Maps Go.Sort
set_option linter.unusedVariables false
set_option linter.unusedSimpArgs false
attribute [local go_sem] later_cell later_frozen later_lt cell_set_off cell_set_block

variable {Q : Nat → Prop} {w : World} {p : Where} {f : RS} {V : Nat → Value}
end Go.Proofs.YtahiahjhpakeiaaGreatDoor
namespace Go.Proofs.YtahiahjhpakeiaaGreatDoor
open Go.RowKit Go.Maps Go.Sort
set_option linter.unusedVariables false
set_option linter.unusedSimpArgs false

/-- Four cells that hold a ring. -/
structure BoxIs (u : World) (b : Nat) (x0 x1 x2 x3 : Value) : Prop where
  c0 : u.cell? ⟨b, 0, none⟩ = some x0
  c1 : u.cell? ⟨b, 1, none⟩ = some x1
  c2 : u.cell? ⟨b, 2, none⟩ = some x2
  c3 : u.cell? ⟨b, 3, none⟩ = some x3
  f0 : u.frozen? ⟨b, 0, none⟩ = false
  f1 : u.frozen? ⟨b, 1, none⟩ = false
  f2 : u.frozen? ⟨b, 2, none⟩ = false
  f3 : u.frozen? ⟨b, 3, none⟩ = false
  z : b < u.heap.size
abbrev BoxOf (u : World) (b : Nat) (p : Where) : Prop := BoxIs u b (.slice (some ⟨p.b1, p.o1, none⟩) 32 p.k1) (.slice (some ⟨p.b2, p.o2, none⟩) 32 p.k2) (.slice (some ⟨p.b3, p.o3, none⟩) 32 p.k3) (.slice (some ⟨p.b4, p.o4, none⟩) 32 p.k4)
abbrev BoxNil (u : World) (b : Nat) : Prop := BoxIs u b (.slice none 0 0) (.slice none 0 0) (.slice none 0 0) (.slice none 0 0)
theorem BoxIs.block {u u' : World} {b : Nat} {x0 x1 x2 x3 : Value} (h : BoxIs u b x0 x1 x2 x3) (hs : u.heap.size ≤ u'.heap.size) (hb : u'.heap[b]? = u.heap[b]?) : BoxIs u' b x0 x1 x2 x3 :=
  ⟨(World.cell?_of_block hb).trans h.c0, (World.cell?_of_block hb).trans h.c1, (World.cell?_of_block hb).trans h.c2, (World.cell?_of_block hb).trans h.c3, (World.frozen?_of_block hb).trans h.f0, (World.frozen?_of_block hb).trans h.f1, (World.frozen?_of_block hb).trans h.f2, (World.frozen?_of_block hb).trans h.f3, Nat.lt_of_lt_of_le h.z hs⟩
theorem BoxIs.later {u u' : World} {b : Nat} {x0 x1 x2 x3 : Value} (h : BoxIs u b x0 x1 x2 x3) (hb : RowKit.Below u.heap.size u u') : BoxIs u' b x0 x1 x2 x3 := h.block hb.size (hb.block _ h.z)
theorem BoxIs.other {u : World} {b : Nat} {x0 x1 x2 x3 : Value} (h : BoxIs u b x0 x1 x2 x3) {a : Addr} (ha : b ≠ a.block) (v : Value) : BoxIs (u.setCell a v) b x0 x1 x2 x3 := h.block (by rw [size_set]; exact Nat.le_refl _) (Below.heap_setCell _ _ _ _ ha)
theorem block_set4 {u u' : World} {b : Nat} {y0 y1 y2 y3 : Value} (hu : u' = (((u.setCell ⟨b, 0, none⟩ y0).setCell ⟨b, 1, none⟩ y1).setCell ⟨b, 2, none⟩ y2).setCell ⟨b, 3, none⟩ y3) : u'.heap.size = u.heap.size ∧ ∀ c, c ≠ b → u'.heap[c]? = u.heap[c]? := by
  subst hu
  refine ⟨by simp only [size_set], fun c hc => ?_⟩
  rw [Below.heap_setCell _ _ _ _ hc, Below.heap_setCell _ _ _ _ hc, Below.heap_setCell _ _ _ _ hc, Below.heap_setCell _ _ _ _ hc]
end Go.Proofs.YtahiahjhpakeiaaGreatDoor
end
section
namespace Go.Proofs.YtahiahjhpakeiaaGreatDoor
open Go.RowKit Go.Maps Go.Sort
set_option linter.unusedVariables false
set_option linter.unusedSimpArgs false
attribute [local go_sem] later_cell later_frozen later_lt cell_set_off cell_set_block

noncomputable def boolI : TypeInfo := (Tryz.prog.info? 4).get (by kernel_rfl)
theorem boolI_at : Tryz.prog.info? 4 = some boolI := by kernel_rfl
noncomputable def rpeerI : TypeInfo := (Tryz.prog.info? 126).get (by kernel_rfl)
theorem rpeerI_at : Tryz.prog.info? 126 = some rpeerI := by kernel_rfl

variable {Q : Nat → Prop} {w : World} {p : Where} {f : RS} {V : Nat → Value}
/-- A row that was appended to nothing. -/
theorem row_of_owns {w : World} {base e s : Nat} {v : Value} {g : Nat → Value} (hs : 0 < s) {news : List Value} (hn : news = (List.range (32 * s)).map g) (h : w.ownsRow base e s v 32 news) :
    ∃ b cap, v = .slice (some ⟨b, 0, none⟩) 32 cap ∧ v.ownBlock = some b ∧ base ≤ b ∧ Row32 (fun b => base ≤ b) w s g b 0 cap ∧ ∀ o, w.frozen? ⟨b, o, none⟩ = false := by
  subst hn
  have hc := fun g hg => h.cells (g := g) hg
  rcases h.2 with ⟨rfl, h0⟩ | ⟨b, cap, cur, rfl, hB, hg, hn, hm, hz, ht⟩
  · omega
  · refine ⟨b, cap, rfl, rfl, hB, ⟨by omega, hm, hB, (Array.getElem?_eq_some_iff.1 hg).1, fun j hj => ?_⟩, fun o => ?_⟩
    · have := hc b rfl j (g j) (by simp [hj])
      rw [show ((⟨b, 0, none⟩ : Addr).add j) = ⟨b, 0 + j, none⟩ from by unfold Addr.add; by_cases e : j = 0 <;> simp [e]] at this
      exact this
    · unfold World.frozen?
      simp [hg]
theorem own_nil (w : World) (e B s g : Nat) (hg : g = w.heap.size) (hB : B ≤ w.heap.size) : (w.alloc (.cells #[] e)).ownsRow B e s (.slice (some ⟨g, 0, none⟩) 0 0) 0 [] := by
  subst hg; exact World.ownsRow_made w #[] 0 hB (Nat.zero_le _) (by simp)
theorem peerC_one {f : RS} {V : Nat → Value} (hV : ∀ k, k < 32 → (V k).oneCell' = true) (j : Nat) (hj : j < 32 * 3) : (peerC f V j).oneCell' = true := by
  unfold peerC; split
  · rfl
  · split
    · rfl
    · exact hV _ (by omega)
end Go.Proofs.YtahiahjhpakeiaaGreatDoor
/-
  The document's Live and Follow: lists of their own memory.
-/
namespace Go.Proofs.YtahiahjhpakeiaaGreatDoor
open Go.RowKit Go.Maps Go.Sort
set_option linter.unusedVariables false
set_option linter.unusedSimpArgs false
attribute [local go_sem] later_cell later_frozen later_lt cell_set_off cell_set_block

noncomputable def intRI : TypeInfo := (Tryz.prog.info? 3).get (by kernel_rfl)
theorem intRI_at : Tryz.prog.info? 3 = some intRI := by kernel_rfl
variable {Q : Nat → Prop} {w : World} {p : Where} {f : RS} {V : Nat → Value}
end Go.Proofs.YtahiahjhpakeiaaGreatDoor
end
