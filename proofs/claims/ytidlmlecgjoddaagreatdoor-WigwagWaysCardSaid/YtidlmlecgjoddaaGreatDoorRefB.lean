
/-
  The document's layer 9 at the document's ring: Lives, Id, Head, Follow, Nearer, Rectify.
-/
import Derived.Test.YtidlmlecgjoddaaGreatDoorRefA
import Derived.Test.YtidlmlecgjoddaaGreatDoorRefR
import Derived.Deep.RegionWith
import Derived.Test.YtidlmlecgjoddaaGreatDoorCalmTail
import Derived.Deep.Cut
import Derived.BigQuiet

namespace Go.Proofs.YtidlmlecgjoddaaGreatDoor
open Go.RowKit Go.Maps Go.Sort
set_option linter.unusedVariables false
set_option linter.unusedSimpArgs false
attribute [local go_sem] later_cell later_frozen later_lt cell_set_off cell_set_block

variable {Q : Nat → Prop} {w : World} {p : Where} {f : RS} {V : Nat → Value}
theorem livesR_out {f : RS} (hd : Dom f) {n : Int} (h : ¬ (0 ≤ n ∧ n < 32)) : livesR f n = false := by
  cases e : livesR f n
  · rfl
  · exact absurd (livesR_dom hd e) h
theorem idR_out {f : RS} (hd : Dom f) {n : Int} (h : ¬ (0 ≤ n ∧ n < 32)) : idR f n = 0 := by
  unfold idR
  cases e : f n with
  | none => rfl
  | some m => have := hd n m e; exact absurd ⟨this.1, this.2.1⟩ h
theorem rlives_any (h : RefRows Q w p f V) (hd : Dom f) (n : Int) : Calls Tryz.prog 33 #[(.agg #[.slice (some ⟨p.b2, p.o2, none⟩) 32 p.k2, .slice (some ⟨p.b3, p.o3, none⟩) 32 p.k3]), .int .i64 n] w fun e w' => e = .returned (.bool (livesR f n)) ∧ RowKit.Below w.heap.size w w' := by
  by_cases hn : 0 ≤ n ∧ n < 32
  · obtain ⟨m, rfl⟩ : ∃ m : Nat, n = m := ⟨n.toNat, by omega⟩
    have c0 := h.at_live (k := m) (by omega)
    have hz := h.live.z
    have hm1 : m < 32 := by omega
    clear hn h
    go_enter Tryz.func33, Tryz.ntmps33
    go_wp2_with fail
    go_ret
    exact ⟨by first | done | rfl, (RowKit.Below.refl _ _).alloc (Nat.le_refl _) _⟩
  · have E := Lib.hid (livesR_out hd hn)
    have h3 : n < 0 ∨ 0 ≤ n ∧ ¬ n < 32 := by omega
    clear h hn
    rcases h3 with h3 | ⟨h3, h4⟩ <;>
    · go_enter Tryz.func33, Tryz.ntmps33
      go_wp2_with fail
      go_ret
      exact ⟨by rw [E.out]; first | done | rfl, (RowKit.Below.refl _ _).alloc (Nat.le_refl _) _⟩
theorem rid_any (h : RefRows Q w p f V) (hd : Dom f) (n : Int) : Calls Tryz.prog 115 #[(.agg #[.slice (some ⟨p.b2, p.o2, none⟩) 32 p.k2, .slice (some ⟨p.b3, p.o3, none⟩) 32 p.k3]), .int .i64 n] w fun e w' => e = .returned (.int .u64 (idR f n)) ∧ RowKit.Below w.heap.size w w' := by
  by_cases hn : 0 ≤ n ∧ n < 32
  · obtain ⟨m, rfl⟩ : ∃ m : Nat, n = m := ⟨n.toNat, by omega⟩
    have c0 := h.at_id (k := m) (by omega)
    have hz := h.ids.z
    have hm1 : m < 32 := by omega
    clear hn h
    go_enter Tryz.func115, Tryz.ntmps115
    go_wp2_with fail
    go_ret
    exact ⟨by first | done | rfl, (RowKit.Below.refl _ _).alloc (Nat.le_refl _) _⟩
  · have E := Lib.hid (idR_out hd hn)
    have h3 : n < 0 ∨ 0 ≤ n ∧ ¬ n < 32 := by omega
    clear h hn
    rcases h3 with h3 | ⟨h3, h4⟩ <;>
    · go_enter Tryz.func115, Tryz.ntmps115
      go_wp2_with fail
      go_ret
      exact ⟨by rw [E.out]; first | done | rfl, (RowKit.Below.refl _ _).alloc (Nat.le_refl _) _⟩
theorem idR_place {f : RS} (h : Dom f) (n : Int) : isPlace (idR f n) := by
  unfold idR isPlace
  cases e : f n with
  | none => simp
  | some m => exact (h n m e).2.2.1
theorem headL_some {f : RS} {l : List Int} {k : Nat} (hk : k < l.length) (h : ∀ j, j < k → livesR f (nth l j) = false) (h1 : livesR f (nth l k) = true) : headL f l = nth l k := by
  induction l generalizing k with
  | nil => simp at hk
  | cons x l ih =>
    cases k with
    | zero => rw [nth_zero] at h1 ⊢; simp [headL, h1]
    | succ k =>
      have h0 := h 0 (by omega)
      rw [nth_zero] at h0
      rw [nth_succ] at h1 ⊢
      simp only [headL, h0]
      exact ih (by simp at hk; omega) (fun j hj => by simpa [nth_succ] using h (j + 1) (by omega)) h1
theorem headL_none {f : RS} {l : List Int} (h : ∀ j, j < l.length → livesR f (nth l j) = false) : headL f l = -1 := by
  induction l with
  | nil => rfl
  | cons x l ih =>
    have h0 := h 0 (by simp)
    rw [nth_zero] at h0
    simp only [headL, h0]
    exact ih fun j hj => by simpa [nth_succ] using h (j + 1) (by simp; omega)
theorem rhead_any (h : RefRows Q w p f V) (hd : Dom f) (l : List Int) (hlm : l.length ≤ 1000000) (lv : Value) (hl : SlAt 0 (fun i => .int .i64 (nth l i)) l.length w lv) (id pred : Int) :
    Calls Tryz.prog 113 #[.agg #[.int .u64 id, .int .i64 pred, lv], (.agg #[.slice (some ⟨p.b2, p.o2, none⟩) 32 p.k2, .slice (some ⟨p.b3, p.o3, none⟩) 32 p.k3])] w fun e w' => e = .returned (.int .i64 (headL f l)) ∧ RowKit.Below w.heap.size w w' := by
  have hlv := Lib.hid fun (wr : World) (hb : RowKit.Below w.heap.size w wr) (n : Int) => rlives_any (h.below hb) hd n
  have hA := Lib.hid hl
  obtain ⟨a, cap, rfl, hc, hm⟩ := hl.slice
  clear h hd hl
  go_enter Tryz.func113, Tryz.ntmps113
  go_wp2_with fail
  obtain ⟨w1, hw1⟩ : ∃ w1, w1 = (w.alloc (.cells #[.int .u64 id, .int .i64 pred, .slice a l.length cap] 134)).alloc (.cells #[.slice (some ⟨p.b2, p.o2, none⟩) 32 p.k2, .slice (some ⟨p.b3, p.o3, none⟩) 32 p.k3] 29) := ⟨_, rfl⟩
  have B1 : RowKit.Below w.heap.size w w1 := by rw [hw1]; (repeat (first | exact Below.refl _ _ | (with_reducible assumption) | (with_reducible refine bel_later ?_ _) | (with_reducible refine bel_alloc ?_ _) | (with_reducible refine bel_drew ?_) | (with_reducible refine bel_drewN ?_ _) | (with_reducible refine bel_set ?_ (by first | (simp; done) | (simp; omega) | (dsimp only; omega)) _)))
  have j0 : w1.cell? ⟨w.heap.size + 1, 0, none⟩ = some (.slice (some ⟨p.b2, p.o2, none⟩) 32 p.k2) := by rw [hw1]; simp [go_sem]
  have j1 : w1.cell? ⟨w.heap.size + 1, 1, none⟩ = some (.slice (some ⟨p.b3, p.o3, none⟩) 32 p.k3) := by rw [hw1]; simp [go_sem]
  have z1 : w.heap.size + 1 < w1.heap.size := by rw [hw1]; simp
  rw [← hw1]
  clear hw1
  go_loopw [6, 10] (fun _ i wr => ∃ k : Nat, k ≤ l.length ∧ i = .int .i64 k ∧ Hid (RowKit.Below w1.heap.size w1 wr) ∧ Hid (∀ j, j < k → livesR f (nth l j) = false)) (fun _ i _ => l.length - (intOf i).toNat)
  case atStart => exact ⟨0, Nat.zero_le _, rfl, RowKit.Below.refl _ _, fun j hj => absurd hj (by omega)⟩
  case round =>
    obtain ⟨k, hk, rfl, hB, hno⟩ := hrel
    have BW := Lib.hid (bel_below B1 hB.out)
    by_cases hlt : k < l.length
    · obtain ⟨b, off, rfl, _, hb, hck⟩ := hA.out.at k hlt wr BW.out
      have j0 : wr.cell? ⟨w.heap.size + 1, 0, none⟩ = some (.slice (some ⟨p.b2, p.o2, none⟩) 32 p.k2) := (hB.out.cell (p := ⟨_, _, none⟩) z1).trans j0
      have j1 : wr.cell? ⟨w.heap.size + 1, 1, none⟩ = some (.slice (some ⟨p.b3, p.o3, none⟩) 32 p.k3) := (hB.out.cell (p := ⟨_, _, none⟩) z1).trans j1
      have zr : w.heap.size + 1 < wr.heap.size := Nat.lt_of_lt_of_le z1 hB.out.size
      cases h1 : livesR f (nth l k)
      · go_wp2_with (go_at_call 33; refine (hlv.out _ BW.out _).mono ?_; rintro e w2 ⟨rfl, hb2⟩; rw [h1])
        go_roundw
        case rel =>
          go_light
          refine ⟨k + 1, by omega, by go_num, bel_below hB.out hb2, fun j hj => ?_⟩
          by_cases e : j = k
          · subst e; exact h1
          · exact hno.out j (by omega)
        case measure => go_light; simp [intOf]; omega
      · have E := Lib.hid (headL_some hlt hno.out h1)
        go_wp2_with (go_at_call 33; refine (hlv.out _ BW.out _).mono ?_; rintro e w2 ⟨rfl, hb2⟩; rw [h1])
        go_ret
        exact ⟨by rw [E.out]; first | done | rfl, bel_below BW.out hb2⟩
    · obtain rfl : k = l.length := by omega
      have E := Lib.hid (headL_none hno.out)
      go_wp2_with fail
      go_ret
      exact ⟨by rw [E.out]; first | done | rfl, BW.out⟩

theorem rnear_any (h : RefRows Q w p f V) (hd : Dom f) (q fr to : Int) (hf : isPlace fr) :
    Calls Tryz.prog 121 #[.int .i64 q, .int .u64 fr, .int .i64 to, (.agg #[.slice (some ⟨p.b2, p.o2, none⟩) 32 p.k2, .slice (some ⟨p.b3, p.o3, none⟩) 32 p.k3])] w fun e w' => e = .returned (.bool (nearR f q fr to)) ∧ RowKit.Below w.heap.size w w' := by
  have hl := Lib.hid fun (wr : World) (hb : RowKit.Below w.heap.size w wr) => rlives_any (h.below hb) hd q
  have hd1 := Lib.hid fun (wr : World) (hb : RowKit.Below w.heap.size w wr) => rid_any (h.below hb) hd q
  have hd2 := Lib.hid fun (wr : World) (hb : RowKit.Below w.heap.size w wr) => rid_any (h.below hb) hd to
  have hw := Lib.hid fun (wr : World) => rwithin_any (idR f q) fr (idR f to) wr (idR_place hd q) hf (idR_place hd to)
  have hc : (q != -1) = false ∧ nearR f q fr to = false ∨ (q != -1) = true ∧ (livesR f q = false ∧ nearR f q fr to = false ∨ livesR f q = true ∧ nearR f q fr to = withinB (idR f q) fr (idR f to)) := by
    unfold nearR
    cases h1 : q != -1 <;> cases h2 : livesR f q <;> simp
  clear h hd hf
  rcases hc with ⟨c1, E⟩ | ⟨c1, ⟨c2, E⟩ | ⟨c2, E⟩⟩
  all_goals
    have EE := Lib.hid E
    clear E
    go_enter Tryz.func121, Tryz.ntmps121
    go_wp2_with fail
    refine wp_region_calm (by kernel_rfl) (by kernel_rfl) ?_
    repeat (first | (go_big_quiet_step ((first | (go_at_call 33; exact calls_calm (hl.out _ (by (repeat (first | exact Below.refl _ _ | (with_reducible assumption) | (with_reducible refine bel_later ?_ _) | (with_reducible refine bel_alloc ?_ _) | (with_reducible refine bel_drew ?_) | (with_reducible refine bel_drewN ?_ _) | (with_reducible refine bel_set ?_ (by first | (simp; done) | (simp; omega) | (dsimp only; omega)) _)))))) | (go_at_call_of 115 (Value.int .i64 q); exact calls_calm (hd1.out _ (by (repeat (first | exact Below.refl _ _ | (with_reducible assumption) | (with_reducible refine bel_later ?_ _) | (with_reducible refine bel_alloc ?_ _) | (with_reducible refine bel_drew ?_) | (with_reducible refine bel_drewN ?_ _) | (with_reducible refine bel_set ?_ (by first | (simp; done) | (simp; omega) | (dsimp only; omega)) _)))))) | (go_at_call_of 115 (Value.int .i64 to); exact calls_calm (hd2.out _ (by (repeat (first | exact Below.refl _ _ | (with_reducible assumption) | (with_reducible refine bel_later ?_ _) | (with_reducible refine bel_alloc ?_ _) | (with_reducible refine bel_drew ?_) | (with_reducible refine bel_drewN ?_ _) | (with_reducible refine bel_set ?_ (by first | (simp; done) | (simp; omega) | (dsimp only; omega)) _)))))) | (go_at_call 114; exact calls_calm_same (hw.out _))))) | (refine wpQuiet_step (fun K hK => ?_); go_simp; first | (refine hK _ ?_; clear hK K) | (apply Exists.intro; refine ⟨fun _ => ?_, hK _ ?_⟩; (first | (go_at_call 33; exact calls_calm (hl.out _ (by (repeat (first | exact Below.refl _ _ | (with_reducible assumption) | (with_reducible refine bel_later ?_ _) | (with_reducible refine bel_alloc ?_ _) | (with_reducible refine bel_drew ?_) | (with_reducible refine bel_drewN ?_ _) | (with_reducible refine bel_set ?_ (by first | (simp; done) | (simp; omega) | (dsimp only; omega)) _)))))) | (go_at_call_of 115 (Value.int .i64 q); exact calls_calm (hd1.out _ (by (repeat (first | exact Below.refl _ _ | (with_reducible assumption) | (with_reducible refine bel_later ?_ _) | (with_reducible refine bel_alloc ?_ _) | (with_reducible refine bel_drew ?_) | (with_reducible refine bel_drewN ?_ _) | (with_reducible refine bel_set ?_ (by first | (simp; done) | (simp; omega) | (dsimp only; omega)) _)))))) | (go_at_call_of 115 (Value.int .i64 to); exact calls_calm (hd2.out _ (by (repeat (first | exact Below.refl _ _ | (with_reducible assumption) | (with_reducible refine bel_later ?_ _) | (with_reducible refine bel_alloc ?_ _) | (with_reducible refine bel_drew ?_) | (with_reducible refine bel_drewN ?_ _) | (with_reducible refine bel_set ?_ (by first | (simp; done) | (simp; omega) | (dsimp only; omega)) _)))))) | (go_at_call 114; exact calls_calm_same (hw.out _))); clear hK K)))
    refine wpQuiet_nil ?_
    intro _ hw'
    obtain ⟨xq, hw''⟩ := hw'
    subst hw''
    go_wp2_with fail
    go_ret
    exact ⟨by rw [EE.out]; first | done | rfl, by (repeat (first | exact Below.refl _ _ | (with_reducible assumption) | (with_reducible refine bel_later ?_ _) | (with_reducible refine bel_alloc ?_ _) | (with_reducible refine bel_drew ?_) | (with_reducible refine bel_drewN ?_ _) | (with_reducible refine bel_set ?_ (by first | (simp; done) | (simp; omega) | (dsimp only; omega)) _)))⟩

theorem rrect_any (h : RefRows Q w p f V) (hd : Dom f) (id pred n : Int) (hf : isPlace id) (a : Option Addr) (ln cap : Nat) :
    Calls Tryz.prog 123 #[.agg #[.int .u64 id, .int .i64 pred, .slice a ln cap], .int .i64 n, (.agg #[.slice (some ⟨p.b2, p.o2, none⟩) 32 p.k2, .slice (some ⟨p.b3, p.o3, none⟩) 32 p.k3])] w fun e w' => e = .returned (.agg #[.int .u64 id, .int .i64 (rectR f id pred n), .slice a ln cap]) ∧ RowKit.Below w.heap.size w w' := by
  have hl := Lib.hid fun (wr : World) (hb : RowKit.Below w.heap.size w wr) => rlives_any (h.below hb) hd pred
  have hd1 := Lib.hid fun (wr : World) (hb : RowKit.Below w.heap.size w wr) => rid_any (h.below hb) hd pred
  have hd2 := Lib.hid fun (wr : World) (hb : RowKit.Below w.heap.size w wr) => rid_any (h.below hb) hd n
  have hw := Lib.hid fun (wr : World) => rwithin_any (idR f n) (idR f pred) id wr (idR_place hd n) (idR_place hd pred) hf
  have hc : (pred == -1) = true ∧ rectR f id pred n = n ∨ (pred == -1) = false ∧ (livesR f pred = false ∧ rectR f id pred n = n ∨ livesR f pred = true ∧ (withinB (idR f n) (idR f pred) id = true ∧ rectR f id pred n = n ∨ withinB (idR f n) (idR f pred) id = false ∧ rectR f id pred n = pred)) := by
    unfold rectR
    cases h1 : pred == -1 <;> cases h2 : livesR f pred <;> cases h3 : withinB (idR f n) (idR f pred) id <;> simp
  clear h hd hf
  rcases hc with ⟨c1, E⟩ | ⟨c1, ⟨c2, E⟩ | ⟨c2, ⟨c3, E⟩ | ⟨c3, E⟩⟩⟩
  all_goals
    have EE := Lib.hid E
    clear E
    go_enter Tryz.func123, Tryz.ntmps123
    go_wp2_with fail
    refine wp_region_calm (by kernel_rfl) (by kernel_rfl) ?_
    repeat (first | (go_big_quiet_step ((first | (go_at_call 33; exact calls_calm (hl.out _ (by (repeat (first | exact Below.refl _ _ | (with_reducible assumption) | (with_reducible refine bel_later ?_ _) | (with_reducible refine bel_alloc ?_ _) | (with_reducible refine bel_drew ?_) | (with_reducible refine bel_drewN ?_ _) | (with_reducible refine bel_set ?_ (by first | (simp; done) | (simp; omega) | (dsimp only; omega)) _)))))) | (go_at_call_of 115 (Value.int .i64 pred); exact calls_calm (hd1.out _ (by (repeat (first | exact Below.refl _ _ | (with_reducible assumption) | (with_reducible refine bel_later ?_ _) | (with_reducible refine bel_alloc ?_ _) | (with_reducible refine bel_drew ?_) | (with_reducible refine bel_drewN ?_ _) | (with_reducible refine bel_set ?_ (by first | (simp; done) | (simp; omega) | (dsimp only; omega)) _)))))) | (go_at_call_of 115 (Value.int .i64 n); exact calls_calm (hd2.out _ (by (repeat (first | exact Below.refl _ _ | (with_reducible assumption) | (with_reducible refine bel_later ?_ _) | (with_reducible refine bel_alloc ?_ _) | (with_reducible refine bel_drew ?_) | (with_reducible refine bel_drewN ?_ _) | (with_reducible refine bel_set ?_ (by first | (simp; done) | (simp; omega) | (dsimp only; omega)) _)))))) | (go_at_call 114; exact calls_calm_same (hw.out _))))) | (refine wpQuiet_step (fun K hK => ?_); go_simp; first | (refine hK _ ?_; clear hK K) | (apply Exists.intro; refine ⟨fun _ => ?_, hK _ ?_⟩; (first | (go_at_call 33; exact calls_calm (hl.out _ (by (repeat (first | exact Below.refl _ _ | (with_reducible assumption) | (with_reducible refine bel_later ?_ _) | (with_reducible refine bel_alloc ?_ _) | (with_reducible refine bel_drew ?_) | (with_reducible refine bel_drewN ?_ _) | (with_reducible refine bel_set ?_ (by first | (simp; done) | (simp; omega) | (dsimp only; omega)) _)))))) | (go_at_call_of 115 (Value.int .i64 pred); exact calls_calm (hd1.out _ (by (repeat (first | exact Below.refl _ _ | (with_reducible assumption) | (with_reducible refine bel_later ?_ _) | (with_reducible refine bel_alloc ?_ _) | (with_reducible refine bel_drew ?_) | (with_reducible refine bel_drewN ?_ _) | (with_reducible refine bel_set ?_ (by first | (simp; done) | (simp; omega) | (dsimp only; omega)) _)))))) | (go_at_call_of 115 (Value.int .i64 n); exact calls_calm (hd2.out _ (by (repeat (first | exact Below.refl _ _ | (with_reducible assumption) | (with_reducible refine bel_later ?_ _) | (with_reducible refine bel_alloc ?_ _) | (with_reducible refine bel_drew ?_) | (with_reducible refine bel_drewN ?_ _) | (with_reducible refine bel_set ?_ (by first | (simp; done) | (simp; omega) | (dsimp only; omega)) _)))))) | (go_at_call 114; exact calls_calm_same (hw.out _))); clear hK K)))
    refine wpQuiet_nil ?_
    intro _ hw'
    obtain ⟨xq, hw''⟩ := hw'
    subst hw''
    have j0 : xq.world.cell? ⟨w.heap.size + 1 + 1, 0, none⟩ = some (.int .u64 0) := by rw [later_cell xq _ _ (by simp)]; simp [go_sem]
    have j1 : xq.world.cell? ⟨w.heap.size + 1 + 1, 1, none⟩ = some (.int .i64 0) := by rw [later_cell xq _ _ (by simp)]; simp [go_sem]
    have j2 : xq.world.cell? ⟨w.heap.size + 1 + 1, 2, none⟩ = some (.slice none 0 0) := by rw [later_cell xq _ _ (by simp)]; simp [go_sem]
    have k0 : xq.world.cell? ⟨w.heap.size, 0, none⟩ = some (.int .u64 id) := by rw [later_cell xq _ _ (by simp; omega)]; simp [go_sem]
    have k1 : xq.world.cell? ⟨w.heap.size, 1, none⟩ = some (.int .i64 pred) := by rw [later_cell xq _ _ (by simp; omega)]; simp [go_sem]
    have k2 : xq.world.cell? ⟨w.heap.size, 2, none⟩ = some (.slice a ln cap) := by rw [later_cell xq _ _ (by simp; omega)]; simp [go_sem]
    go_wp2_with fail
    refine bodyPost_ret (v := .agg #[.int .u64 id, .int .i64 (rectR f id pred n), .slice a ln cap]) ?_ rfl ⟨rfl, ?_⟩
    · rw [EE.out]; simp [results, Tryz.results123, go_sem, k0, k1, k2, j0, j1, j2]
    · (repeat (first | exact Below.refl _ _ | (with_reducible assumption) | (with_reducible refine bel_later ?_ _) | (with_reducible refine bel_alloc ?_ _) | (with_reducible refine bel_drew ?_) | (with_reducible refine bel_drewN ?_ _) | (with_reducible refine bel_set ?_ (by first | (simp; done) | (simp; omega) | (dsimp only; omega)) _)))
end Go.Proofs.YtidlmlecgjoddaaGreatDoor
