
/-
  The law PeerCloser: for every world, peer and list, whatever the memory; no conditions.
-/
import Derived.Test.YtcdgpfhllbdooaaPeerG
import Derived.Test.YtcdgpfhllbdooaaRingC
namespace Go.Proofs.Ytcdgpfhllbdooaa
open Go.RowKit Go.Joins Go.WideShapes Go.ChangeShapes
set_option linter.unusedVariables false
set_option linter.unusedSimpArgs false
attribute [local go_sem] later_cell later_frozen later_lt cell_set_off cell_set_block

theorem closer_step {L : List Bool} {I : List Int} {id pred n : Int} (hid : isPlace id) (hI : ∀ z ∈ I, isPlace z) (hne : ∀ j, j < I.length → nth I j ≠ id) (hL : I.length = L.length) (hn : livesB L n = true) :
    rectB L I id pred n = (if pred == -1 || !livesB L pred || decide (dist (idOf I n) id < dist (idOf I pred) id) then n else pred) := by
  have key : ∀ m : Int, livesB L m = true → isPlace (idOf I m) ∧ idOf I m ≠ id := by
    intro m hm
    have h0 : 0 ≤ m ∧ m < I.length := by
      unfold livesB at hm; simp at hm; omega
    have hlt : m.toNat < I.length := by omega
    unfold idOf
    rw [if_pos h0]
    refine ⟨?_, hne _ hlt⟩
    rw [nth_eq hlt]
    exact hI _ (List.getElem_mem _)
  unfold rectB
  by_cases h1 : (pred == -1) = true
  · simp [h1]
  · simp only [Bool.not_eq_true] at h1
    cases h2 : livesB L pred
    · simp [h1]
    · have a := key n hn
      have b := key pred h2
      have e : withinB (idOf I n) (idOf I pred) id = decide (dist (idOf I n) id < dist (idOf I pred) id) := by
        unfold withinB
        rw [show (idOf I pred == id) = false from by rw [beq_eq_false_iff_ne]; exact b.2]
        simp only [Bool.false_eq_true, if_false]
        rw [Bool.eq_iff_iff, Bool.and_eq_true, bne_iff_ne, decide_eq_true_eq, decide_eq_true_eq]
        obtain ⟨a1, a2⟩ := a
        obtain ⟨b1, b2⟩ := b
        generalize idOf I n = x at *
        generalize idOf I pred = y at *
        unfold isPlace dist at *
        omega
      rw [e]

set_option maxHeartbeats 4000000 in
theorem peerCloser_at (W : World) (v : Value) (L : List Bool) (I : List Int) (hv : WorldAt W v L I) (hm : L.length ≤ maxLen) (hm2 : I.length ≤ maxLen) (hIw : ∀ z ∈ I, isPlace z) (pv : Value) (id pred : Int) (l : List Int) (hp : PeerAt W pv id pred l) (hid : isPlace id)
    (sv : Value) (ss : List Int) (hs : SlAt 0 (fun i => .int .i64 (nth ss i)) ss.length W sv) (hsm : ss.length ≤ maxLen) :
    Calls Try.prog 3 #[v, pv, sv] W fun e W' => e = .returned (.bool true) ∧ Below W.heap.size W W' := by
  have hlv := Lib.hid fun (wr : World) (hb : Below W.heap.size W wr) (n : Int) => lives_any wr v L I (hv.below hb) n hm
  have hdd := Lib.hid fun (wr : World) (hb : Below W.heap.size W wr) (n : Int) => id_any wr v L I (hv.below hb) n hm2
  have hrc := Lib.hid fun (wr : World) (hb : Below W.heap.size W wr) => rect_any wr v L I (hv.below hb) hm hm2
  obtain ⟨x1, x2, rfl, hx1, hx2⟩ := hv
  obtain ⟨a1, c1, rfl, _⟩ := hx1
  obtain ⟨a2, c2, rfl, hc2, _, _, hI2⟩ := hx2
  obtain ⟨lv, rfl, hl⟩ := hp
  obtain ⟨la, lc, rfl, _⟩ := hl
  obtain ⟨sa, sc, rfl, _, _, _, hs2⟩ := hs
  have hm' : L.length ≤ 9223372036854775807 := hm
  have hm2' : I.length ≤ 9223372036854775807 := hm2
  have hsm' : ss.length ≤ 9223372036854775807 := hsm
  have hcellI := Lib.hid fun (k : Nat) (h : k < I.length) (wr : World) (hB : Below W.heap.size W wr) => (by
    obtain ⟨b, off, rfl, _, hb, hc⟩ := hI2.resolve_left (by omega)
    exact ⟨b, off, rfl, Nat.lt_of_lt_of_le hb hB.size, fun j hj => (hB.cell (p := ⟨b, off + j, none⟩) hb).trans (hc j hj)⟩ : ∃ b off : Nat, a2 = some ⟨b, off, none⟩ ∧ b < wr.heap.size ∧ ∀ j, j < I.length → wr.cell? ⟨b, off + j, none⟩ = some (.int .u64 (nth I j)))
  have hcellS := Lib.hid fun (k : Nat) (h : k < ss.length) (wr : World) (hB : Below W.heap.size W wr) => (by
    obtain ⟨b, off, rfl, _, hb, hc⟩ := hs2.resolve_left (by omega)
    exact ⟨b, off, rfl, (hB.cell (p := ⟨b, off + k, none⟩) hb).trans (hc k h)⟩ : ∃ b off : Nat, sa = some ⟨b, off, none⟩ ∧ wr.cell? ⟨b, off + k, none⟩ = some (.int .i64 (nth ss k)))
  clear hI2 hs2 hm hm2 hsm
  by_cases g : 40 < L.length ∨ I.length ≠ L.length ∨ 40 < ss.length
  · have g' : 40 < L.length ∨ ¬ 40 < L.length ∧ ((I.length : Int) != (L.length : Int)) = true ∨ ¬ 40 < L.length ∧ ((I.length : Int) != (L.length : Int)) = false ∧ 40 < ss.length := by
      rw [bne_iff_ne, bne_eq_false_iff_eq]; omega
    clear g
    rcases g' with g | ⟨g, g2⟩ | ⟨g, g2, g3⟩ <;>
    · go_enter Try.func3, Try.ntmps3
      go_wp2_with (go_at_call 15; refine (aw9_any _).mono ?_; rintro e w' ⟨rfl, hb⟩)
      go_ret
      exact ⟨rfl, bel_below (by (repeat (first | exact Below.refl _ _ | (with_reducible assumption) | (with_reducible refine bel_later ?_ _) | (with_reducible refine bel_alloc ?_ _) | (with_reducible refine bel_drew ?_) | (with_reducible refine bel_drewN ?_ _) | (with_reducible refine bel_set ?_ (by first | (simp; done) | (simp; omega) | (dsimp only; omega)) _)))) hb⟩
  have hLen := Lib.hid (show I.length = L.length by omega)
  have g1 : ¬ 40 < L.length := by omega
  have g2 : ((I.length : Int) != (L.length : Int)) = false := by rw [bne_eq_false_iff_eq]; omega
  have g3 : ¬ 40 < ss.length := by omega
  have hI40 : I.length ≤ 40 := by omega
  clear g
  go_enter Try.func3, Try.ntmps3
  go_wp2
  go_loopw [35] (fun i wr => ∃ k : Nat, k ≤ I.length ∧ i = .int .i64 k ∧ Below ((W.alloc (.cells #[.slice a1 L.length c1, .slice a2 I.length c2] 25)).alloc (.cells #[.int .u64 id, .int .i64 pred, .slice la l.length lc] 30)).heap.size ((W.alloc (.cells #[.slice a1 L.length c1, .slice a2 I.length c2] 25)).alloc (.cells #[.int .u64 id, .int .i64 pred, .slice la l.length lc] 30)) wr ∧ Hid (∀ j, j < k → nth I j ≠ id)) (fun i _ => I.length - (intOf i).toNat)
  case atStart => exact ⟨0, Nat.zero_le _, rfl, Below.refl _ _, fun j hj => absurd hj (by omega)⟩
  case round =>
    obtain ⟨k, hk, rfl, hB, hall⟩ := hrel
    have hBW : Below W.heap.size W wr := bel_below (bel_alloc (bel_alloc (Below.refl _ _) _) _) hB
    have k0 : wr.cell? ⟨W.heap.size, 0, none⟩ = some (.slice a1 L.length c1) := by rw [hB.cell (by simp <;> omega)]; simp [go_sem]
    have k1 : wr.cell? ⟨W.heap.size, 1, none⟩ = some (.slice a2 I.length c2) := by rw [hB.cell (by simp <;> omega)]; simp [go_sem]
    have m0 : wr.cell? ⟨W.heap.size + 1, 0, none⟩ = some (.int .u64 id) := by rw [hB.cell (by simp <;> omega)]; simp [go_sem]
    have m1 : wr.cell? ⟨W.heap.size + 1, 1, none⟩ = some (.int .i64 pred) := by rw [hB.cell (by simp <;> omega)]; simp [go_sem]
    have m2 : wr.cell? ⟨W.heap.size + 1, 2, none⟩ = some (.slice la l.length lc) := by rw [hB.cell (by simp <;> omega)]; simp [go_sem]
    have z1 : W.heap.size + 1 < wr.heap.size := by have := hB.size; simp at this; omega
    by_cases hlt : k < I.length
    · obtain ⟨b, off, rfl, hb, hc⟩ := hcellI.out k hlt wr hBW
      have ck := hc k hlt
      have HC := Lib.hid hc
      clear hc
      go_wp2
      obtain ⟨wo, rfl⟩ : ∃ wo : World, wo = wr := ⟨_, rfl⟩
      go_loopw [43] (fun i wr => ∃ q : Nat, q ≤ k ∧ i = .int .i64 q ∧ Below wo.heap.size wo wr) (fun i _ => k - (intOf i).toNat)
      case atStart => exact ⟨0, Nat.zero_le _, rfl, Below.refl _ _⟩
      case round =>
        obtain ⟨q, hq, rfl, hBo⟩ := hrel
        have k1' : wr.cell? ⟨W.heap.size, 1, none⟩ = some (.slice (some ⟨b, off, none⟩) I.length c2) := by rw [hBo.cell (by dsimp only; omega)]; exact k1
        have m0' : wr.cell? ⟨W.heap.size + 1, 0, none⟩ = some (.int .u64 id) := by rw [hBo.cell (by dsimp only; omega)]; exact m0
        have z1' : W.heap.size + 1 < wr.heap.size := by have := hBo.size; omega
        have z0' : W.heap.size < wr.heap.size := by omega
        have hb' : b < wr.heap.size := Nat.lt_of_lt_of_le hb hBo.size
        have ckk : wr.cell? ⟨b, off + k, none⟩ = some (.int .u64 (nth I k)) := by rw [hBo.cell (by exact hb)]; exact ck
        by_cases hqk : q < k
        · have cqq : wr.cell? ⟨b, off + q, none⟩ = some (.int .u64 (nth I q)) := by rw [hBo.cell (by exact hb)]; exact HC.out q (by omega)
          have hqI : q < I.length := by omega
          cases he : (nth I k == nth I q)
          · go_wp2
            refine wp_region_calm (by kernel_rfl) (by kernel_rfl) ?_
            repeat (first | (go_big_quiet_step ((fail))) | (refine wpQuiet_step (fun K hK => ?_); go_simp; first | (refine hK _ ?_; clear hK K) | (apply Exists.intro; refine ⟨fun _ => ?_, hK _ ?_⟩; (fail); clear hK K)))
            refine wpQuiet_nil ?_
            intro _ hw'
            obtain ⟨xq, hw''⟩ := hw'
            subst hw''
            go_wp2
            go_roundw
            case rel => go_light; exact ⟨q + 1, by omega, by go_num, by (repeat (first | exact Below.refl _ _ | (with_reducible assumption) | (with_reducible refine bel_later ?_ _) | (with_reducible refine bel_alloc ?_ _) | (with_reducible refine bel_drew ?_) | (with_reducible refine bel_drewN ?_ _) | (with_reducible refine bel_set ?_ (by first | (simp; done) | (simp; omega) | (dsimp only; omega)) _)))⟩
            case measure => go_light; simp [intOf]; omega
          · go_wp2
            refine wp_region_calm (by kernel_rfl) (by kernel_rfl) ?_
            repeat (first | (go_big_quiet_step ((fail))) | (refine wpQuiet_step (fun K hK => ?_); go_simp; first | (refine hK _ ?_; clear hK K) | (apply Exists.intro; refine ⟨fun _ => ?_, hK _ ?_⟩; (fail); clear hK K)))
            refine wpQuiet_nil ?_
            intro _ hw'
            obtain ⟨xq, hw''⟩ := hw'
            subst hw''
            go_wp2_with (go_at_call 15; refine (aw9_any _).mono ?_; rintro e w' ⟨rfl, hb5⟩)
            go_ret
            exact ⟨rfl, bel_below (bel_later (bel_below hBW hBo) _) hb5⟩
        · obtain rfl : q = k := by omega
          cases he : (nth I q == id)
          · go_wp2
            refine wp_region_calm (by kernel_rfl) (by kernel_rfl) ?_
            repeat (first | (go_big_quiet_step ((fail))) | (refine wpQuiet_step (fun K hK => ?_); go_simp; first | (refine hK _ ?_; clear hK K) | (apply Exists.intro; refine ⟨fun _ => ?_, hK _ ?_⟩; (fail); clear hK K)))
            refine wpQuiet_nil ?_
            intro _ hw'
            obtain ⟨xq, hw''⟩ := hw'
            subst hw''
            go_wp2
            go_roundw
            case rel =>
              go_light
              refine ⟨q + 1, by omega, by go_num, bel_later (bel_below hB hBo) _, fun j hj => ?_⟩
              by_cases e : j = q
              · subst e; exact beq_eq_false_iff_ne.1 he
              · exact hall.out j (by omega)
            case measure => go_light; simp [intOf]; omega
          · go_wp2
            refine wp_region_calm (by kernel_rfl) (by kernel_rfl) ?_
            repeat (first | (go_big_quiet_step ((fail))) | (refine wpQuiet_step (fun K hK => ?_); go_simp; first | (refine hK _ ?_; clear hK K) | (apply Exists.intro; refine ⟨fun _ => ?_, hK _ ?_⟩; (fail); clear hK K)))
            refine wpQuiet_nil ?_
            intro _ hw'
            obtain ⟨xq, hw''⟩ := hw'
            subst hw''
            go_wp2_with (go_at_call 15; refine (aw9_any _).mono ?_; rintro e w' ⟨rfl, hb5⟩)
            go_ret
            exact ⟨rfl, bel_below (bel_later (bel_below hBW hBo) _) hb5⟩
    · obtain rfl : k = I.length := by omega
      have hst := Lib.hid fun n (hn : livesB L n = true) p => closer_step (pred := p) hid hIw hall.out hLen.out hn
      clear hall
      have f1 : ∀ i, wr.frozen? ⟨W.heap.size + 1, i, none⟩ = false := fun i => by rw [hB.frozen (by simp <;> omega)]; simp [go_sem]
      clear hB
      go_wp2
      have K0 := Lib.hid k0
      have K1 := Lib.hid k1
      have M0 := Lib.hid m0
      have M1 := Lib.hid m1
      have M2 := Lib.hid m2
      clear k0 k1 m0 m1 m2
      go_loopw [10, 75] (fun p i wq => ∃ (k : Nat) (b : Int), k ≤ ss.length ∧ i = .int .i64 k ∧ p = .int .i64 b ∧ Below W.heap.size W wq ∧ W.heap.size + 1 < wq.heap.size ∧ Hid (b = pred ∨ livesB L b = true) ∧
        wq.cell? ⟨W.heap.size, 0, none⟩ = some (.slice a1 L.length c1) ∧ wq.cell? ⟨W.heap.size, 1, none⟩ = some (.slice a2 I.length c2) ∧
        wq.cell? ⟨W.heap.size + 1, 0, none⟩ = some (.int .u64 id) ∧ wq.cell? ⟨W.heap.size + 1, 1, none⟩ = some (.int .i64 b) ∧ wq.cell? ⟨W.heap.size + 1, 2, none⟩ = some (.slice la l.length lc) ∧ Hid (∀ i, wq.frozen? ⟨W.heap.size + 1, i, none⟩ = false)) (fun _ i _ => ss.length - (intOf i).toNat)
      case atStart => exact ⟨0, pred, Nat.zero_le _, rfl, rfl, hBW, z1, Or.inl rfl, K0.out, K1.out, M0.out, M1.out, M2.out, f1⟩
      case round =>
        clear hBW f1 z1 K0 K1 M0 M1 M2
        obtain ⟨k, p, hk, rfl, rfl, hBW, z1, hor, k0, k1, m0, m1, m2, F1⟩ := hrel
        have z0 : W.heap.size < wr.heap.size := by omega
        by_cases hlt : k < ss.length
        · obtain ⟨b, off, rfl, ck⟩ := hcellS.out k hlt wr hBW
          cases hn : livesB L (nth ss k)
          · go_wp2_with (go_at_call 16; refine (hlv.out _ (by (repeat (first | exact Below.refl _ _ | (with_reducible assumption) | (with_reducible refine bel_later ?_ _) | (with_reducible refine bel_alloc ?_ _) | (with_reducible refine bel_drew ?_) | (with_reducible refine bel_drewN ?_ _) | (with_reducible refine bel_set ?_ (by first | (simp; done) | (simp; omega) | (dsimp only; omega)) _)))) _).mono ?_; rintro e w2 ⟨rfl, hb2⟩)
            go_roundw
            case rel =>
              go_light
              have hz2 := hb2.size
              refine ⟨k + 1, p, by omega, by go_num, rfl, bel_below hBW hb2, by omega, hor, ?_, ?_, ?_, ?_, ?_, fun i => ?_⟩
              · rw [hb2.cell (by exact z0)]; exact k0
              · rw [hb2.cell (by exact z0)]; exact k1
              · rw [hb2.cell (by exact z1)]; exact m0
              · rw [hb2.cell (by exact z1)]; exact m1
              · rw [hb2.cell (by exact z1)]; exact m2
              · rw [hb2.frozen (by exact z1)]; exact F1.out i
            case measure => go_light; simp [intOf]; omega
          · go_wp2_with fail
            refine (hlv.out _ (by (repeat (first | exact Below.refl _ _ | (with_reducible assumption) | (with_reducible refine bel_later ?_ _) | (with_reducible refine bel_alloc ?_ _) | (with_reducible refine bel_drew ?_) | (with_reducible refine bel_drewN ?_ _) | (with_reducible refine bel_set ?_ (by first | (simp; done) | (simp; omega) | (dsimp only; omega)) _)))) _).mono ?_
            rintro e w2 ⟨rfl, hb2⟩
            have hz2 := hb2.size
            have k0 : w2.cell? ⟨W.heap.size, 0, none⟩ = some (.slice a1 L.length c1) := by rw [hb2.cell (by exact z0)]; exact k0
            have k1 : w2.cell? ⟨W.heap.size, 1, none⟩ = some (.slice a2 I.length c2) := by rw [hb2.cell (by exact z0)]; exact k1
            have m0 : w2.cell? ⟨W.heap.size + 1, 0, none⟩ = some (.int .u64 id) := by rw [hb2.cell (by exact z1)]; exact m0
            have m1 : w2.cell? ⟨W.heap.size + 1, 1, none⟩ = some (.int .i64 p) := by rw [hb2.cell (by exact z1)]; exact m1
            have m2 : w2.cell? ⟨W.heap.size + 1, 2, none⟩ = some (.slice la l.length lc) := by rw [hb2.cell (by exact z1)]; exact m2
            have F2 : Hid (∀ i, w2.frozen? ⟨W.heap.size + 1, i, none⟩ = false) := fun i => by rw [hb2.frozen (by exact z1)]; exact F1.out i
            have hB2 := bel_below hBW hb2
            have z2 : W.heap.size + 1 < w2.heap.size := by omega
            clear hb2 F1 hBW
            go_wp2_with fail
            refine (hrc.out _ hB2 _ _ _ _ _ _).mono ?_
            rintro e w3 ⟨rfl, hb3⟩
            have hz3 := hb3.size
            have k0 : w3.cell? ⟨W.heap.size, 0, none⟩ = some (.slice a1 L.length c1) := by rw [hb3.cell (by dsimp only; omega)]; exact k0
            have k1 : w3.cell? ⟨W.heap.size, 1, none⟩ = some (.slice a2 I.length c2) := by rw [hb3.cell (by dsimp only; omega)]; exact k1
            have m0 : w3.cell? ⟨W.heap.size + 1, 0, none⟩ = some (.int .u64 id) := by rw [hb3.cell (by exact z2)]; exact m0
            have m1 : w3.cell? ⟨W.heap.size + 1, 1, none⟩ = some (.int .i64 p) := by rw [hb3.cell (by exact z2)]; exact m1
            have m2 : w3.cell? ⟨W.heap.size + 1, 2, none⟩ = some (.slice la l.length lc) := by rw [hb3.cell (by exact z2)]; exact m2
            have F3 : ∀ i, w3.frozen? ⟨W.heap.size + 1, i, none⟩ = false := fun i => by rw [hb3.frozen (by exact z2)]; exact F2.out i
            have hB3 := bel_below hB2 hb3
            have z3 : W.heap.size + 1 < w3.heap.size := by omega
            have z30 : W.heap.size < w3.heap.size := by omega
            clear hb3 F2
            have hc : (p == -1) = true ∧ rectB L I id p (nth ss k) = nth ss k ∨ (p == -1) = false ∧ (livesB L p = false ∧ rectB L I id p (nth ss k) = nth ss k ∨ livesB L p = true ∧ (dist (idOf I (nth ss k)) id < dist (idOf I p) id ∧ rectB L I id p (nth ss k) = nth ss k ∨ ¬ dist (idOf I (nth ss k)) id < dist (idOf I p) id ∧ rectB L I id p (nth ss k) = p)) := by
              rw [hst.out _ hn p]
              cases h1 : p == -1 <;> cases h2 : livesB L p <;> by_cases h3 : dist (idOf I (nth ss k)) id < dist (idOf I p) id <;> simp [h3]
            generalize nth ss k = n at *
            generalize rectB L I id p n = r at *
            have hco := hor.out
            clear hor
            go_wp2
            have q0 : (((w3.setCell ⟨W.heap.size + 1, 0, none⟩ (.int .u64 id)).setCell ⟨W.heap.size + 1, 1, none⟩ (.int .i64 r)).setCell ⟨W.heap.size + 1, 2, none⟩ (.slice la l.length lc)).cell? ⟨W.heap.size, 0, none⟩ = some (.slice a1 L.length c1) := by simp [go_sem, k0]
            have q1 : (((w3.setCell ⟨W.heap.size + 1, 0, none⟩ (.int .u64 id)).setCell ⟨W.heap.size + 1, 1, none⟩ (.int .i64 r)).setCell ⟨W.heap.size + 1, 2, none⟩ (.slice la l.length lc)).cell? ⟨W.heap.size, 1, none⟩ = some (.slice a2 I.length c2) := by simp [go_sem, k1]
            have q2 : (((w3.setCell ⟨W.heap.size + 1, 0, none⟩ (.int .u64 id)).setCell ⟨W.heap.size + 1, 1, none⟩ (.int .i64 r)).setCell ⟨W.heap.size + 1, 2, none⟩ (.slice la l.length lc)).cell? ⟨W.heap.size + 1, 0, none⟩ = some (.int .u64 id) := by simp [go_sem, m0, m1, m2]
            have q3 : (((w3.setCell ⟨W.heap.size + 1, 0, none⟩ (.int .u64 id)).setCell ⟨W.heap.size + 1, 1, none⟩ (.int .i64 r)).setCell ⟨W.heap.size + 1, 2, none⟩ (.slice la l.length lc)).cell? ⟨W.heap.size + 1, 1, none⟩ = some (.int .i64 r) := by simp [go_sem, m0, m1, m2]
            have q4 : (((w3.setCell ⟨W.heap.size + 1, 0, none⟩ (.int .u64 id)).setCell ⟨W.heap.size + 1, 1, none⟩ (.int .i64 r)).setCell ⟨W.heap.size + 1, 2, none⟩ (.slice la l.length lc)).cell? ⟨W.heap.size + 1, 2, none⟩ = some (.slice la l.length lc) := by simp [go_sem, m0, m1, m2]
            have q5 : W.heap.size + 1 < (((w3.setCell ⟨W.heap.size + 1, 0, none⟩ (.int .u64 id)).setCell ⟨W.heap.size + 1, 1, none⟩ (.int .i64 r)).setCell ⟨W.heap.size + 1, 2, none⟩ (.slice la l.length lc)).heap.size := by simp only [size_set]; omega
            have q6 : ∀ i, (((w3.setCell ⟨W.heap.size + 1, 0, none⟩ (.int .u64 id)).setCell ⟨W.heap.size + 1, 1, none⟩ (.int .i64 r)).setCell ⟨W.heap.size + 1, 2, none⟩ (.slice la l.length lc)).frozen? ⟨W.heap.size + 1, i, none⟩ = false := fun i => by simp [go_sem, F3]
            have q7 : Below W.heap.size W (((w3.setCell ⟨W.heap.size + 1, 0, none⟩ (.int .u64 id)).setCell ⟨W.heap.size + 1, 1, none⟩ (.int .i64 r)).setCell ⟨W.heap.size + 1, 2, none⟩ (.slice la l.length lc)) := by (repeat (first | exact Below.refl _ _ | (with_reducible assumption) | (with_reducible refine bel_later ?_ _) | (with_reducible refine bel_alloc ?_ _) | (with_reducible refine bel_drew ?_) | (with_reducible refine bel_drewN ?_ _) | (with_reducible refine bel_set ?_ (by first | (simp; done) | (simp; omega) | (dsimp only; omega)) _)))
            generalize (((w3.setCell ⟨W.heap.size + 1, 0, none⟩ (.int .u64 id)).setCell ⟨W.heap.size + 1, 1, none⟩ (.int .i64 r)).setCell ⟨W.heap.size + 1, 2, none⟩ (.slice la l.length lc)) = w5 at *
            clear k0 k1 m0 m1 m2 F3 hB2 hB3 z3 z30 hz3 hz2
            have q50 : W.heap.size < w5.heap.size := by omega
            have Q6 := Lib.hid q6
            clear q6
            rcases hc with ⟨e1, e⟩ | ⟨e1, ⟨e2, e⟩ | ⟨e2, ⟨e3, e⟩ | ⟨e3, e⟩⟩⟩
            all_goals
              subst e
              refine wp_region_calm (by kernel_rfl) (by kernel_rfl) ?_
              repeat (first | (go_big_quiet_step ((first | (go_at_call 16; exact calls_calm (hlv.out _ (by (repeat (first | exact Below.refl _ _ | (with_reducible assumption) | (with_reducible refine bel_later ?_ _) | (with_reducible refine bel_alloc ?_ _) | (with_reducible refine bel_drew ?_) | (with_reducible refine bel_drewN ?_ _) | (with_reducible refine bel_set ?_ (by first | (simp; done) | (simp; omega) | (dsimp only; omega)) _)))) _)) | (go_at_call 19; exact calls_calm (hdd.out _ (by (repeat (first | exact Below.refl _ _ | (with_reducible assumption) | (with_reducible refine bel_later ?_ _) | (with_reducible refine bel_alloc ?_ _) | (with_reducible refine bel_drew ?_) | (with_reducible refine bel_drewN ?_ _) | (with_reducible refine bel_set ?_ (by first | (simp; done) | (simp; omega) | (dsimp only; omega)) _)))) _)) | (go_at_call 18; exact calls_calm_same (dist_any _ _ _))))) | (refine wpQuiet_step (fun K hK => ?_); go_simp; first | (refine hK _ ?_; clear hK K) | (apply Exists.intro; refine ⟨fun _ => ?_, hK _ ?_⟩; (first | (go_at_call 16; exact calls_calm (hlv.out _ (by (repeat (first | exact Below.refl _ _ | (with_reducible assumption) | (with_reducible refine bel_later ?_ _) | (with_reducible refine bel_alloc ?_ _) | (with_reducible refine bel_drew ?_) | (with_reducible refine bel_drewN ?_ _) | (with_reducible refine bel_set ?_ (by first | (simp; done) | (simp; omega) | (dsimp only; omega)) _)))) _)) | (go_at_call 19; exact calls_calm (hdd.out _ (by (repeat (first | exact Below.refl _ _ | (with_reducible assumption) | (with_reducible refine bel_later ?_ _) | (with_reducible refine bel_alloc ?_ _) | (with_reducible refine bel_drew ?_) | (with_reducible refine bel_drewN ?_ _) | (with_reducible refine bel_set ?_ (by first | (simp; done) | (simp; omega) | (dsimp only; omega)) _)))) _)) | (go_at_call 18; exact calls_calm_same (dist_any _ _ _))); clear hK K)))
              refine wpQuiet_nil ?_
              intro _ hw'
              obtain ⟨xq, hw''⟩ := hw'
              subst hw''
              go_wp2
              go_roundw
              case rel =>
                go_light
                have hz5 := xq.below.size
                refine ⟨k + 1, _, by omega, by go_num, rfl, bel_later q7 xq, by omega, by first | exact Or.inr hn | exact hco, ?_, ?_, ?_, ?_, ?_, fun i => ?_⟩
                · rw [later_cell xq _ _ q50]; exact q0
                · rw [later_cell xq _ _ q50]; exact q1
                · rw [later_cell xq _ _ q5]; exact q2
                · rw [later_cell xq _ _ q5]; exact q3
                · rw [later_cell xq _ _ q5]; exact q4
                · rw [later_frozen xq _ _ q5]; exact Q6.out i
              case measure => go_light; simp [intOf]; omega
        · obtain rfl : k = ss.length := by omega
          go_wp2_with fail
          refine (aw9_any _).mono ?_
          rintro e w2 ⟨rfl, hb2⟩
          have hz2 := hb2.size
          have k0 : w2.cell? ⟨W.heap.size, 0, none⟩ = some (.slice a1 L.length c1) := by rw [hb2.cell (by exact z0)]; exact k0
          have k1 : w2.cell? ⟨W.heap.size, 1, none⟩ = some (.slice a2 I.length c2) := by rw [hb2.cell (by exact z0)]; exact k1
          have m1 : w2.cell? ⟨W.heap.size + 1, 1, none⟩ = some (.int .i64 p) := by rw [hb2.cell (by exact z1)]; exact m1
          have hB2 := bel_below hBW hb2
          have hc : (p == pred) = true ∨ (p == pred) = false ∧ livesB L p = true := by
            cases h : p == pred
            · right; refine ⟨rfl, hor.out.resolve_left (fun e => ?_)⟩
              rw [e] at h; simp at h
            · exact Or.inl rfl
          rcases hc with e1 | ⟨e1, e2⟩
          · go_wp2
            go_ret
            exact ⟨by first | rfl | simp [e1], hB2⟩
          · go_wp2_with (go_at_call 16; refine (hlv.out _ hB2 _).mono ?_; rintro e w3 ⟨rfl, hb3⟩)
            go_ret
            exact ⟨by first | rfl | simp [e2], bel_below hB2 hb3⟩

theorem peerCloser_walk {H : Type} (enc : TypeId × Value → H) (W : World) (v0 : Value) (d0 : DataW H) (p0 : List MemPlace) {r0 : Reach} {b0 : Nat} (ok0 : Value.okWide Try.prog W r0 b0 25 v0) (h0 : DataW.Trod enc Try.prog W 0 (fun _ => true) true 25 v0 d0 p0)
    (hlt0 : ∀ x ∈ p0, x.block < W.heap.size) (sz0 : ∀ n ∈ d0.weights Try.prog 25, n ≤ reachBytes)
    (v1 : Value) (d1 : DataW H) (p1 : List MemPlace) {r1 : Reach} {b1 : Nat} (ok1 : Value.okWide Try.prog W r1 b1 30 v1) (h1 : DataW.Trod enc Try.prog W 0 (fun _ => true) true 30 v1 d1 p1)
    (hlt1 : ∀ x ∈ p1, x.block < W.heap.size) (sz1 : ∀ n ∈ d1.weights Try.prog 30, n ≤ reachBytes)
    (v2 : Value) (d2 : DataW H) (p2 : List MemPlace) {r2 : Reach} {b2 : Nat} (ok2 : Value.okWide Try.prog W r2 b2 28 v2) (h2 : DataW.Trod enc Try.prog W 0 (fun _ => true) true 28 v2 d2 p2)
    (hlt2 : ∀ x ∈ p2, x.block < W.heap.size) (sz2 : ∀ n ∈ d2.weights Try.prog 28, n ≤ reachBytes) :
    Calls Try.prog 3 #[v0, v1, v2] W fun e W' => e = .returned (.bool true) ∧ Below W.heap.size W W' := by
  obtain ⟨L, I, hW, hIw, hL, hI⟩ := world_of_trod ok0 h0
  obtain ⟨id, pred, l, hp, hid, _, hl⟩ := peer_of_trod ok1 h1
  obtain ⟨a, l, c, rfl⟩ := okWide_slice Try.underlying28 ok2
  obtain ⟨fuel, hf⟩ := h2
  obtain ⟨ss, hs, _⟩ := ints_of_trod Try.underlying28 cellsInt Try.underlying3 hf
  exact peerCloser_at W v0 L I hW hL hI (fun z hz => place_of (hIw z hz)) v1 id pred _ hp (place_of hid) _ ss hs (by obtain ⟨_, _, _, h2, h3, _⟩ := hs; exact Nat.le_trans h2 h3)
end Go.Proofs.Ytcdgpfhllbdooaa
