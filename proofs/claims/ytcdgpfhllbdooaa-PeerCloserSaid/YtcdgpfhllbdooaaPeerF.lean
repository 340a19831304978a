
/-
  The law PeerHeads: for every world and list, whatever the memory; no conditions.
-/
import Derived.Test.YtcdgpfhllbdooaaPeerE
namespace Go.Proofs.Ytcdgpfhllbdooaa
open Go.RowKit Go.Joins Go.WideShapes Go.ChangeShapes
set_option linter.unusedVariables false
set_option linter.unusedSimpArgs false
attribute [local go_sem] later_cell later_frozen later_lt

theorem cellsWorld : Try.prog.cellsOf 25 = 2 := by kernel_rfl
theorem cellsBool : Try.prog.cellsOf 4 = 1 := by kernel_rfl
theorem cellsId : Try.prog.cellsOf 27 = 1 := by kernel_rfl
theorem cellsInt : Try.prog.cellsOf 3 = 1 := by kernel_rfl
theorem world_of_trod {H : Type} {enc : TypeId × Value → H} {W : World} {r : Reach} {b0 : Nat} {v : Value} {d : DataW H} {p : List MemPlace} (hv : Value.okWide Try.prog W r b0 25 v)
    (h : DataW.Trod enc Try.prog W 0 (fun _ => true) true 25 v d p) : ∃ L I, WorldAt W v L I ∧ (∀ z ∈ I, (Lit.int .u64 z).wf = true) ∧ L.length ≤ maxLen ∧ I.length ≤ maxLen := by
  obtain ⟨v0, v1, y0, y1, n, rfl, _, _, h0, h1⟩ := open_agg2 Try.underlying25 (by kernel_rfl) cellsWorld hv h
  obtain ⟨L, hL⟩ := bools_of_trod Try.underlying22 cellsBool Try.underlying4 h0
  obtain ⟨I, hI, hw⟩ := ints_of_trod Try.underlying23 cellsId Try.underlying27 h1
  refine ⟨L, I, ⟨_, _, rfl, hL, hI⟩, hw, ?_, ?_⟩
  · obtain ⟨_, _, _, h2, h3, _⟩ := hL; exact Nat.le_trans h2 h3
  · obtain ⟨_, _, _, h2, h3, _⟩ := hI; exact Nat.le_trans h2 h3

theorem headB_lives (L : List Bool) (l : List Int) (k : Nat) (hk : k < l.length) (h : ∀ j, j < k → livesB L (nth l j) = false) (h1 : livesB L (nth l k) = true) : headB L l = nth l k := by
  induction l generalizing k with
  | nil => simp at hk
  | cons x l ih =>
    cases k with
    | zero => rw [nth_zero] at h1 ⊢; simp [headB, h1]
    | succ k =>
      have h0 := h 0 (by omega)
      rw [nth_zero] at h0
      rw [nth_succ] at h1 ⊢
      simp only [headB, h0]
      exact ih k (by simp at hk; omega) (fun j hj => by simpa [nth_succ] using h (j + 1) (by omega)) h1
theorem headB_none (L : List Bool) (l : List Int) (h : ∀ j, j < l.length → livesB L (nth l j) = false) : headB L l = -1 := by
  induction l with
  | nil => rfl
  | cons x l ih =>
    have h0 := h 0 (by simp)
    rw [nth_zero] at h0
    simp only [headB, h0]
    exact ih (fun j hj => by simpa [nth_succ] using h (j + 1) (by simp; omega))
/-- The head lives, or it is none and nobody lives. -/
theorem headB_or (L : List Bool) (l : List Int) : (livesB L (headB L l) = true) ∨ headB L l = -1 ∧ ∀ j, j < l.length → livesB L (nth l j) = false := by
  induction l with
  | nil => exact Or.inr ⟨rfl, fun j hj => by simp at hj⟩
  | cons x l ih =>
    by_cases h : livesB L x = true
    · exact Or.inl (by simp [headB, h])
    · simp only [Bool.not_eq_true] at h
      rcases ih with h1 | ⟨h1, h2⟩
      · exact Or.inl (by simpa [headB, h] using h1)
      · refine Or.inr ⟨by simpa [headB, h] using h1, fun j hj => ?_⟩
        cases j with
        | zero => exact h
        | succ j => rw [nth_succ]; exact h2 j (by simp at hj; omega)
theorem livesB_neg (L : List Bool) : livesB L (-1) = false := by simp [livesB]

set_option maxHeartbeats 1000000 in
theorem peerHeads_at (W : World) (v : Value) (L : List Bool) (I : List Int) (hv : WorldAt W v L I) (hm : L.length ≤ maxLen) (lv : Value) (l : List Int) (hl : SlAt 0 (fun i => .int .i64 (nth l i)) l.length W lv) (hlm : l.length ≤ maxLen) :
    Calls Try.prog 5 #[v, lv] W fun e W' => e = .returned (.bool true) ∧ Below W.heap.size W W' := by
  have hlv := Lib.hid fun (wr : World) (hb : Below W.heap.size W wr) (n : Int) => lives_any wr v L I (hv.below hb) n hm
  have hhd := Lib.hid fun (wr : World) (hb : Below W.heap.size W wr) (hq : l.length ≤ 4000000000) => head_any wr v L I (hv.below hb) hm _ 0 0 l ⟨lv, rfl, hl.below hb⟩ hq
  obtain ⟨x1, x2, rfl, hx1, hx2⟩ := hv
  obtain ⟨a1, c1, rfl, _⟩ := hx1
  obtain ⟨a2, c2, rfl, _⟩ := hx2
  obtain ⟨la, lc, rfl, _, _, _, hl⟩ := hl
  have hm' : L.length ≤ 9223372036854775807 := hm
  have hlm' : l.length ≤ 9223372036854775807 := hlm
  clear hm hlm
  by_cases g1 : 40 < L.length
  · clear hl
    go_enter Try.func5, Try.ntmps5
    go_wp2_with (go_at_call 15; refine (aw9_any _).mono ?_; rintro e w' ⟨rfl, hb⟩)
    go_ret
    exact ⟨rfl, bel_below (bel_alloc (Below.refl _ _) _) hb⟩
  by_cases g2 : 20 < l.length
  · clear hl
    go_enter Try.func5, Try.ntmps5
    go_wp2_with (go_at_call 15; refine (aw9_any _).mono ?_; rintro e w' ⟨rfl, hb⟩)
    go_ret
    exact ⟨rfl, bel_below (bel_alloc (Below.refl _ _) _) hb⟩
  have hcell := Lib.hid fun (k : Nat) (h : k < l.length) (wr : World) (hB : Below W.heap.size W wr) => (by
    obtain ⟨b, off, rfl, _, hb, hc⟩ := hl.resolve_left (by omega)
    exact ⟨b, off, rfl, (hB.cell (p := ⟨b, off + k, none⟩) hb).trans (hc k h)⟩ : ∃ b off : Nat, la = some ⟨b, off, none⟩ ∧ wr.cell? ⟨b, off + k, none⟩ = some (.int .i64 (nth l k)))
  clear hl
  have hq : l.length ≤ 4000000000 := by omega
  go_enter Try.func5, Try.ntmps5
  go_wp2_with (go_at_call 22; refine (hhd.out _ (by (repeat (first | exact Below.refl _ _ | (with_reducible assumption) | (with_reducible refine bel_later ?_ _) | (with_reducible refine bel_alloc ?_ _) | (with_reducible refine bel_drew ?_) | (with_reducible refine bel_drewN ?_ _) | (with_reducible refine bel_set ?_ (by first | (simp; done) | (simp; omega) | (dsimp only; omega)) _)))) hq).mono ?_; rintro e w1 ⟨rfl, hb⟩)
  have hB1 : Below W.heap.size W w1 := bel_below (bel_alloc (Below.refl _ _) _) hb
  have k0 : w1.cell? ⟨W.heap.size, 0, none⟩ = some (.slice a1 L.length c1) := by rw [hb.cell (by simp)]; simp [go_sem]
  have k1 : w1.cell? ⟨W.heap.size, 1, none⟩ = some (.slice a2 I.length c2) := by rw [hb.cell (by simp)]; simp [go_sem]
  have z1 : W.heap.size < w1.heap.size := by have := hb.size; simp at this; omega
  clear hb
  obtain ⟨w0, rfl⟩ : ∃ w0 : World, w0 = w1 := ⟨_, rfl⟩
  go_loopw [7, 25] (fun _ i wr => ∃ k : Nat, k ≤ l.length ∧ i = .int .i64 k ∧ Below w0.heap.size w0 wr ∧ Hid (∀ j, j < k → livesB L (nth l j) = false)) (fun _ i _ => l.length - (intOf i).toNat)
  case atStart => exact ⟨0, Nat.zero_le _, rfl, Below.refl _ _, fun j hj => absurd hj (by omega)⟩
  case round =>
    obtain ⟨k, hk, rfl, hB, hall⟩ := hrel
    have r0 : wr.cell? ⟨W.heap.size, 0, none⟩ = some (.slice a1 L.length c1) := by rw [hB.cell z1]; exact k0
    have r1 : wr.cell? ⟨W.heap.size, 1, none⟩ = some (.slice a2 I.length c2) := by rw [hB.cell z1]; exact k1
    have hBW := bel_below hB1 hB
    by_cases hlt : k < l.length
    · obtain ⟨b, off, rfl, ck⟩ := hcell.out k hlt wr hBW
      have hc3 : livesB L (nth l k) = true ∧ (headB L l == -1) = false ∧ (nth l k == headB L l) = true ∨ livesB L (nth l k) = false ∧ ((headB L l == -1) = true ∨ (headB L l == -1) = false ∧ (nth l k == headB L l) = false) := by
        cases h1 : livesB L (nth l k)
        · right
          refine ⟨rfl, ?_⟩
          rcases headB_or L l with h2 | ⟨h2, _⟩
          · right
            rw [beq_eq_false_iff_ne, beq_eq_false_iff_ne]
            refine ⟨fun e => ?_, fun e => ?_⟩
            · rw [e, livesB_neg] at h2; cases h2
            · rw [← e, h1] at h2; cases h2
          · left; rw [h2]; rfl
        · left
          have := headB_lives L l k hlt hall.out h1
          refine ⟨rfl, ?_, by rw [this]; simp⟩
          rw [this, beq_eq_false_iff_ne]
          intro e; rw [e, livesB_neg] at h1; cases h1
      rcases hc3 with ⟨f1, f2, f3⟩ | ⟨f1, f2⟩
      · have f4 : (headB L l != -1) = true := by rw [bne, f2]; rfl
        go_wp2_with (first | (go_at_call 15; refine (aw9_any _).mono ?_; rintro e w2 ⟨rfl, hb⟩; have r0 : w2.cell? ⟨W.heap.size, 0, none⟩ = some (.slice a1 L.length c1) := (by rw [hb.cell (Nat.lt_of_lt_of_le z1 hB.size)]; exact r0); have r1 : w2.cell? ⟨W.heap.size, 1, none⟩ = some (.slice a2 I.length c2) := (by rw [hb.cell (Nat.lt_of_lt_of_le z1 hB.size)]; exact r1)) | (go_at_call 16; refine (hlv.out _ (bel_below hBW hb) _).mono ?_; rintro e w3 ⟨rfl, hb3⟩))
        go_ret
        exact ⟨by first | rfl | simp [f1], bel_below (bel_below hBW hb) hb3⟩
      · have f4 : (headB L l != -1) = false ∨ (headB L l != -1) = true ∧ (nth l k == headB L l) = false := by
          rcases f2 with f2 | ⟨f2, f3⟩
          · left; rw [bne, f2]; rfl
          · right; exact ⟨by rw [bne, f2]; rfl, f3⟩
        clear f2
        rcases f4 with f4 | ⟨f4, f5⟩ <;>
        · go_wp2_with (go_at_call 16; refine (hlv.out _ hBW _).mono ?_; rintro e w3 ⟨rfl, hb3⟩)
          go_roundw
          case rel =>
            go_light
            refine ⟨k + 1, by omega, by go_num, bel_below hB hb3, fun j hj => ?_⟩
            by_cases e : j = k
            · subst e; exact f1
            · exact hall.out j (by omega)
          case measure => go_light; simp [intOf]; omega
    · obtain rfl : k = l.length := by omega
      have E := headB_none L l hall.out
      have f1 : (headB L l == -1) = true := by rw [E]; rfl
      clear E
      go_wp2_with (go_at_call 15; refine (aw9_any _).mono ?_; rintro e w2 ⟨rfl, hb⟩)
      go_ret
      exact ⟨by first | rfl | simp [f1], bel_below hBW hb⟩

theorem peerHeads_walk {H : Type} (enc : TypeId × Value → H) (W : World) (v0 : Value) (d0 : DataW H) (p0 : List MemPlace) {r0 : Reach} {b0 : Nat} (ok0 : Value.okWide Try.prog W r0 b0 25 v0) (h0 : DataW.Trod enc Try.prog W 0 (fun _ => true) true 25 v0 d0 p0)
    (hlt0 : ∀ x ∈ p0, x.block < W.heap.size) (sz0 : ∀ n ∈ d0.weights Try.prog 25, n ≤ reachBytes)
    (v1 : Value) (d1 : DataW H) (p1 : List MemPlace) {r1 : Reach} {b1 : Nat} (ok1 : Value.okWide Try.prog W r1 b1 28 v1) (h1 : DataW.Trod enc Try.prog W 0 (fun _ => true) true 28 v1 d1 p1)
    (hlt1 : ∀ x ∈ p1, x.block < W.heap.size) (sz1 : ∀ n ∈ d1.weights Try.prog 28, n ≤ reachBytes) :
    Calls Try.prog 5 #[v0, v1] W fun e W' => e = .returned (.bool true) ∧ Below W.heap.size W W' := by
  obtain ⟨L, I, hW, _, hL, hI⟩ := world_of_trod ok0 h0
  obtain ⟨a, l, c, rfl⟩ := okWide_slice Try.underlying28 ok1
  obtain ⟨fuel, hf⟩ := h1
  obtain ⟨l, hl, _⟩ := ints_of_trod Try.underlying28 cellsInt Try.underlying3 hf
  exact peerHeads_at W v0 L I hW hL _ l hl (by obtain ⟨_, _, _, h2, h3, _⟩ := hl; exact Nat.le_trans h2 h3)
end Go.Proofs.Ytcdgpfhllbdooaa
