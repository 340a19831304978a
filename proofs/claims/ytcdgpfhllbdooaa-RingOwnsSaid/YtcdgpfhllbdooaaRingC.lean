/-
  The laws of layer 1 over numbers: RingRound, RingTurned, RingChain: for all places, whatever the memory; no conditions.
-/
import Derived.Test.YtcdgpfhllbdooaaRingB
namespace Go.Proofs.Ytcdgpfhllbdooaa
open Go.RowKit
set_option linter.unusedVariables false
set_option linter.unusedSimpArgs false

theorem aw_any (w : World) : Calls Try.prog 23 #[] w fun e w' => e = .returned (.bool true) ∧ Below w.heap.size w w' := by
  have f1 : dist 5 3 = 18446744073709551614 := by decide +kernel
  have f2 : inB 3 5 3 = true := by decide +kernel
  have f3 : withinB 3 5 3 = false := by decide +kernel
  have f4 : inB 4 5 3 = false := by decide +kernel
  have f5 : ownerI [3, 9] 10 = 0 := by decide +kernel
  have F5 := Lib.hid f5
  clear f5
  have own := fun (g : Nat) (wx : World) (h0 : wx.cell? ⟨g, 0, none⟩ = some (.int .u64 3)) (h1 : wx.cell? ⟨g, 0 + 1, none⟩ = some (.int .u64 9)) =>
    owner_any [3, 9] (by decide) 10 (some ⟨g, 0, none⟩) 2 wx (by decide) (fun i hi => ⟨g, 0, rfl, by
      rcases i with _ | _ | i
      · exact h0
      · exact h1
      · simp at hi; omega⟩)
  have OWN := Lib.hid own
  clear own
  go_enter Try.func23, Try.ntmps23
  go_wp2_with (first | (go_at_call 37; refine (OWN.out _ _ (by simp [go_sem]) (by simp [go_sem])).mono ?_; rintro e w' ⟨rfl, rfl⟩) | (go_at_call 18; refine (dist_any _ _ _).mono ?_; rintro e w' ⟨rfl, rfl⟩) | (go_at_call 25; refine (in_any _ _ _ _).mono ?_; rintro e w' ⟨rfl, rfl⟩) | (go_at_call 24; refine (within_any _ _ _ _).mono ?_; rintro e w' ⟨rfl, rfl⟩))
  go_ret
  exact ⟨rfl, (Below.refl _ _).alloc (Nat.le_refl _) _⟩

theorem dist_turned (a b y : Int) : dist ((a + y) % 18446744073709551616) ((b + y) % 18446744073709551616) = dist a b := by unfold dist; omega
theorem in_turned (x a b y : Int) (hx : isPlace x) (ha : isPlace a) (hb : isPlace b) : inB ((x + y) % 18446744073709551616) ((a + y) % 18446744073709551616) ((b + y) % 18446744073709551616) = inB x a b := by
  unfold inB; rw [dist_turned, dist_turned]
  congr 1
  rw [Bool.eq_iff_iff, beq_iff_eq, beq_iff_eq]; unfold isPlace at *; omega
theorem within_turned (x a b y : Int) (hx : isPlace x) (ha : isPlace a) (hb : isPlace b) : withinB ((x + y) % 18446744073709551616) ((a + y) % 18446744073709551616) ((b + y) % 18446744073709551616) = withinB x a b := by
  unfold withinB; rw [dist_turned, dist_turned]
  have e1 : ((a + y) % 18446744073709551616 == (b + y) % 18446744073709551616) = (a == b) := by
    rw [Bool.eq_iff_iff, beq_iff_eq, beq_iff_eq]; unfold isPlace at *; omega
  have e2 : ((x + y) % 18446744073709551616 != (a + y) % 18446744073709551616) = (x != a) := by
    rw [Bool.eq_iff_iff, bne_iff_ne, bne_iff_ne]; unfold isPlace at *; omega
  rw [e1, e2]
theorem place_of {a : Int} (h : (Lit.int .u64 a).wf = true) : isPlace a := by
  simp [Lit.wf, IntKind.min, IntKind.max, IntKind.bits, IntKind.signed] at h; unfold isPlace; omega
theorem int_of {a : Int} (h : (Lit.int .i64 a).wf = true) : -9223372036854775808 ≤ a ∧ a < 9223372036854775808 := by
  simp [Lit.wf, IntKind.min, IntKind.max, IntKind.bits, IntKind.signed] at h; omega
theorem u64_sum (a b : Int) : IntKind.u64.wrap (a + b) = (a + b) % 18446744073709551616 := IntKind.wrap_u64 _


theorem ringTurned_walk (W : World) (x : Int) (hx : (Lit.int .u64 x).wf = true) (a : Int) (ha : (Lit.int .u64 a).wf = true) (b : Int) (hb : (Lit.int .u64 b).wf = true) (y : Int) (hy : (Lit.int .u64 y).wf = true) :
    Calls Try.prog 7 #[.int .u64 x, .int .u64 a, .int .u64 b, .int .u64 y] W fun e W' => e = .returned (.bool true) ∧ Below W.heap.size W W' := by
  have t1 : dist (IntKind.u64.wrap (a + y)) (IntKind.u64.wrap (b + y)) = dist a b := by rw [u64_sum, u64_sum]; exact dist_turned a b y
  have t2 : inB (IntKind.u64.wrap (x + y)) (IntKind.u64.wrap (a + y)) (IntKind.u64.wrap (b + y)) = inB x a b := by rw [u64_sum, u64_sum, u64_sum]; exact in_turned x a b y (place_of hx) (place_of ha) (place_of hb)
  have t3 : withinB (IntKind.u64.wrap (x + y)) (IntKind.u64.wrap (a + y)) (IntKind.u64.wrap (b + y)) = withinB x a b := by rw [u64_sum, u64_sum, u64_sum]; exact within_turned x a b y (place_of hx) (place_of ha) (place_of hb)
  clear hx ha hb hy
  go_enter Try.func7, Try.ntmps7
  go_wp2_with (first | (go_at_call 18; refine (dist_any _ _ _).mono ?_; rintro e w' ⟨rfl, rfl⟩) | (go_at_call 25; refine (in_any _ _ _ _).mono ?_; rintro e w' ⟨rfl, rfl⟩) | (go_at_call 24; refine (within_any _ _ _ _).mono ?_; rintro e w' ⟨rfl, rfl⟩) | (go_at_call 23; refine (aw_any _).mono ?_; rintro e w' ⟨rfl, hb⟩))
  go_ret
  exact ⟨rfl, by assumption⟩

theorem round_1 (a b : Int) : IntKind.u64.wrap (dist a b + dist b a) = 0 := by rw [IntKind.wrap_u64]; unfold dist; omega
theorem round_2 {a b x : Int} (ha : isPlace a) (hb : isPlace b) (hx : isPlace x) (h1 : a ≠ b) (h2 : x ≠ a) (h3 : x ≠ b) : withinB x b a = !withinB x a b := by
  unfold withinB isPlace at *
  rw [show (b == a) = false from by simp; omega, show (a == b) = false from by simp; omega]
  rw [show (x != a) = true from by simp; omega, show (x != b) = true from by simp; omega]
  simp only [Bool.false_eq_true, if_false, Bool.true_and]
  rw [Bool.eq_iff_iff, Bool.not_eq_true', decide_eq_true_eq, decide_eq_false_iff_not]; unfold dist; omega
theorem round_3 {a b x : Int} (ha : isPlace a) (hb : isPlace b) (hx : isPlace x) (h1 : a ≠ b) (h2 : x ≠ a) (h3 : x ≠ b) : inB x a b = withinB x a b := by
  unfold withinB inB isPlace at *
  rw [show (a == b) = false from by simp; omega]
  rw [show (x != a) = true from by simp; omega, show (dist a x != 0) = true from by simp [dist]; omega]
  simp only [Bool.false_eq_true, if_false, Bool.true_and, Bool.false_or]
  rw [decide_eq_decide]; unfold dist; omega
theorem round_4 {a b x : Int} (ha : isPlace a) (hb : isPlace b) (hx : isPlace x) (h1 : a ≠ b) (h2 : x ≠ a) (h3 : x ≠ b) : withinB a x b = withinB b a x := by
  unfold withinB isPlace at *
  rw [show (x == b) = false from by simp; omega, show (a == x) = false from by simp; omega]
  rw [show (a != x) = true from by simp; omega, show (b != a) = true from by simp; omega]
  simp only [Bool.false_eq_true, if_false, Bool.true_and]
  rw [decide_eq_decide]; unfold dist; omega

theorem ringRound_walk (W : World) (a : Int) (ha : (Lit.int .u64 a).wf = true) (b : Int) (hb : (Lit.int .u64 b).wf = true) (x : Int) (hx : (Lit.int .u64 x).wf = true) :
    Calls Try.prog 6 #[.int .u64 a, .int .u64 b, .int .u64 x] W fun e W' => e = .returned (.bool true) ∧ Below W.heap.size W W' := by
  have r1 := round_1 a b
  by_cases h : a = b ∨ x = a ∨ x = b
  · have hB := Below.refl W.heap.size W
    have e1 : (a == b) = true ∨ (a == b) = false ∧ ((x == a) = true ∨ (x == a) = false ∧ (x == b) = true) := by simp; omega
    clear ha hb hx h
    rcases e1 with e1 | ⟨e1, e2 | ⟨e2, e3⟩⟩ <;>
    · go_enter Try.func6, Try.ntmps6
      go_wp2_with (first | (go_at_call 18; refine (dist_any _ _ _).mono ?_; rintro e w' ⟨rfl, rfl⟩) | (go_at_call 25; refine (in_any _ _ _ _).mono ?_; rintro e w' ⟨rfl, rfl⟩) | (go_at_call 24; refine (within_any _ _ _ _).mono ?_; rintro e w' ⟨rfl, rfl⟩) | (go_at_call 23; refine (aw_any _).mono ?_; rintro e w' ⟨rfl, hb⟩))
      go_ret
      exact ⟨rfl, by assumption⟩
  · have h1 : a ≠ b := by omega
    have h2 : x ≠ a := by omega
    have h3 : x ≠ b := by omega
    have r2 := round_2 (place_of ha) (place_of hb) (place_of hx) h1 h2 h3
    have r3 := round_3 (place_of ha) (place_of hb) (place_of hx) h1 h2 h3
    have r4 := round_4 (place_of ha) (place_of hb) (place_of hx) h1 h2 h3
    have e1 : (a == b) = false := beq_eq_false_iff_ne.2 h1
    have e2 : (x == a) = false := beq_eq_false_iff_ne.2 h2
    have e3 : (x == b) = false := beq_eq_false_iff_ne.2 h3
    clear ha hb hx h h1 h2 h3
    go_enter Try.func6, Try.ntmps6
    go_wp2_with (first | (go_at_call 18; refine (dist_any _ _ _).mono ?_; rintro e w' ⟨rfl, rfl⟩) | (go_at_call 25; refine (in_any _ _ _ _).mono ?_; rintro e w' ⟨rfl, rfl⟩) | (go_at_call 24; refine (within_any _ _ _ _).mono ?_; rintro e w' ⟨rfl, rfl⟩) | (go_at_call 23; refine (aw_any _).mono ?_; rintro e w' ⟨rfl, hb⟩))
    all_goals (go_ret; exact ⟨by simp, by assumption⟩)

theorem chain_1 {a b c : Int} (ha : isPlace a) (hb : isPlace b) (hc : isPlace c) (h : inB b a c = true) (h1 : a ≠ c) (h2 : b ≠ c) : IntKind.u64.wrap (dist a b + dist b c) = dist a c ∧ dist a b ≤ dist a c := by
  unfold inB at h
  rw [show (a == c) = false from by simp; omega] at h
  simp only [Bool.false_or, Bool.and_eq_true, bne_iff_ne, decide_eq_true_eq] at h
  rw [IntKind.wrap_u64]
  unfold isPlace dist at *; omega

theorem ringChain_walk (W : World) (a : Int) (ha : (Lit.int .u64 a).wf = true) (b : Int) (hb : (Lit.int .u64 b).wf = true) (c : Int) (hc : (Lit.int .u64 c).wf = true) :
    Calls Try.prog 8 #[.int .u64 a, .int .u64 b, .int .u64 c] W fun e W' => e = .returned (.bool true) ∧ Below W.heap.size W W' := by
  by_cases h : inB b a c = true ∧ a ≠ c ∧ b ≠ c
  · obtain ⟨h0, h1, h2⟩ := h
    obtain ⟨c1, c2⟩ := chain_1 (place_of ha) (place_of hb) (place_of hc) h0 h1 h2
    have e1 : (a == c) = false := beq_eq_false_iff_ne.2 h1
    have e2 : (b == c) = false := beq_eq_false_iff_ne.2 h2
    clear ha hb hc h1 h2
    go_enter Try.func8, Try.ntmps8
    go_wp2_with (first | (go_at_call 18; refine (dist_any _ _ _).mono ?_; rintro e w' ⟨rfl, rfl⟩) | (go_at_call 25; refine (in_any _ _ _ _).mono ?_; rintro e w' ⟨rfl, rfl⟩) | (go_at_call 24; refine (within_any _ _ _ _).mono ?_; rintro e w' ⟨rfl, rfl⟩) | (go_at_call 23; refine (aw_any _).mono ?_; rintro e w' ⟨rfl, hb⟩))
    go_ret
    exact ⟨by simp [c2], by assumption⟩
  · have e0 : inB b a c = false ∨ inB b a c = true ∧ ((a == c) = true ∨ (a == c) = false ∧ (b == c) = true) := by
      cases hi : inB b a c
      · exact Or.inl rfl
      · right; simp [hi] at h; refine ⟨rfl, ?_⟩; simp; omega
    clear ha hb hc h
    rcases e0 with e0 | ⟨e0, e1 | ⟨e1, e2⟩⟩ <;>
    · go_enter Try.func8, Try.ntmps8
      go_wp2_with (first | (go_at_call 18; refine (dist_any _ _ _).mono ?_; rintro e w' ⟨rfl, rfl⟩) | (go_at_call 25; refine (in_any _ _ _ _).mono ?_; rintro e w' ⟨rfl, rfl⟩) | (go_at_call 24; refine (within_any _ _ _ _).mono ?_; rintro e w' ⟨rfl, rfl⟩) | (go_at_call 23; refine (aw_any _).mono ?_; rintro e w' ⟨rfl, hb⟩))
      go_ret
      exact ⟨rfl, by assumption⟩
end Go.Proofs.Ytcdgpfhllbdooaa
