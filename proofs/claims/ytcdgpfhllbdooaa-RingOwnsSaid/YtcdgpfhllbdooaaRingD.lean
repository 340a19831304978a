/-
  Start, and the reference's Dist, In, Within, Start; the laws RingLies and RingFingers: for all places and numbers, whatever the memory; no conditions.
-/
import Derived.Test.YtcdgpfhllbdooaaRingC
namespace Go.Proofs.Ytcdgpfhllbdooaa
open Go.RowKit
set_option linter.unusedVariables false
set_option linter.unusedSimpArgs false

theorem pow_bd (n : Nat) (h : n ≤ 63) : (1 : Int) ≤ 2 ^ n ∧ (2 : Int) ^ n ≤ 9223372036854775808 := by
  have h1 : (1 : Nat) ≤ 2 ^ n := Nat.one_le_two_pow
  have h2 : (2 : Nat) ^ n ≤ 2 ^ 63 := Nat.pow_le_pow_right (by omega) h
  have h3 : (2 : Nat) ^ 63 = 9223372036854775808 := by decide +kernel
  rw [h3] at h2
  have e : ((2 : Int) ^ n) = ((2 ^ n : Nat) : Int) := by rw [Int.natCast_pow]; rfl
  rw [e]; generalize (2 : Nat) ^ n = t at *; omega
def isInt (n : Int) : Prop := -9223372036854775808 ≤ n ∧ n < 9223372036854775808
theorem start_out {x n : Int} (h : ¬ (0 ≤ n ∧ n ≤ 63)) : start x n = x := by unfold start; rw [if_neg h]
theorem start_in {x n : Int} (h : 0 ≤ n ∧ n ≤ 63) : start x n = (x + 2 ^ n.toNat) % 18446744073709551616 := by unfold start; rw [if_pos h]

theorem start_any (x n : Int) (w : World) (hn : isInt n) :
    Calls Try.prog 29 #[.int .u64 x, .int .i64 n] w fun e w' => e = .returned (.int .u64 (start x n)) ∧ w = w' := by
  by_cases h : 0 ≤ n ∧ n ≤ 63
  · have e := start_in (x := x) h
    have E := Lib.hid e
    have h1 : ¬ n < 0 := by omega
    have h2 : ¬ 63 < n := by omega
    have h3 : 0 ≤ n := h.1
    clear e
    go_enter Try.func29, Try.ntmps29
    go_wp2
    go_ret
    have hp := pow_bd n.toNat (by omega)
    exact ⟨by rw [E.out]; show Ending.returned (.int .u64 (IntKind.u64.wrap (x + IntKind.u64.wrap (2 ^ n.toNat)))) = _; rw [IntKind.wrap_u64, IntKind.wrap_u64, Int.emod_eq_of_lt (a := 2 ^ n.toNat) (by omega) (by omega)], rfl⟩
  · have e := start_out (x := x) h
    have E := Lib.hid e
    have h1 : n < 0 ∨ ¬ n < 0 ∧ 63 < n := by omega
    clear e h
    rcases h1 with h1 | ⟨h1, h2⟩ <;>
    · go_enter Try.func29, Try.ntmps29
      go_wp2
      go_ret
      exact ⟨by rw [E.out]; first | done | rfl, rfl⟩

theorem rdist_any (a b : Int) (w : World) (ha : isPlace a) (hb : isPlace b) :
    Calls Try.prog 26 #[.int .u64 a, .int .u64 b] w fun e w' => e = .returned (.int .u64 (dist a b)) ∧ w = w' := by
  have e1 : a ≤ b → IntKind.u64.wrap (b - a) = dist a b := by rw [IntKind.wrap_u64]; intro h; rfl
  have e2 : b < a → IntKind.u64.wrap (IntKind.u64.wrap (18446744073709551615 - IntKind.u64.wrap (a - b)) + 1) = dist a b := by
    simp only [IntKind.wrap_u64]; unfold dist isPlace at *; omega
  have E1 := Lib.hid e1
  have E2 := Lib.hid e2
  clear e1 e2
  go_enter Try.func26, Try.ntmps26
  go_wp2
  · go_ret
    exact ⟨congrArg (fun z => Ending.returned (.int .u64 z)) (E1.out (by assumption)), rfl⟩
  · go_ret
    exact ⟨congrArg (fun z => Ending.returned (.int .u64 z)) (E2.out (by assumption)), rfl⟩

theorem rin_eq {x a b : Int} (hx : isPlace x) (ha : isPlace a) (hb : isPlace b) :
    inB x a b = (if a == b then true else if a < b then decide (a < x) && decide (x ≤ b) else decide (a < x) || decide (x ≤ b)) := by
  by_cases h : a = b
  · simp [inB, h]
  · have e : (a == b) = false := by simp [h]
    unfold inB; rw [e]; simp only [Bool.false_or, Bool.false_eq_true, if_false]
    rw [Bool.eq_iff_iff, Bool.and_eq_true, bne_iff_ne, decide_eq_true_eq]
    unfold isPlace dist at *
    by_cases h2 : a < b
    · rw [if_pos h2, Bool.and_eq_true, decide_eq_true_eq, decide_eq_true_eq]; omega
    · rw [if_neg h2, Bool.or_eq_true, decide_eq_true_eq, decide_eq_true_eq]; omega
theorem rwithin_eq {x a b : Int} (hx : isPlace x) (ha : isPlace a) (hb : isPlace b) :
    withinB x a b = (if a == b then x != a else if a < b then decide (a < x) && decide (x < b) else decide (a < x) || decide (x < b)) := by
  by_cases h : a = b
  · simp [withinB, h]
  · have e : (a == b) = false := by simp [h]
    unfold withinB; rw [e]; simp only [Bool.false_eq_true, if_false]
    rw [Bool.eq_iff_iff, Bool.and_eq_true, bne_iff_ne, decide_eq_true_eq]
    unfold isPlace dist at *
    by_cases h2 : a < b
    · rw [if_pos h2, Bool.and_eq_true, decide_eq_true_eq, decide_eq_true_eq]; omega
    · rw [if_neg h2, Bool.or_eq_true, decide_eq_true_eq, decide_eq_true_eq]; omega

theorem rin_any (x a b : Int) (w : World) (hx : isPlace x) (ha : isPlace a) (hb : isPlace b) :
    Calls Try.prog 27 #[.int .u64 x, .int .u64 a, .int .u64 b] w fun e w' => e = .returned (.bool (inB x a b)) ∧ w = w' := by
  have E := Lib.hid (rin_eq hx ha hb)
  go_enter Try.func27, Try.ntmps27
  go_wp2
  all_goals (go_ret; go_light; exact ⟨by rw [E.out]; simp_all <;> (intros; first | omega | (exfalso; omega)), rfl⟩)
theorem rwithin_any (x a b : Int) (w : World) (hx : isPlace x) (ha : isPlace a) (hb : isPlace b) :
    Calls Try.prog 28 #[.int .u64 x, .int .u64 a, .int .u64 b] w fun e w' => e = .returned (.bool (withinB x a b)) ∧ w = w' := by
  have E := Lib.hid (rwithin_eq hx ha hb)
  go_enter Try.func28, Try.ntmps28
  go_wp2
  all_goals (go_ret; go_light; exact ⟨by rw [E.out]; simp_all <;> (intros; first | omega | (exfalso; omega)), rfl⟩)

theorem rstart_any (x n : Int) (w : World) (hn : isInt n) :
    Calls Try.prog 30 #[.int .u64 x, .int .i64 n] w fun e w' => e = .returned (.int .u64 (start x n)) ∧ w = w' := by
  by_cases h : 0 ≤ n ∧ n ≤ 63
  · have E := Lib.hid (start_in (x := x) h)
    obtain ⟨m, rfl⟩ : ∃ m : Nat, n = m := ⟨n.toNat, by omega⟩
    have h1 : ¬ (m : Int) < 0 := by omega
    have h2 : ¬ (63 : Int) < m := by omega
    have h3 : m ≤ 63 := by omega
    clear h hn
    go_enter Try.func30, Try.ntmps30
    go_wp2
    go_loop [5, 6] (fun p i => ∃ k : Nat, k ≤ m ∧ i = .int .i64 k ∧ p = .int .u64 (2 ^ k)) (fun _ i => m - (intOf i).toNat)
    case atStart => exact ⟨0, Nat.zero_le _, rfl, rfl⟩
    case round =>
      obtain ⟨k, hk, rfl, rfl⟩ := hrel
      have hp := pow_bd k (by omega)
      by_cases hlt : k < m
      · have hp2 := pow_bd (k + 1) (by omega)
        have e : IntKind.u64.wrap (2 * 2 ^ k) = 2 ^ (k + 1) := by
          rw [IntKind.wrap_u64, show (2 : Int) * 2 ^ k = 2 ^ (k + 1) from by rw [Int.pow_succ]; omega, Int.emod_eq_of_lt (by omega) (by omega)]
        have E2 := Lib.hid e
        clear e hp hp2
        go_wp2
        go_round
        case rel => go_light; exact ⟨k + 1, by omega, by go_num, by rw [E2.out]⟩
        case measure => go_light; simp [intOf]; omega
      · go_wp2
        go_ret
        obtain rfl : k = m := by omega
        exact ⟨by rw [E.out]; show Ending.returned (.int .u64 (IntKind.u64.wrap (x + 2 ^ k))) = _; rw [IntKind.wrap_u64]; rfl, rfl⟩
  · have e := start_out (x := x) h
    have E := Lib.hid e
    have h1 : n < 0 ∨ ¬ n < 0 ∧ 63 < n := by omega
    clear e h
    rcases h1 with h1 | ⟨h1, h2⟩ <;>
    · go_enter Try.func30, Try.ntmps30
      go_wp2
      go_ret
      exact ⟨by rw [E.out]; first | done | rfl, rfl⟩

theorem ringLies_walk (W : World) (x : Int) (hx : (Lit.int .u64 x).wf = true) (a : Int) (ha : (Lit.int .u64 a).wf = true) (b : Int) (hb : (Lit.int .u64 b).wf = true) (n : Int) (hn : (Lit.int .i64 n).wf = true) :
    Calls Try.prog 9 #[.int .u64 x, .int .u64 a, .int .u64 b, .int .i64 n] W fun e W' => e = .returned (.bool true) ∧ Below W.heap.size W W' := by
  replace hx := place_of hx
  replace ha := place_of ha
  replace hb := place_of hb
  have hi : isInt n := int_of hn
  clear hn
  go_enter Try.func9, Try.ntmps9
  go_wp2_with (first | (go_at_call 18; refine (dist_any _ _ _).mono ?_; rintro e w' ⟨rfl, rfl⟩) | (go_at_call 25; refine (in_any _ _ _ _).mono ?_; rintro e w' ⟨rfl, rfl⟩) | (go_at_call 24; refine (within_any _ _ _ _).mono ?_; rintro e w' ⟨rfl, rfl⟩) | (go_at_call 23; refine (aw_any _).mono ?_; rintro e w' ⟨rfl, hb⟩) | (go_at_call 26; refine (rdist_any _ _ _ (by assumption) (by assumption)).mono ?_; rintro e w' ⟨rfl, rfl⟩) | (go_at_call 27; refine (rin_any _ _ _ _ (by assumption) (by assumption) (by assumption)).mono ?_; rintro e w' ⟨rfl, rfl⟩) | (go_at_call 28; refine (rwithin_any _ _ _ _ (by assumption) (by assumption) (by assumption)).mono ?_; rintro e w' ⟨rfl, rfl⟩) | (go_at_call 29; refine (start_any _ _ _ (by assumption)).mono ?_; rintro e w' ⟨rfl, rfl⟩) | (go_at_call 30; refine (rstart_any _ _ _ (by assumption)).mono ?_; rintro e w' ⟨rfl, rfl⟩))
  go_ret
  exact ⟨rfl, by assumption⟩

theorem fingers_1 {x n : Int} (hx : isPlace x) (h : 1 ≤ n ∧ n ≤ 63) : dist x (start x n) = IntKind.u64.wrap (2 * dist x (start x (n - 1))) := by
  obtain ⟨m, rfl⟩ : ∃ m : Nat, n = (m : Int) + 1 := ⟨(n - 1).toNat, by omega⟩
  rw [start_in (by omega), start_in (by omega), IntKind.wrap_u64]
  have e1 : ((m : Int) + 1).toNat = m + 1 := by omega
  have e2 : ((m : Int) + 1 - 1).toNat = m := by omega
  rw [e1, e2]
  have p := pow_bd m (by omega)
  have q : (2 : Int) ^ (m + 1) = 2 * 2 ^ m := by rw [Int.pow_succ]; omega
  have p' := pow_bd (m + 1) (by omega)
  rw [q] at *
  generalize (2 : Int) ^ m = t at *
  unfold dist isPlace at *; omega
theorem fingers_0 {x : Int} (hx : isPlace x) : dist x (start x 0) = 1 := by
  rw [start_in (by omega)]
  have h01 : (2 : Int) ^ (0 : Int).toNat = 1 := rfl
  rw [h01]; unfold dist isPlace at *; omega

theorem ringFingers_walk (W : World) (x : Int) (hx : (Lit.int .u64 x).wf = true) (n : Int) (hn : (Lit.int .i64 n).wf = true) :
    Calls Try.prog 10 #[.int .u64 x, .int .i64 n] W fun e W' => e = .returned (.bool true) ∧ Below W.heap.size W W' := by
  replace hx := place_of hx
  have hi : isInt n := int_of hn
  clear hn
  by_cases h : 1 ≤ n ∧ n ≤ 63
  · have f1 := fingers_1 hx h
    have f0 := fingers_0 hx
    obtain ⟨h1, h2⟩ := h
    have hi2 : isInt (n - 1) := by unfold isInt; omega
    have hi0 : isInt 0 := by unfold isInt; omega
    have c1 : ¬ n < 1 := by omega
    have c2 : ¬ 63 < n := by omega
    clear hx
    go_enter Try.func10, Try.ntmps10
    go_wp2_with (first | (go_at_call 18; refine (dist_any _ _ _).mono ?_; rintro e w' ⟨rfl, rfl⟩) | (go_at_call 25; refine (in_any _ _ _ _).mono ?_; rintro e w' ⟨rfl, rfl⟩) | (go_at_call 24; refine (within_any _ _ _ _).mono ?_; rintro e w' ⟨rfl, rfl⟩) | (go_at_call 23; refine (aw_any _).mono ?_; rintro e w' ⟨rfl, hb⟩) | (go_at_call 26; refine (rdist_any _ _ _ (by assumption) (by assumption)).mono ?_; rintro e w' ⟨rfl, rfl⟩) | (go_at_call 27; refine (rin_any _ _ _ _ (by assumption) (by assumption) (by assumption)).mono ?_; rintro e w' ⟨rfl, rfl⟩) | (go_at_call 28; refine (rwithin_any _ _ _ _ (by assumption) (by assumption) (by assumption)).mono ?_; rintro e w' ⟨rfl, rfl⟩) | (go_at_call 29; refine (start_any _ _ _ (by assumption)).mono ?_; rintro e w' ⟨rfl, rfl⟩) | (go_at_call 30; refine (rstart_any _ _ _ (by assumption)).mono ?_; rintro e w' ⟨rfl, rfl⟩))
    go_ret
    exact ⟨rfl, by assumption⟩
  · have c : n < 1 ∧ ((n == 0) = true ∨ (n == 0) = false ∧ start x n = x) ∨ ¬ n < 1 ∧ 63 < n ∧ (n == 0) = false ∧ start x n = x := by
      by_cases h0 : n = 0
      · left; simp [h0]
      · have e : (n == 0) = false := by simp [h0]
        rw [start_out (by omega), e]; simp; omega
    clear h hx
    rcases c with ⟨c1, c2 | ⟨c2, c3⟩⟩ | ⟨c1, c2, c3, c4⟩ <;>
    · go_enter Try.func10, Try.ntmps10
      go_wp2_with (first | (go_at_call 18; refine (dist_any _ _ _).mono ?_; rintro e w' ⟨rfl, rfl⟩) | (go_at_call 25; refine (in_any _ _ _ _).mono ?_; rintro e w' ⟨rfl, rfl⟩) | (go_at_call 24; refine (within_any _ _ _ _).mono ?_; rintro e w' ⟨rfl, rfl⟩) | (go_at_call 23; refine (aw_any _).mono ?_; rintro e w' ⟨rfl, hb⟩) | (go_at_call 26; refine (rdist_any _ _ _ (by assumption) (by assumption)).mono ?_; rintro e w' ⟨rfl, rfl⟩) | (go_at_call 27; refine (rin_any _ _ _ _ (by assumption) (by assumption) (by assumption)).mono ?_; rintro e w' ⟨rfl, rfl⟩) | (go_at_call 28; refine (rwithin_any _ _ _ _ (by assumption) (by assumption) (by assumption)).mono ?_; rintro e w' ⟨rfl, rfl⟩) | (go_at_call 29; refine (start_any _ _ _ (by assumption)).mono ?_; rintro e w' ⟨rfl, rfl⟩) | (go_at_call 30; refine (rstart_any _ _ _ (by assumption)).mono ?_; rintro e w' ⟨rfl, rfl⟩))
      go_ret
      exact ⟨rfl, by assumption⟩
end Go.Proofs.Ytcdgpfhllbdooaa
