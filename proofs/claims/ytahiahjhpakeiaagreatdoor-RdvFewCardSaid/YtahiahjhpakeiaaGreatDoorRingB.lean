/-
  What ring.Owner answers of places that are sorted: the first that isn't below x, round the circle.
-/
import Derived.Test.YtahiahjhpakeiaaGreatDoorRingA
import Derived.LoopTactic
import Derived.Outline
namespace Go.Proofs.YtahiahjhpakeiaaGreatDoor
open Go.RowKit
set_option linter.unusedVariables false
set_option linter.unusedSimpArgs false

theorem nan_any (x : Int) (w : World) : Calls Tryz.prog 130 #[.int .u64 x] w fun e w' => e = .returned (.bool false) ∧ w = w' := by
  go_enter Tryz.func130, Tryz.ntmps130
  go_wp2
  go_ret
  exact ⟨rfl, rfl⟩
theorem nan2_any (x : Int) (w : World) : Calls Tryz.prog 95 #[.int .u64 x] w fun e w' => e = .returned (.bool false) ∧ w = w' := by
  go_enter Tryz.func95, Tryz.ntmps95
  go_wp2
  go_ret
  exact ⟨rfl, rfl⟩
theorem less_any (x y : Int) (w : World) : Calls Tryz.prog 94 #[.int .u64 x, .int .u64 y] w fun e w' => e = .returned (.bool (decide (x < y))) ∧ w = w' := by
  go_enter Tryz.func94, Tryz.ntmps94
  go_wp2_with (go_at_call 130; refine (nan_any _ _).mono ?_; rintro e w' ⟨rfl, rfl⟩)
  go_ret
  exact ⟨rfl, rfl⟩

/-- How many of some places lie below x. -/
def below (l : List Int) (x : Int) : Nat := l.countP (fun y => decide (y < x))
theorem below_le (l : List Int) (x : Int) : below l x ≤ l.length := List.countP_le_length
theorem below_eq (l : List Int) (x : Int) (i : Nat) (hi : i ≤ l.length) (h1 : ∀ k, k < i → nth l k < x) (h2 : ∀ k, i ≤ k → k < l.length → x ≤ nth l k) : below l x = i := by
  induction l generalizing i with
  | nil => simp at hi; subst hi; rfl
  | cons y l ih =>
    cases i with
    | zero =>
      unfold below
      rw [List.countP_eq_zero]
      intro z hz
      obtain ⟨k, hk, rfl⟩ := List.getElem_of_mem hz
      have := h2 k (Nat.zero_le _) hk
      rw [nth_eq hk] at this
      simp; omega
    | succ i =>
      have h0 := h1 0 (Nat.succ_pos _)
      rw [nth_zero] at h0
      have := ih i (by simp at hi; omega) (fun k hk => by simpa [nth_succ] using h1 (k + 1) (by omega)) (fun k hk hk2 => by simpa [nth_succ] using h2 (k + 1) (by omega) (by simp; omega))
      unfold below at *
      rw [List.countP_cons_of_pos (by simpa using h0), this]
def Found (n : Int) (w : World) (e : Ending) (w' : World) : Prop := ∃ f, e = .returned (.tuple #[.int .i64 n, .bool f]) ∧ w = w'

theorem search_any (l : List Int) (hs : l.Pairwise (· < ·)) (x : Int) (b off cap : Nat) (w : World) (hl : l.length ≤ 4000000000)
    (hc : ∀ i, i < l.length → w.cell? ⟨b, off + i, none⟩ = some (.int .u64 (nth l i))) :
    Calls Tryz.prog 42 #[.slice (some ⟨b, off, none⟩) l.length cap, .int .u64 x] w (Found (below l x) w) := by
  have hmono : ∀ i j, i ≤ j → j < l.length → nth l i ≤ nth l j := by
    intro i j hij hj
    rw [nth_eq hj, nth_eq (by omega)]
    rcases Nat.eq_or_lt_of_le hij with rfl | h
    · exact Int.le_refl _
    · have := List.pairwise_iff_getElem.1 hs i j (by omega) hj h; omega
  have HM := Lib.hid hmono
  have HC := Lib.hid hc
  clear hmono hs hc
  go_enter Tryz.func42, Tryz.ntmps42
  go_wp2
  go_loop [7, 8] (fun i j => ∃ p q : Nat, p ≤ q ∧ q ≤ l.length ∧ i = .int .i64 p ∧ j = .int .i64 q ∧ Hid (∀ k, k < p → nth l k < x) ∧ Hid (∀ k, q ≤ k → k < l.length → x ≤ nth l k)) (fun i j => (intOf j).toNat - (intOf i).toNat)
  case atStart => exact ⟨0, l.length, Nat.zero_le _, Nat.le_refl _, rfl, rfl, fun k hk => absurd hk (by omega), fun k hk hk2 => absurd hk (by omega)⟩
  case round =>
    obtain ⟨p, q, hpq, hq, rfl, rfl, h1, h2⟩ := hrel
    have c1 : p < q → w.cell? ⟨b, off + (p + q) / 2, none⟩ = some (.int .u64 (nth l ((p + q) / 2))) := fun h => HC.out _ (by omega)
    have c2 : p < l.length → w.cell? ⟨b, off + p, none⟩ = some (.int .u64 (nth l p)) := fun h => HC.out _ (by omega)
    go_wp2_with (first | (go_at_call 94; refine (less_any _ _ _).mono ?_; rintro e w' ⟨rfl, rfl⟩) | (go_at_call 95; refine (nan2_any _ _).mono ?_; rintro e w' ⟨rfl, rfl⟩))
    · go_round
      case rel =>
        have hlt : p < q := by assumption
        have hx : nth l ((p + q) / 2) < x := by assumption
        go_light
        exact ⟨(p + q) / 2 + 1, q, by omega, hq, by go_num, rfl, fun k hk => by have := HM.out k ((p + q) / 2) (by omega) (by omega); omega, h2⟩
      case measure =>
        have hlt : p < q := by assumption
        go_light
        simp [intOf]; omega
    · go_round
      case rel =>
        have hlt : p < q := by assumption
        have hx : x ≤ nth l ((p + q) / 2) := by assumption
        go_light
        exact ⟨p, (p + q) / 2, by omega, by omega, rfl, by go_num, h1, fun k hk hk2 => by have := HM.out ((p + q) / 2) k (by omega) (by omega); omega⟩
      case measure =>
        have hlt : p < q := by assumption
        go_light
        simp [intOf]; omega
    all_goals
      go_ret2
      have hge : ¬ p < q := by assumption
      go_light
      obtain rfl : p = q := by omega
      rw [below_eq l x p hq h1.out h2.out]
      exact ⟨_, rfl, rfl⟩

/-- Which of some places owns x; -1: there are none. -/
def ownerI (l : List Int) (x : Int) : Int := if l.length = 0 then -1 else if below l x = l.length then 0 else below l x

theorem owner_any (l : List Int) (hs : l.Pairwise (· < ·)) (x : Int) (a : Option Addr) (cap : Nat) (w : World) (hl : l.length ≤ 4000000000)
    (hc : ∀ i, i < l.length → ∃ b off, a = some ⟨b, off, none⟩ ∧ w.cell? ⟨b, off + i, none⟩ = some (.int .u64 (nth l i))) :
    Calls Tryz.prog 74 #[.slice a l.length cap, .int .u64 x] w fun e w' => e = .returned (.int .i64 (ownerI l x)) ∧ w = w' := by
  by_cases h0 : l.length = 0
  · have e : ownerI l x = -1 := by simp [ownerI, h0]
    have E := Lib.hid e
    have hb : ((l.length : Int) == 0) = true := by simp [h0]
    clear e h0 hc hs
    go_enter Tryz.func74, Tryz.ntmps74
    go_wp2
    go_ret
    exact ⟨by rw [E.out]; first | done | rfl, rfl⟩
  · obtain ⟨b, off, rfl, _⟩ := hc 0 (by omega)
    have hc' : ∀ i, i < l.length → w.cell? ⟨b, off + i, none⟩ = some (.int .u64 (nth l i)) := by
      intro i hi
      obtain ⟨b', off', e, h⟩ := hc i hi
      injection e with e; injection e with e1 e2; subst e1 e2; exact h
    have e : ownerI l x = ((below l x % l.length : Nat) : Int) := by
      have := below_le l x
      unfold ownerI
      rw [if_neg h0]
      by_cases h1 : below l x = l.length
      · rw [if_pos h1, h1]; simp
      · rw [if_neg h1, Nat.mod_eq_of_lt (by omega)]
    have hble := below_le l x
    have E := Lib.hid e
    have hb : ((l.length : Int) == 0) = false := by simp [h0]
    have hpos : 0 < l.length := by omega
    have cn := search_any l hs x b off cap w hl hc'
    have CN := Lib.hid cn
    clear cn e h0 hc hs hc'
    go_enter Tryz.func74, Tryz.ntmps74
    go_wp2_with (go_at_call 42; refine CN.out.mono ?_; rintro e w' ⟨f, rfl, rfl⟩)
    go_ret
    exact ⟨by rw [E.out]; first | done | rfl | simp, rfl⟩
end Go.Proofs.YtahiahjhpakeiaaGreatDoor
