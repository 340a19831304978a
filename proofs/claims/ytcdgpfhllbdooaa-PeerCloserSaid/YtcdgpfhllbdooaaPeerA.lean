/-
  What the statements' World answers: who lives, and where: whatever the memory.
-/
import Derived.Test.YtcdgpfhllbdooaaRingB
import Derived.Deep.RegionHeld3
namespace Go.Proofs.Ytcdgpfhllbdooaa
open Go.RowKit
set_option linter.unusedVariables false
set_option linter.unusedSimpArgs false

def WorldAt (w : World) (v : Value) (L : List Bool) (I : List Int) : Prop :=
  ∃ lv iv, v = .agg #[lv, iv] ∧ SlAt 0 (fun i => .bool (nthB L i)) L.length w lv ∧ SlAt 0 (fun i => .int .u64 (nth I i)) I.length w iv
theorem WorldAt.below {w w' : World} {v : Value} {L : List Bool} {I : List Int} (h : WorldAt w v L I) (hb : Below w.heap.size w w') : WorldAt w' v L I := by
  obtain ⟨lv, iv, rfl, h1, h2⟩ := h
  exact ⟨lv, iv, rfl, h1.below hb, h2.below hb⟩
/-- Does an address live? -/
def livesB (L : List Bool) (n : Int) : Bool := decide (0 ≤ n) && decide (n < L.length) && nthB L n.toNat
/-- The place of an address. -/
def idOf (I : List Int) (n : Int) : Int := if 0 ≤ n ∧ n < I.length then nth I n.toNat else 0

theorem lives_any (w : World) (v : Value) (L : List Bool) (I : List Int) (hv : WorldAt w v L I) (n : Int) (hm : L.length ≤ maxLen) :
    Calls Try.prog 16 #[v, .int .i64 n] w fun e w' => e = .returned (.bool (livesB L n)) ∧ Below w.heap.size w w' := by
  unfold maxLen at hm
  obtain ⟨lv, iv, rfl, h1, h2⟩ := hv
  obtain ⟨ia, il, ic, rfl⟩ : ∃ a l c, iv = .slice a l c := by obtain ⟨a, c, rfl, _⟩ := h2; exact ⟨a, _, c, rfl⟩
  by_cases h : 0 ≤ n ∧ n < L.length
  · obtain ⟨m, rfl⟩ : ∃ m : Nat, n = m := ⟨n.toNat, by omega⟩
    have E : Hid (livesB L m = nthB L m) := by
      have e : livesB L m = nthB L m := by unfold livesB; simp; omega
      exact e
    have hm1 : m < L.length := by omega
    rcases h1.parts with ⟨h0, _⟩ | ⟨h0, b, off, cap, rfl, hcap, _, _, hb, hc⟩
    · omega
    have c0 := hc m (by omega)
    clear hc h1 h2 h
    go_enter Try.func16, Try.ntmps16
    go_wp2
    go_ret
    exact ⟨by rw [E.out]; first | done | rfl, (Below.refl _ _).alloc (Nat.le_refl _) _⟩
  · have E : Hid (livesB L n = false) := by
      have e : livesB L n = false := by unfold livesB; simp; omega
      exact e
    obtain ⟨la, lc, rfl⟩ : ∃ a c, lv = .slice a L.length c := by obtain ⟨a, c, rfl, _⟩ := h1; exact ⟨a, c, rfl⟩
    have h3 : n < 0 ∨ 0 ≤ n ∧ ¬ n < L.length := by omega
    clear h1 h2 h
    rcases h3 with h3 | ⟨h3, h4⟩ <;>
    · go_enter Try.func16, Try.ntmps16
      go_wp2
      go_ret
      exact ⟨by rw [E.out]; first | done | rfl, (Below.refl _ _).alloc (Nat.le_refl _) _⟩

theorem id_any (w : World) (v : Value) (L : List Bool) (I : List Int) (hv : WorldAt w v L I) (n : Int) (hm : I.length ≤ maxLen) :
    Calls Try.prog 19 #[v, .int .i64 n] w fun e w' => e = .returned (.int .u64 (idOf I n)) ∧ Below w.heap.size w w' := by
  unfold maxLen at hm
  obtain ⟨lv, iv, rfl, h1, h2⟩ := hv
  obtain ⟨la, ll, lc, rfl⟩ : ∃ a l c, lv = .slice a l c := by obtain ⟨a, c, rfl, _⟩ := h1; exact ⟨a, _, c, rfl⟩
  by_cases h : 0 ≤ n ∧ n < I.length
  · obtain ⟨m, rfl⟩ : ∃ m : Nat, n = m := ⟨n.toNat, by omega⟩
    have E : Hid (idOf I m = nth I m) := by
      have e : idOf I m = nth I m := by unfold idOf; rw [if_pos h]; rfl
      exact e
    have hm1 : m < I.length := by omega
    rcases h2.parts with ⟨h0, _⟩ | ⟨h0, b, off, cap, rfl, hcap, _, _, hb, hc⟩
    · omega
    have c0 := hc m (by omega)
    clear hc h1 h2 h
    go_enter Try.func19, Try.ntmps19
    go_wp2
    go_ret
    exact ⟨by rw [E.out]; first | done | rfl, (Below.refl _ _).alloc (Nat.le_refl _) _⟩
  · have E : Hid (idOf I n = 0) := by
      have e : idOf I n = 0 := by unfold idOf; rw [if_neg h]
      exact e
    obtain ⟨ia, ic, rfl⟩ : ∃ a c, iv = .slice a I.length c := by obtain ⟨a, c, rfl, _⟩ := h2; exact ⟨a, c, rfl⟩
    have h3 : n < 0 ∨ 0 ≤ n ∧ ¬ n < I.length := by omega
    clear h1 h2 h
    rcases h3 with h3 | ⟨h3, h4⟩ <;>
    · go_enter Try.func19, Try.ntmps19
      go_wp2
      go_ret
      exact ⟨by rw [E.out]; first | done | rfl, (Below.refl _ _).alloc (Nat.le_refl _) _⟩
end Go.Proofs.Ytcdgpfhllbdooaa
