
/-
  peer.Head of a World: the first that lives.
-/
import Derived.Test.YtcdgpfhllbdooaaPeerA
import Derived.Test.YtcdgpfhllbdooaaLater
namespace Go.Proofs.Ytcdgpfhllbdooaa
open Go.RowKit
set_option linter.unusedVariables false
set_option linter.unusedSimpArgs false
attribute [local go_sem] later_cell later_frozen later_lt

theorem method_lives (f : Nat) (a b : Value) (w : World) : (method (f + 1) 25 (.agg #[a, b]) "Lives").run Try.prog w = .ok (16, .agg #[a, b]) w := by kernel_rfl
theorem method_id (f : Nat) (a b : Value) (w : World) : (method (f + 1) 25 (.agg #[a, b]) "Id").run Try.prog w = .ok (19, .agg #[a, b]) w := by kernel_rfl
theorem ahead_lives (f : Nat) (a b : Value) (w : World) : (nilAhead (f + 1) 25 (.agg #[a, b]) "Lives").run Try.prog w = .ok (some false) w := by kernel_rfl
theorem ahead_id (f : Nat) (a b : Value) (w : World) : (nilAhead (f + 1) 25 (.agg #[a, b]) "Id").run Try.prog w = .ok (some false) w := by kernel_rfl
/-- The first that lives, as its place in the list; -1: none does. -/
def firstLive (L : List Bool) : List Int → Int
  | [] => -1
  | x :: l => if livesB L x then 0 else if firstLive L l = -1 then -1 else firstLive L l + 1
theorem firstLive_none {L : List Bool} {l : List Int} (h : ∀ k, k < l.length → livesB L (nth l k) = false) : firstLive L l = -1 := by
  induction l with
  | nil => rfl
  | cons x l ih =>
    have h0 := h 0 (by simp)
    rw [nth_zero] at h0
    have := ih (fun k hk => by simpa [nth_succ] using h (k + 1) (by simp; omega))
    simp [firstLive, h0, this]
theorem firstLive_some {L : List Bool} {l : List Int} {k : Nat} (hk : k < l.length) (h : ∀ j, j < k → livesB L (nth l j) = false) (h1 : livesB L (nth l k) = true) : firstLive L l = k := by
  induction l generalizing k with
  | nil => simp at hk
  | cons x l ih =>
    cases k with
    | zero => rw [nth_zero] at h1; simp [firstLive, h1]
    | succ k =>
      have h0 := h 0 (by omega)
      rw [nth_zero] at h0
      have := ih (k := k) (by simp at hk; omega) (fun j hj => by simpa [nth_succ] using h (j + 1) (by omega)) (by simpa [nth_succ] using h1)
      simp only [firstLive, h0]
      rw [this]
      split
      · contradiction
      · split <;> omega

theorem indexf_any (w : World) (v : Value) (L : List Bool) (I : List Int) (hv : WorldAt w v L I) (hm : L.length ≤ maxLen) (l : List Int) (hlm : l.length ≤ 4000000000) (lv : Value) (hl : SlAt 0 (fun i => .int .i64 (nth l i)) l.length w lv) :
    Calls Try.prog 40 #[lv, .func (.method "Lives") #[.iface 25 v] #[]] w fun e w' => e = .returned (.int .i64 (firstLive L l)) ∧ Below w.heap.size w w' := by
  have hlv := Lib.hid fun (wr : World) (hb : Below w.heap.size w wr) (n : Int) => lives_any wr v L I (hv.below hb) n hm
  obtain ⟨x1, x2, rfl, _⟩ := hv
  have hmm := method_lives
  obtain ⟨a, cap, rfl, _, _, _, hl⟩ := hl
  have hcell := Lib.hid fun (k : Nat) (h : k < l.length) (wr : World) (hB : Below w.heap.size w wr) => (by
    obtain ⟨b, off, rfl, _, hb, hc⟩ := hl.resolve_left (by omega)
    exact ⟨b, off, rfl, (hB.cell (p := ⟨b, off + k, none⟩) hb).trans (hc k h)⟩ : ∃ b off : Nat, a = some ⟨b, off, none⟩ ∧ wr.cell? ⟨b, off + k, none⟩ = some (.int .i64 (nth l k)))
  clear hl
  go_enter Try.func40, Try.ntmps40
  go_wp2
  go_loopw [5, 8] (fun _ i wr => ∃ k : Nat, k ≤ l.length ∧ i = .int .i64 k ∧ Below w.heap.size w wr ∧ Hid (∀ j, j < k → livesB L (nth l j) = false)) (fun _ i _ => l.length - (intOf i).toNat)
  case atStart => exact ⟨0, Nat.zero_le _, rfl, Below.refl _ _, fun j hj => absurd hj (by omega)⟩
  case round =>
    obtain ⟨k, hk, rfl, hB, hno⟩ := hrel
    by_cases hlt : k < l.length
    · obtain ⟨b, off, rfl, ck⟩ := hcell.out k hlt wr hB
      go_wp2_with (go_at_call 16; refine (hlv.out _ hB _).mono ?_; rintro e w' ⟨rfl, hb1⟩)
      · have h1 : livesB L (nth l k) = true := by assumption
        go_ret
        exact ⟨by rw [firstLive_some hlt hno.out h1]; first | done | rfl, hB.trans (hb1.mono hB.size)⟩
      · have h1 : livesB L (nth l k) = false := by assumption
        go_roundw
        case rel =>
          go_light
          refine ⟨k + 1, by omega, by go_num, hB.trans (hb1.mono hB.size), fun j hj => ?_⟩
          by_cases e : j = k
          · subst e; exact h1
          · exact hno.out j (by omega)
        case measure => go_light; simp [intOf]; omega
    · go_wp2
      go_ret
      obtain rfl : k = l.length := by omega
      exact ⟨by rw [firstLive_none hno.out]; first | done | rfl, hB⟩

/-- The first of some addresses that lives; -1: none does. -/
def headB (L : List Bool) : List Int → Int
  | [] => -1
  | x :: l => if livesB L x then x else headB L l
theorem headB_at (L : List Bool) (l : List Int) : firstLive L l = -1 ∧ headB L l = -1 ∨ ∃ k : Nat, k < l.length ∧ firstLive L l = k ∧ headB L l = nth l k := by
  induction l with
  | nil => exact Or.inl ⟨rfl, rfl⟩
  | cons x l ih =>
    by_cases h : livesB L x = true
    · exact Or.inr ⟨0, by simp, by simp [firstLive, h], by simp [headB, h, nth_zero]⟩
    · simp only [Bool.not_eq_true] at h
      rcases ih with ⟨h1, h2⟩ | ⟨k, hk, h1, h2⟩
      · exact Or.inl ⟨by simp [firstLive, h, h1], by simp [headB, h, h2]⟩
      · exact Or.inr ⟨k + 1, by simp; omega, by simp only [firstLive, h, h1]; split <;> (try split) <;> first | contradiction | omega, by simp [headB, h, h2, nth_succ]⟩

/-- A peer, by its parts. -/
def PeerAt (w : World) (v : Value) (id pred : Int) (l : List Int) : Prop := ∃ lv, v = .agg #[.int .u64 id, .int .i64 pred, lv] ∧ SlAt 0 (fun i => .int .i64 (nth l i)) l.length w lv

theorem head_any (w : World) (v : Value) (L : List Bool) (I : List Int) (hv : WorldAt w v L I) (hm : L.length ≤ maxLen) (p : Value) (id pred : Int) (l : List Int) (hp : PeerAt w p id pred l) (hlm : l.length ≤ 4000000000) :
    Calls Try.prog 22 #[p, .iface 25 v] w fun e w' => e = .returned (.int .i64 (headB L l)) ∧ Below w.heap.size w w' := by
  obtain ⟨lv, rfl, hl⟩ := hp
  have hix := Lib.hid fun (wr : World) (hb : Below w.heap.size w wr) => indexf_any wr v L I (hv.below hb) hm l hlm lv (hl.below hb)
  obtain ⟨x1, x2, rfl, _⟩ := hv
  have hmm := ahead_lives
  obtain ⟨a, cap, rfl, _, _, _, hl⟩ := hl
  rcases headB_at L l with ⟨e1, e2⟩ | ⟨k, hk, e1, e2⟩
  · rw [e1] at hix
    have E := Lib.hid e2
    clear e1 e2
    go_enter Try.func22, Try.ntmps22
    go_wp2
    refine wp_region_calm (by kernel_rfl) (by kernel_rfl) ?_
    repeat (refine wpQuiet_step (fun K hK => ?_); go_simp; first | (refine hK _ ?_; clear hK K) | (apply Exists.intro; refine ⟨fun _ => ?_, hK _ ?_⟩; (go_at_call 40; exact calls_calm (hix.out _ (by (repeat (first | exact Below.refl _ _ | (with_reducible assumption) | (with_reducible refine bel_later ?_ _) | (with_reducible refine bel_alloc ?_ _) | (with_reducible refine bel_drew ?_) | (with_reducible refine bel_drewN ?_ _)))))); clear hK K))
    refine wpQuiet_nil ?_
    intro _ hw'
    obtain ⟨xq, hw''⟩ := hw'
    subst hw''
    go_wp2
    go_ret
    exact ⟨by rw [E.out]; first | done | rfl, by (repeat (first | exact Below.refl _ _ | (with_reducible assumption) | (with_reducible refine bel_later ?_ _) | (with_reducible refine bel_alloc ?_ _) | (with_reducible refine bel_drew ?_) | (with_reducible refine bel_drewN ?_ _)))⟩
  · rw [e1] at hix
    have E := Lib.hid e2
    obtain ⟨b, off, rfl, _, hb, hc⟩ := hl.resolve_left (by omega)
    have ck := hc k hk
    clear e1 e2 hl hc
    go_enter Try.func22, Try.ntmps22
    go_wp2
    refine wp_region_calm (by kernel_rfl) (by kernel_rfl) ?_
    repeat (refine wpQuiet_step (fun K hK => ?_); go_simp; first | (refine hK _ ?_; clear hK K) | (apply Exists.intro; refine ⟨fun _ => ?_, hK _ ?_⟩; (go_at_call 40; exact calls_calm (hix.out _ (by (repeat (first | exact Below.refl _ _ | (with_reducible assumption) | (with_reducible refine bel_later ?_ _) | (with_reducible refine bel_alloc ?_ _) | (with_reducible refine bel_drew ?_) | (with_reducible refine bel_drewN ?_ _)))))); clear hK K))
    refine wpQuiet_nil ?_
    intro _ hw'
    obtain ⟨xq, hw''⟩ := hw'
    subst hw''
    go_wp2
    go_ret
    exact ⟨by rw [E.out]; first | done | rfl, by (repeat (first | exact Below.refl _ _ | (with_reducible assumption) | (with_reducible refine bel_later ?_ _) | (with_reducible refine bel_alloc ?_ _) | (with_reducible refine bel_drew ?_) | (with_reducible refine bel_drewN ?_ _)))⟩
end Go.Proofs.Ytcdgpfhllbdooaa
