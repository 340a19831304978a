
/-
  The stable sort of no moves.
  What Plan asks of a circle and of lists: is a member there, the first of whom something is true, is a number among some.
-/
import Derived.Test.YtahiahjhpakeiaaGreatDoorRows
import Derived.Test.YtahiahjhpakeiaaGreatDoorBase
import Derived.LoopTactic
import Derived.Outline
import Derived.Test.YtahiahjhpakeiaaGreatDoorRdvK
namespace Go.Proofs.YtahiahjhpakeiaaGreatDoor
open Go.RowKit
set_option linter.unusedVariables false
set_option linter.unusedSimpArgs false

theorem insc_none (w : World) (v fv : Value) : Calls Tryz.prog 148 #[v, .int .i64 0, .int .i64 0, fv] w fun e w' => e = .returned (.tuple #[]) ∧ w' = w := by
  go_enter Tryz.func148, Tryz.ntmps148
  go_wp2
  refine wp_loop_rounds 1 ?_
  rw [rounds_succ]
  go_wp2
  go_end0
  exact ⟨rfl, rfl⟩
theorem stb_none (w : World) (v fv : Value) : Calls Tryz.prog 113 #[v, .int .i64 0, fv] w fun e w' => e = .returned (.tuple #[]) ∧ w' = w := by
  go_enter Tryz.func113, Tryz.ntmps113
  go_wp2
  refine wp_loop_rounds 1 ?_
  rw [rounds_succ]
  go_wp2_with (go_at_call 148; refine (insc_none _ _ _).mono ?_; rintro e w' ⟨rfl, rfl⟩)
  refine wp_loop_rounds 1 ?_
  rw [rounds_succ]
  go_wp2
  go_end0
  exact ⟨rfl, rfl⟩
theorem ssf_none (w : World) (a : Option Addr) (c : Nat) (fv : Value) : Calls Tryz.prog 58 #[.slice a 0 c, fv] w fun e w' => e = .returned (.tuple #[]) ∧ w' = w := by
  go_enter Tryz.func58, Tryz.ntmps58
  go_wp2_with (go_at_call 113; refine (stb_none _ _ _).mono ?_; rintro e w' ⟨rfl, rfl⟩)
  go_end0
  exact ⟨rfl, rfl⟩
end Go.Proofs.YtahiahjhpakeiaaGreatDoor
namespace Go.Proofs.YtahiahjhpakeiaaGreatDoor
open Go.RowKit Go.Maps Go.Sort Go.WideShapes Go.ChangeShapes Go.Deep
set_option linter.unusedVariables false
set_option linter.unusedSimpArgs false
attribute [local go_sem] later_cell later_frozen later_lt cell_set_off cell_set_block

/-- The number of the first of which something is true; -1: of none. -/
def FirstI (p : Int → Bool) (l : List Int) (r : Int) : Prop := (r = -1 ∧ ∀ x ∈ l, p x = false) ∨ ∃ k : Nat, r = k ∧ k < l.length ∧ p (nth l k) = true ∧ ∀ j, j < k → p (nth l j) = false
theorem indexq_at (w : World) (v : Value) (l : List Int) (p : Int → Bool) (gf : Nat) (lb : Array Value) (hl : SlAt 0 (fun i => .int .i64 (nth l i)) l.length w v) (hlm : l.length ≤ 4000000000)
    (heg : ∀ args w, (callFunc gf args).run Tryz.prog w = .ok (.enter gf args) w)
    (hp : ∀ wr, RowKit.Below w.heap.size w wr → ∀ x ∈ l, Calls Tryz.prog gf (#[.int .i64 x] ++ lb) wr fun e w' => e = .returned (.bool (p x)) ∧ RowKit.Below wr.heap.size wr w') :
    Calls Tryz.prog 55 #[v, .func (.func gf) #[] lb] w fun e w' => ∃ r : Int, e = .returned (.int .i64 r) ∧ FirstI p l r ∧ RowKit.Below w.heap.size w w' := by
  have HL := Lib.hid hl
  have HPP := Lib.hid hp
  obtain ⟨a, cap, rfl, _⟩ := hl.slice
  clear hl hp
  go_enter Tryz.func55, Tryz.ntmps55
  go_wp2
  go_loopw [5, 8] (fun _ i wr => ∃ k : Nat, k ≤ l.length ∧ i = .int .i64 k ∧ RowKit.Below w.heap.size w wr ∧ Hid (∀ j, j < k → p (nth l j) = false)) (fun _ i _ => l.length - (intOf i).toNat)
  case atStart => exact ⟨0, Nat.zero_le _, rfl, RowKit.Below.refl _ _, fun j hj => absurd hj (by omega)⟩
  case round =>
    obtain ⟨k, hk, rfl, hB, hno⟩ := hrel
    by_cases hlt : k < l.length
    · obtain ⟨b, off, rfl, _, hb, hc⟩ := HL.out.at k hlt wr hB
      have hin : nth l k ∈ l := nth_mem.2 ⟨k, hlt, rfl⟩
      have CP := Lib.hid (HPP.out wr hB _ hin)
      cases hq : p (nth l k) with
      | true =>
        have HQ := Lib.hid hq
        rw [hq] at CP
        clear hq hin
        go_wp2_with fail
        refine CP.out.mono ?_
        rintro e w5 ⟨rfl, hB5⟩
        have B5 := Lib.hid (bel_below hB hB5)
        clear hB5
        go_wp2_with fail
        go_ret
        exact ⟨k, rfl, Or.inr ⟨k, rfl, hlt, HQ.out, hno.out⟩, B5.out⟩
      | false =>
        have HQ := Lib.hid hq
        rw [hq] at CP
        clear hq hin
        go_wp2_with fail
        refine CP.out.mono ?_
        rintro e w5 ⟨rfl, hB5⟩
        have B5 := Lib.hid (bel_below hB hB5)
        clear hB5
        go_wp2_with fail
        go_roundw
        case rel =>
          go_light
          refine ⟨k + 1, by omega, by go_num, B5.out, fun j hj => ?_⟩
          by_cases e : j = k
          · subst e; exact HQ.out
          · exact hno.out j (by omega)
        case measure => go_light; simp [intOf]; omega
    · obtain rfl : k = l.length := by omega
      go_wp2_with fail
      go_ret
      exact ⟨-1, rfl, Or.inl ⟨rfl, fun x hx => by
        obtain ⟨j, hj, rfl⟩ := nth_mem.1 hx
        exact hno.out j hj⟩, hB⟩
/-- Is a number among some? -/
theorem conti_any (w : World) (v : Value) (l : List Int) (h : SlAt 0 (fun i => .int .i64 (nth l i)) l.length w v) (hl : l.length ≤ 4000000000) (x : Int) :
    Calls Tryz.prog 57 #[v, .int .i64 x] w fun e w' => e = .returned (.bool (l.contains x)) ∧ RowKit.Below w.heap.size w w' := by
  have CX := Lib.hid (indexi_any w v l h hl x)
  obtain ⟨a, cap, rfl, _⟩ := h.slice
  have HC : Hid (decide (0 ≤ idxI l x) = l.contains x) := show _ = _ by
    rw [Bool.eq_iff_iff, decide_eq_true_eq, List.contains_iff_mem]
    constructor
    · intro h0
      rcases idxI_cases l x with h1 | ⟨i, h1, h2, h3⟩
      · omega
      · rw [← h3]; exact nth_mem.2 ⟨i, h1, rfl⟩
    · intro hm
      have := idxI_mem hm
      omega
  obtain ⟨r, hr⟩ : ∃ z, z = idxI l x := ⟨_, rfl⟩
  rw [← hr] at CX HC
  clear h hr
  go_enter Tryz.func57, Tryz.ntmps57
  go_wp2_with fail
  refine CX.out.mono ?_
  rintro e w1 ⟨rfl, rfl⟩
  go_wp2_with fail
  all_goals
    go_ret
    exact ⟨by rw [← HC.out]; first | done | rfl | simp_all, RowKit.Below.refl _ _⟩
/-- Is a member on the circle? -/
theorem plan1_any (w : World) (f : RS) (I : Inv f) (av iv : Value) (hc : SlAt 0 (fun i => .int .i64 (nth (circ f) i)) (circ f).length w av) (hi : SlAt 0 (fun i => .int .u64 (nth ((circ f).map (idR f)) i)) (circ f).length w iv)
    (b : Nat) (c0 : w.cell? ⟨b, 0, none⟩ = some av) (c1 : w.cell? ⟨b, 1, none⟩ = some iv) (bz : b < w.heap.size) (n : Int) :
    Calls Tryz.prog 56 #[.int .i64 n, .pointer (some ⟨b, 0, none⟩)] w fun e w' => e = .returned (.bool (livesR f n)) ∧ RowKit.Below w.heap.size w w' := by
  have hcl : (circ f).length ≤ 32 := by rw [circ_len]; exact length_liveL f
  have hi2 : SlAt 0 (fun j => .int .u64 (nth ((circ f).map (idR f)) j)) ((circ f).map (idR f)).length w iv := by simpa using hi
  have CP := cpeer_at w (circ f) ((circ f).map (idR f)) av iv hc hi2 (by simp) (by omega) n
  obtain ⟨aa, ac, rfl, _⟩ := hc.slice
  obtain ⟨ia, ic, rfl, _⟩ := hi.slice
  obtain ⟨cl, hcle⟩ : ∃ z, z = (circ f).length := ⟨_, rfl⟩
  cases hl : livesR f n with
  | true =>
    have hm : ¬ idxI (circ f) n < 0 := idxI_mem ((circ_mem I).2 hl)
    have CY := Lib.hid (CP.mono fun e w' h => h.yes hm)
    rw [← hcle] at c0 c1 CY
    clear hc hi hi2 CP hl hm hcle hcl
    go_enter Tryz.func56, Tryz.ntmps56
    go_wp2_with fail
    refine CY.out.mono ?_
    rintro e w1 ⟨v, rfl, hs, hb⟩
    obtain ⟨a1, q1, rfl, _⟩ := hs.slice
    have HB := Lib.hid hb
    clear hs hb CY c0 c1
    go_wp2_with fail
    go_ret
    exact ⟨rfl, bel_alloc HB.out _⟩
  | false =>
    have hm : idxI (circ f) n < 0 := by
      rcases idxI_cases (circ f) n with h1 | ⟨i, h1, h2, h3⟩
      · omega
      · exfalso
        have := (circ_mem I).1 (nth_mem.2 ⟨i, h1, rfl⟩)
        rw [h3, hl] at this; cases this
    have CY := Lib.hid (CP.mono fun e w' h => (by unfold KnowPost at h; rw [if_pos hm] at h; exact h : e = .returned (.tuple #[.agg #[.int .u64 0, .int .i64 0, .slice none 0 0], .bool false]) ∧ RowKit.Below w.heap.size w w'))
    rw [← hcle] at c0 c1 CY
    clear hc hi hi2 CP hl hm hcle hcl
    go_enter Tryz.func56, Tryz.ntmps56
    go_wp2_with fail
    refine CY.out.mono ?_
    rintro e w1 ⟨rfl, hb⟩
    have HB := Lib.hid hb
    clear hb CY c0 c1
    go_wp2_with fail
    go_ret
    exact ⟨rfl, bel_alloc HB.out _⟩
end Go.Proofs.YtahiahjhpakeiaaGreatDoor
