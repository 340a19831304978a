
/-
  The reference's Ints: are two lists of numbers the same?
-/
import Derived.Test.YtahiahjhpakeiaaGreatDoorRows
import Derived.Test.YtahiahjhpakeiaaGreatDoorBase
import Derived.LoopTactic
import Derived.Outline
namespace Go.Proofs.YtahiahjhpakeiaaGreatDoor
open Go.RowKit
set_option linter.unusedVariables false
set_option linter.unusedSimpArgs false
attribute [local go_sem] later_cell later_frozen later_lt

/-- Are two lists the same? -/
def sameI (a b : List Int) : Bool := a == b
theorem sameI_len {a b : List Int} (h : a.length ≠ b.length) : sameI a b = false := by
  unfold sameI; rw [beq_eq_false_iff_ne]; exact fun e => h (congrArg _ e)
theorem sameI_at {a b : List Int} {k : Nat} (h : nth a k ≠ nth b k) : sameI a b = false := by
  unfold sameI; rw [beq_eq_false_iff_ne]; exact fun e => h (by rw [e])
theorem sameI_all {a b : List Int} (h : a.length = b.length) (h2 : ∀ k, k < a.length → nth a k = nth b k) : sameI a b = true := by
  unfold sameI; rw [beq_iff_eq]
  exact List.ext_getElem h fun i h3 h4 => by rw [← nth_eq h3, ← nth_eq h4]; exact h2 i h3

theorem rints_any (w : World) (av bv : Value) (l m : List Int) (ha : SlAt 0 (fun i => .int .i64 (nth l i)) l.length w av) (hb : SlAt 0 (fun i => .int .i64 (nth m i)) m.length w bv) (hlm : l.length ≤ 4000000000) :
    Calls Tryz.prog 15 #[av, bv] w fun e w' => e = .returned (.bool (sameI l m)) ∧ Below w.heap.size w w' := by
  obtain ⟨aa, ac, rfl, hac, _, _, ha⟩ := ha
  obtain ⟨ba, bc, rfl, hbc, _, _, hb⟩ := hb
  by_cases h : l.length = m.length
  · have hne : ((l.length : Int) != (m.length : Int)) = false := by simp [h]
    have hE := Lib.hid h
    have hm0 : m.length ≤ 4000000000 := by omega
    have hc := Lib.hid fun (k : Nat) (hk : k < l.length) (wr : World) (hB : Below w.heap.size w wr) => (by
      obtain ⟨b, off, rfl, _, h1, h2⟩ := ha.resolve_left (by omega)
      obtain ⟨b', off', rfl, _, h1', h2'⟩ := hb.resolve_left (by omega)
      exact ⟨b, off, b', off', rfl, rfl, Nat.lt_of_lt_of_le h1 hB.size, Nat.lt_of_lt_of_le h1' hB.size, (hB.cell (p := ⟨b, off + k, none⟩) h1).trans (h2 k hk), (hB.cell (p := ⟨b', off' + k, none⟩) h1').trans (h2' k (by omega))⟩ :
        ∃ b off b' off' : Nat, aa = some ⟨b, off, none⟩ ∧ ba = some ⟨b', off', none⟩ ∧ b < wr.heap.size ∧ b' < wr.heap.size ∧ wr.cell? ⟨b, off + k, none⟩ = some (.int .i64 (nth l k)) ∧ wr.cell? ⟨b', off' + k, none⟩ = some (.int .i64 (nth m k)))
    clear ha hb h
    go_enter Tryz.func15, Tryz.ntmps15
    go_wp2
    go_loopw [5, 13] (fun _ i wr => ∃ k : Nat, k ≤ l.length ∧ i = .int .i64 k ∧ Below w.heap.size w wr ∧ Hid (∀ j, j < k → nth l j = nth m j)) (fun _ i _ => l.length - (intOf i).toNat)
    case atStart => exact ⟨0, Nat.zero_le _, rfl, Below.refl _ _, fun j hj => absurd hj (by omega)⟩
    case round =>
      obtain ⟨k, hk, rfl, hB, hall⟩ := hrel
      by_cases hlt : k < l.length
      · obtain ⟨b, off, b', off', rfl, rfl, hb1, hb2, c1, c2⟩ := hc.out k hlt wr hB
        have hkm : k < m.length := by have := hE.out; omega
        go_wp2
        refine wp_region_calm (by kernel_rfl) (by kernel_rfl) ?_
        repeat (first | (go_big_quiet_step ((fail))) | (refine wpQuiet_step (fun K hK => ?_); go_simp; first | (refine hK _ ?_; clear hK K) | (apply Exists.intro; refine ⟨fun _ => ?_, hK _ ?_⟩; (fail); clear hK K)))
        refine wpQuiet_nil ?_
        intro _ hw'
        obtain ⟨xq, hw''⟩ := hw'
        subst hw''
        go_wp2
        · have h1 : (nth l k != nth m k) = true := by assumption
          go_ret
          exact ⟨by rw [sameI_at (bne_iff_ne.1 h1)]; first | done | rfl, by (repeat (first | exact Below.refl _ _ | (with_reducible assumption) | (with_reducible refine bel_later ?_ _) | (with_reducible refine bel_alloc ?_ _) | (with_reducible refine bel_drew ?_) | (with_reducible refine bel_drewN ?_ _) | (with_reducible refine bel_set ?_ (by first | (simp; done) | (simp; omega) | (dsimp only; omega)) _)))⟩
        · have h1 : (nth l k != nth m k) = false := by assumption
          go_roundw
          case rel =>
            go_light
            refine ⟨k + 1, by omega, by go_num, by (repeat (first | exact Below.refl _ _ | (with_reducible assumption) | (with_reducible refine bel_later ?_ _) | (with_reducible refine bel_alloc ?_ _) | (with_reducible refine bel_drew ?_) | (with_reducible refine bel_drewN ?_ _) | (with_reducible refine bel_set ?_ (by first | (simp; done) | (simp; omega) | (dsimp only; omega)) _))), fun j hj => ?_⟩
            by_cases e : j = k
            · subst e; exact bne_eq_false_iff_eq.1 h1
            · exact hall.out j (by omega)
          case measure => go_light; simp [intOf]; omega
      · go_wp2
        go_ret
        obtain rfl : k = l.length := by omega
        exact ⟨by rw [sameI_all hE.out hall.out]; first | done | rfl, hB⟩
  · have hne : ((l.length : Int) != (m.length : Int)) = true := by simp; omega
    have hE := Lib.hid (sameI_len h)
    clear ha hb h
    go_enter Tryz.func15, Tryz.ntmps15
    go_wp2
    go_ret
    exact ⟨by rw [hE.out]; first | done | rfl, Below.refl _ _⟩
end Go.Proofs.YtahiahjhpakeiaaGreatDoor
