
/-
  The laws' own answers that the document fixes (awake).
-/
import Derived.Test.YthbijjpaljjapaaGreatDoorChordP
import Derived.Test.YthbijjpaljjapaaGreatDoorInts
namespace Go.Proofs.YthbijjpaljjapaaGreatDoor
open Go.RowKit Go.Maps Go.Sort
set_option linter.unusedVariables false
set_option linter.unusedSimpArgs false
attribute [local go_sem] later_cell later_frozen later_lt cell_set_off cell_set_block

def ids0 : List Int := [10, 20, 30, 40]
theorem up0 : Up ids0 := by unfold Up ids0; decide
theorem set0 : setI ids0 = ids0 := setI_of_up up0
theorem four0 : Four ids0 ids0 := by
  have := four_of (ids := ids0) rfl (by rw [set0]; rfl) (by unfold ids0 isPlace; simp)
  rwa [set0] at this
def F0 : RS := newF ids0 ids0 4
def F1 : RS := setM F0 4 ⟨true, 25, 1, [2, 3, 0]⟩
def F2 : RS := stabR F1 4
def F3 : RS := stabR F2 1
theorem inv0 : Inv F0 := inv_new four0
theorem join1 : joinC F0 4 25 0 = 0 := by decide +kernel
theorem f1_eq : joinR F0 4 25 0 = F1 := by
  have h : joinAt F0 25 33 0 = some 1 := by decide +kernel
  have h2 : succR F0 1 = [2, 3, 0] := by decide +kernel
  unfold joinR F1
  rw [if_pos join1, h, ← h2]
theorem inv1 : Inv F1 := by rw [← f1_eq]; exact inv_joinR inv0 (by unfold isPlace; omega)
theorem lives14 : livesR F1 4 = true := by decide +kernel
theorem inv2 : Inv F2 := inv_stab inv1 lives14
theorem lives21 : livesR F2 1 = true := by decide +kernel
theorem inv3 : Inv F3 := inv_stab inv2 lives21
theorem f3_facts : livesR F3 1 = true ∧ livesR F3 2 = true ∧ livesR F3 4 = true ∧ idR F3 4 = 25 ∧ succR F3 1 = [4, 2, 3] ∧ predR F3 2 = 4 := by decide +kernel
theorem f2_eq : stabR F1 4 = F2 := rfl
theorem f3_eq : stabR F2 1 = F3 := rfl
theorem f0_eq : newF ids0 ids0 4 = F0 := rfl
attribute [irreducible] F0 F1 F2 F3
theorem base_any (w : World) : Calls Tryz.prog 42 #[] w fun e w' => ∃ v, e = .returned v ∧ SlAt w.heap.size (fun i => .int .u64 (nth ids0 i)) 4 w' v ∧ Below w.heap.size w w' := by
  go_enter Tryz.func42, Tryz.ntmps42
  go_wp2
  go_ret
  exact ⟨_, rfl, own_ints (own_lit w (ids0.map (Value.int .u64)) 45 w.heap.size _ 4 rfl rfl (Nat.le_refl _) (by simp [maxLen])), by (repeat (first | exact Below.refl _ _ | (with_reducible assumption) | (with_reducible refine bel_later ?_ _) | (with_reducible refine bel_alloc ?_ _) | (with_reducible refine bel_drew ?_) | (with_reducible refine bel_drewN ?_ _) | (with_reducible refine bel_set ?_ (by first | (simp; done) | (simp; omega) | (dsimp only; omega)) _)))⟩

/-- A ring of the call's own. -/
abbrev Ring0 (w wr : World) (rb mb : Nat) (g : Int → Nat) (f : RS) : Prop := RAt (fun b => w.heap.size ≤ b) wr rb mb g f
theorem kept_below {w a b : World} (h : RowKit.Below w.heap.size w a) (k : Kept (fun c => w.heap.size ≤ c) a b) : RowKit.Below w.heap.size w b :=
  h.trans (k.toBelow h.size (fun c hc => by omega))
set_option maxRecDepth 100000 in
set_option maxHeartbeats 8000000 in
theorem awake_any (w : World) : Calls Tryz.prog 11 #[] w fun e w' => e = .returned (.bool true) ∧ RowKit.Below w.heap.size w w' := by
  go_enter Tryz.func11, Tryz.ntmps11
  go_wp2_with fail
  refine (base_any _).mono ?_
  rintro e w1 ⟨v1, rfl, hs1, hB1⟩
  go_wp2_with fail
  refine (new_any w1 v1 ids0 (hs1.base (Nat.zero_le _)) (by unfold ids0 isPlace; simp)).mono ?_
  intro e w2 hp
  unfold AskPost at hp
  rw [show fourB ids0 = true from by unfold fourB; rw [set0]; rfl, if_pos rfl] at hp
  obtain ⟨rb, mb, g, rfl, R2, hB2⟩ := hp
  rw [set0, f0_eq] at R2
  have B2 := Lib.hid (bel_below hB1 hB2)
  have H2 : Hid (Ring0 w w2 rb mb g F0) := R2.same (Nat.le_refl _) (fun _ _ _ => rfl) (fun b _ hS => by have := hB1.size; omega) (fun b hb => by have := hB1.size; have := hB2.size; omega)
  clear hs1 hB1 R2 hB2
  go_wp2_with fail
  refine (join_at H2.out inv0.heads 4 25 0 (okInt_dom (by omega) (by omega)) (okInt_dom (by omega) (by omega)) (by unfold isPlace; omega)).mono ?_
  intro e w3 hp
  unfold JoinPost at hp
  rw [if_pos join1, f1_eq] at hp
  obtain ⟨rfl, K3, g3, R3⟩ := hp
  have B3 := Lib.hid (kept_below B2.out K3)
  have H3 := Lib.hid R3
  clear K3 R3
  go_wp2_with fail
  refine (stab_at H3.out 4 (okInt_dom (by omega) (by omega)) inv1.heads).mono ?_
  intro e w4 hp
  unfold StabPost at hp
  rw [if_pos lives14, f2_eq] at hp
  obtain ⟨rfl, R4, K4⟩ := hp
  have B4 := Lib.hid (kept_below B3.out K4)
  have H4 : Hid (Ring0 w w4 rb mb g3 F2) := R4
  clear K4 R4
  go_wp2_with fail
  refine (stab_at H4.out 1 (okInt_dom (by omega) (by omega)) inv2.heads).mono ?_
  intro e w5 hp
  unfold StabPost at hp
  rw [if_pos lives21, f3_eq] at hp
  obtain ⟨rfl, R5, K5⟩ := hp
  have B5 := Lib.hid (kept_below B4.out K5)
  have H5 : Hid (Ring0 w w5 rb mb g3 F3) := R5
  clear K5 R5
  obtain ⟨q1, q2, q4, q5, q6, q7⟩ := f3_facts
  have Q1 := Lib.hid q1
  have Q2 := Lib.hid q2
  have Q4 := Lib.hid q4
  have Q5 := Lib.hid q5
  have Q6 := Lib.hid q6
  have Q7 := Lib.hid q7
  clear q1 q2 q4 q5 q6 q7
  go_wp2_with fail
  refine (peer_at H5.out 1 (okInt_dom (by omega) (by omega))).mono ?_
  intro e w6 hp
  unfold TellPost at hp
  rw [if_pos Q1.out, Q6.out] at hp
  obtain ⟨v6, rfl, S6, hB6⟩ := hp
  obtain ⟨a6, c6, rfl, _⟩ := S6.slice
  have B6 := Lib.hid (bel_below B5.out hB6)
  have T6 := Lib.hid S6
  have H6 := Lib.hid (H5.out.below hB6)
  clear S6 hB6
  go_wp2_with fail
  refine (peer_at (H6.out.below (by (repeat (first | exact Below.refl _ _ | (with_reducible assumption) | (with_reducible refine bel_later ?_ _) | (with_reducible refine bel_alloc ?_ _) | (with_reducible refine bel_drew ?_) | (with_reducible refine bel_drewN ?_ _) | (with_reducible refine bel_set ?_ (by first | (simp; done) | (simp; omega) | (dsimp only; omega)) _))))) 2 (okInt_dom (by omega) (by omega))).mono ?_
  intro e w7 hp
  unfold TellPost at hp
  rw [if_pos Q2.out, Q7.out] at hp
  obtain ⟨i2, hi2⟩ : ∃ x, x = idR F3 2 := ⟨_, rfl⟩
  obtain ⟨l2, hl2⟩ : ∃ x, x = succR F3 2 := ⟨_, rfl⟩
  rw [← hi2, ← hl2] at hp
  clear hi2 hl2
  obtain ⟨v7, rfl, S7, hB7⟩ := hp
  obtain ⟨a7, c7, rfl, _⟩ := S7.slice
  have k2 : w7.cell? ⟨w6.heap.size, 2, none⟩ = some (.slice a6 3 c6) := by rw [hB7.cell (by simp)]; simp [go_sem]
  have kz : w6.heap.size < w7.heap.size := by have := hB7.size; simp at this; omega
  have B7w := bel_below (bel_alloc B6.out _) hB7
  have B67 := bel_below (bel_alloc (RowKit.Below.refl _ w6) _) hB7
  have T7 := Lib.hid (T6.out.below B67)
  have H7 := Lib.hid (H6.out.below B67)
  have B7 := Lib.hid B7w
  clear S7 hB7 B7w B67
  have CI := Lib.hid (fun wr (hb : RowKit.Below w7.heap.size w7 wr) (bv : Value) (hbv : SlAt 0 (fun i => .int .i64 (nth [4, 2, 3] i)) 3 wr bv) => rints_any wr _ bv [4, 2, 3] [4, 2, 3] ((T7.out.base (Nat.zero_le _)).below hb) hbv (by simp))
  have CL := Lib.hid (fun wr (hb : RowKit.Below w7.heap.size w7 wr) => lives_at (H7.out.below hb) 4 (okInt_dom (by omega) (by omega)))
  have CD := Lib.hid (fun wr (hb : RowKit.Below w7.heap.size w7 wr) => id_at (H7.out.below hb) 4 (okInt_dom (by omega) (by omega)))
  rw [Q4.out] at CL
  rw [Q5.out] at CD
  go_wp2_with fail
  refine (CI.out _ ?hb _ ?hs).mono ?_
  case hb => (repeat (first | exact Below.refl _ _ | (with_reducible assumption) | (with_reducible refine bel_later ?_ _) | (with_reducible refine bel_alloc ?_ _) | (with_reducible refine bel_drew ?_) | (with_reducible refine bel_drewN ?_ _) | (with_reducible refine bel_set ?_ (by first | (simp; done) | (simp; omega) | (dsimp only; omega)) _)))
  case hs => exact sl_new _ .i64 [4, 2, 3] 3 _ 3 (by simp) rfl (by simp [maxLen])
  rintro e w8 ⟨rfl, hB8⟩
  have B8 := bel_below (bel_alloc (bel_alloc (RowKit.Below.refl _ w7) _) _) hB8
  have e0 : w8.cell? ⟨w7.heap.size, 1, none⟩ = some (.int .i64 4) := by rw [hB8.cell (by simp; omega)]; simp [go_sem]
  have ez : w7.heap.size < w8.heap.size := by have := hB8.size; simp at this; omega
  clear hB8
  rw [show sameI [4, 2, 3] [4, 2, 3] = true from rfl]
  go_wp2_with fail
  refine (CL.out _ B8).mono ?_
  rintro e w9 ⟨rfl, rfl⟩
  go_wp2_with fail
  refine (CD.out _ B8).mono ?_
  rintro e w9 ⟨rfl, rfl⟩
  go_wp2_with fail
  go_ret
  exact ⟨rfl, bel_below B7.out B8⟩
end Go.Proofs.YthbijjpaljjapaaGreatDoor
