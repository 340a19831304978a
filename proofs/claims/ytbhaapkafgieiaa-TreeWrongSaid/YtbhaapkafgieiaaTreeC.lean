
/-
  The statements' own look at trees: awake.
-/
import Derived.Test.YtbhaapkafgieiaaTreeB
import Derived.Test.YtbhaapkafgieiaaInts
namespace Go.Proofs.Ytbhaapkafgieiaa
open Go.RowKit Go.Maps Go.Sort Go.WideShapes Go.ChangeShapes Go.Deep
set_option linter.unusedVariables false
set_option linter.unusedSimpArgs false
attribute [local go_sem] later_cell later_frozen later_lt cell_set_off cell_set_block

def T20 : TS := ⟨2, [(3, 0), (0, 1), (1, 2)]⟩
theorem tree20 : treeR (nxL [1, 2, 2, 0]) [3, 1] = .inl T20 := by rfl
theorem inv20 : TInv T20 := (tree_inv tree20).1
theorem depth20 : depthR T20 3 = 3 := by decide +kernel
theorem nodes20 : nodesS T20 = [0, 1, 2, 3] := up_uniq (nodes_up inv20) (by unfold Up; decide) fun x => by
  rw [nodes_mem]
  unfold TS.up T20
  simp only [upL]
  constructor
  · rintro (h | ⟨_, h⟩)
    · by_cases h3 : x = 3 <;> by_cases h0 : x = 0 <;> by_cases h1 : x = 1 <;> simp_all
    · simp [h]
  · intro h
    simp at h
    rcases h with rfl | rfl | rfl | rfl <;> simp
theorem kids20 : kidsS T20 2 = [1] := up_uniq (kids_up inv20 2) (by unfold Up; decide) fun x => by
  rw [kids_mem]
  unfold TS.up T20
  simp only [upL]
  constructor
  · intro h
    by_cases h3 : x = 3 <;> by_cases h0 : x = 0 <;> by_cases h1 : x = 1 <;> simp_all
  · intro h
    simp at h
    subst h
    simp
set_option maxRecDepth 100000 in
set_option maxHeartbeats 8000000 in
theorem awake20_any (w : World) : Calls Try.prog 8 #[] w fun e w' => e = .returned (.bool true) ∧ Below w.heap.size w w' := by
  go_enter Try.func8, Try.ntmps8
  go_wp2_with fail
  obtain ⟨w1, hw1⟩ : ∃ z, z = (w.alloc (.cells #[.int .i64 1, .int .i64 2, .int .i64 2, .int .i64 0] 3)).alloc (.cells #[.int .i64 3, .int .i64 1] 3) := ⟨_, rfl⟩
  have B1 : Hid (Below w.heap.size w w1) := by rw [hw1]; exact bel_alloc (bel_alloc (Below.refl _ _) _) _
  have SL : Hid (SlAt 0 (fun i => .int .i64 (nth [1, 2, 2, 0] i)) 4 w1 (.slice (some ⟨w.heap.size, 0, none⟩) 4 4)) := by
    rw [hw1]; exact (sl_new w .i64 [1, 2, 2, 0] 3 _ 4 rfl rfl (by simp [maxLen])).below (bel_alloc (Below.refl _ _) _)
  have SM : Hid (SlAt 0 (fun i => .int .i64 (nth [3, 1] i)) 2 w1 (.slice (some ⟨(w.alloc (.cells #[.int .i64 1, .int .i64 2, .int .i64 2, .int .i64 0] 3)).heap.size, 0, none⟩) 2 2)) := by
    rw [hw1]; exact sl_new _ .i64 [3, 1] 3 _ 2 rfl rfl (by simp [maxLen])
  have CO := of_list w1 _ _ [1, 2, 2, 0] [3, 1] (ByteArray.mk #[103]) SL.out (by intro x hx; simp at hx; rcases hx with rfl | rfl | rfl <;> exact okInt_dom (by omega) (by omega)) SM.out (by intro x hx; simp at hx; rcases hx with rfl | rfl <;> exact okInt_dom (by omega) (by omega)) (by simp) (by decide)
  unfold OfPost at CO
  rw [tree20] at CO
  have CO := Lib.hid CO
  rw [← hw1]
  have es : (w.alloc (.cells #[.int .i64 1, .int .i64 2, .int .i64 2, .int .i64 0] 3)).heap.size = w.heap.size + 1 := by simp
  rw [es] at CO
  clear hw1 SM SL es
  refine CO.out.mono ?_
  rintro e w2 ⟨mb, rfl, hT, _, hb2⟩
  have T2 := Lib.hid hT
  have B2 := Lib.hid (bel_below B1.out hb2)
  have CD := Lib.hid fun wr (hb : Below w2.heap.size w2 wr) => depth_at wr mb T20 (T2.out.below hb) 3 (okInt_dom (by omega) (by omega))
  have CN := Lib.hid fun wr (hb : Below w2.heap.size w2 wr) => nodes_at wr mb T20 (T2.out.below hb) inv20
  have CK := Lib.hid fun wr (hb : Below w2.heap.size w2 wr) => kids_at wr mb T20 (T2.out.below hb) inv20 2
  rw [depth20] at CD
  rw [nodes20] at CN
  rw [kids20] at CK
  have er : T20.root = 2 := rfl
  rw [er] at CD CN CK ⊢
  clear hT hb2 CO er
  go_wp2_with fail
  obtain ⟨w3, hw3⟩ : ∃ z, z = w2.alloc (.cells #[.int .i64 2, .map (some mb)] 25) := ⟨_, rfl⟩
  obtain ⟨X, hX⟩ : ∃ z, z = w2.heap.size := ⟨_, rfl⟩
  have b23 : Below w2.heap.size w2 w3 := by rw [hw3]; exact bel_alloc (Below.refl _ _) _
  have x0 : w3.cell? ⟨X, 0, none⟩ = some (.int .i64 2) := by rw [hw3, hX]; simp [go_sem]
  have x1 : w3.cell? ⟨X, 1, none⟩ = some (.map (some mb)) := by rw [hw3, hX]; simp [go_sem]
  have xz : X < w3.heap.size := by rw [hw3, hX]; simp
  have B3 := Lib.hid b23
  rw [← hw3, ← hX]
  clear hw3 hX b23
  refine (CD.out _ B3.out).mono ?_
  rintro e w4 ⟨rfl, hb4⟩
  have x0 := (hb4.cell (p := ⟨X, 0, none⟩) xz).trans x0
  have x1 := (hb4.cell (p := ⟨X, 1, none⟩) xz).trans x1
  have xz := Nat.lt_of_lt_of_le xz hb4.size
  have B4 := Lib.hid (bel_below B3.out hb4)
  clear hb4
  go_wp2_with fail
  refine (CN.out _ B4.out).mono ?_
  rintro e w5 ⟨v5, rfl, hs5, hb5⟩
  obtain ⟨a5, c5, rfl, _⟩ := hs5.slice
  have x0 := (hb5.cell (p := ⟨X, 0, none⟩) xz).trans x0
  have x1 := (hb5.cell (p := ⟨X, 1, none⟩) xz).trans x1
  have xz := Nat.lt_of_lt_of_le xz hb5.size
  have B5 := Lib.hid (bel_below B4.out hb5)
  have S5 := Lib.hid (hs5.base (Nat.zero_le _))
  clear hb5 hs5
  go_wp2_with fail
  refine (rints_any _ _ _ [0, 1, 2, 3] [0, 1, 2, 3] (S5.out.below (by (repeat (first | exact Below.refl _ _ | (with_reducible assumption) | (with_reducible refine bel_later ?_ _) | (with_reducible refine bel_alloc ?_ _) | (with_reducible refine bel_drew ?_) | (with_reducible refine bel_drewN ?_ _) | (with_reducible refine bel_set ?_ (by first | (simp; done) | (simp; omega) | (dsimp only; omega)) _))))) (sl_new _ .i64 [0, 1, 2, 3] 3 _ 4 rfl rfl (by simp [maxLen])) (by simp)).mono ?_
  rw [show sameI [0, 1, 2, 3] [0, 1, 2, 3] = true from rfl]
  rintro e w6 ⟨rfl, hb6⟩
  have b56 := bel_below (bel_alloc (Below.refl _ w5) (.cells #[.int .i64 0, .int .i64 1, .int .i64 2, .int .i64 3] 3)) hb6
  have x0 := (b56.cell (p := ⟨X, 0, none⟩) xz).trans x0
  have x1 := (b56.cell (p := ⟨X, 1, none⟩) xz).trans x1
  have xz := Nat.lt_of_lt_of_le xz b56.size
  have B6 := Lib.hid (bel_below B5.out b56)
  clear hb6 b56
  go_wp2_with fail
  refine (CK.out _ B6.out).mono ?_
  rintro e w7 ⟨v7, rfl, hs7, hb7⟩
  obtain ⟨a7, c7, rfl, _⟩ := hs7.slice
  have B7 := Lib.hid (bel_below B6.out hb7)
  have S7 := Lib.hid (hs7.base (Nat.zero_le _))
  clear hb7 hs7
  go_wp2_with fail
  refine (rints_any _ _ _ [1] [1] (S7.out.below (by (repeat (first | exact Below.refl _ _ | (with_reducible assumption) | (with_reducible refine bel_later ?_ _) | (with_reducible refine bel_alloc ?_ _) | (with_reducible refine bel_drew ?_) | (with_reducible refine bel_drewN ?_ _) | (with_reducible refine bel_set ?_ (by first | (simp; done) | (simp; omega) | (dsimp only; omega)) _))))) (sl_new _ .i64 [1] 3 _ 1 rfl rfl (by simp [maxLen])) (by simp)).mono ?_
  rw [show sameI [1] [1] = true from rfl]
  rintro e w8 ⟨rfl, hb8⟩
  have B8 := Lib.hid (bel_below (bel_alloc B7.out _) hb8)
  clear hb8
  go_wp2_with fail
  go_ret
  exact ⟨rfl, bel_below B2.out B8.out⟩
end Go.Proofs.Ytbhaapkafgieiaa
