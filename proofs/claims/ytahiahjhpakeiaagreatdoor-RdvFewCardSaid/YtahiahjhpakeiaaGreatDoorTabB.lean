
/-
  A table's entries made clean, put in order, searched: clean, order, BinarySearchFunc, find.
-/
import Derived.Test.YtahiahjhpakeiaaGreatDoorTabA
import Derived.Test.YtahiahjhpakeiaaGreatDoorBase
import Derived.Shelf.SlSorted.Search
import Derived.Laws.Bits64
import Derived.LoopTactic
namespace Go.Proofs.YtahiahjhpakeiaaGreatDoor
open Go.RowKit Go.Maps Go.Sort Go.WideShapes Go.ChangeShapes Go.Deep
set_option linter.unusedVariables false
set_option linter.unusedSimpArgs false
attribute [local go_sem] later_cell later_frozen later_lt cell_set_off cell_set_block

theorem SlT.sls {Q : Nat → Prop} {l : List Str} {w : World} {v : Value} (h : SlT Q l w v) : SlS 0 l w v := h.slAt
/-- A box of five cells. -/
structure Box5 (w : World) (b : Nat) (v0 v1 v2 v3 v4 : Value) : Prop where
  c0 : w.cell? ⟨b, 0, none⟩ = some v0
  c1 : w.cell? ⟨b, 1, none⟩ = some v1
  c2 : w.cell? ⟨b, 2, none⟩ = some v2
  c3 : w.cell? ⟨b, 3, none⟩ = some v3
  c4 : w.cell? ⟨b, 4, none⟩ = some v4
  f0 : w.frozen? ⟨b, 0, none⟩ = false
  f1 : w.frozen? ⟨b, 1, none⟩ = false
  f2 : w.frozen? ⟨b, 2, none⟩ = false
  f3 : w.frozen? ⟨b, 3, none⟩ = false
  f4 : w.frozen? ⟨b, 4, none⟩ = false
  z : b < w.heap.size
theorem Box5.below {w w' : World} {b : Nat} {v0 v1 v2 v3 v4 : Value} (h : Box5 w b v0 v1 v2 v3 v4) (hb : Below w.heap.size w w') : Box5 w' b v0 v1 v2 v3 v4 :=
  ⟨(hb.cell (p := ⟨b, 0, none⟩) h.z).trans h.c0, (hb.cell (p := ⟨b, 1, none⟩) h.z).trans h.c1, (hb.cell (p := ⟨b, 2, none⟩) h.z).trans h.c2, (hb.cell (p := ⟨b, 3, none⟩) h.z).trans h.c3, (hb.cell (p := ⟨b, 4, none⟩) h.z).trans h.c4,
   (hb.frozen (p := ⟨b, 0, none⟩) h.z).trans h.f0, (hb.frozen (p := ⟨b, 1, none⟩) h.z).trans h.f1, (hb.frozen (p := ⟨b, 2, none⟩) h.z).trans h.f2, (hb.frozen (p := ⟨b, 3, none⟩) h.z).trans h.f3, (hb.frozen (p := ⟨b, 4, none⟩) h.z).trans h.f4, Nat.lt_of_lt_of_le h.z hb.size⟩
theorem box5_new (w : World) (v0 v1 v2 v3 v4 : Value) (t : TypeId) : Box5 (w.alloc (.cells #[v0, v1, v2, v3, v4] t)) w.heap.size v0 v1 v2 v3 v4 := by
  constructor <;> simp [go_sem]
theorem box5_at {w : World} {b b' : Nat} {v0 v1 v2 v3 v4 : Value} (h : Box5 w b v0 v1 v2 v3 v4) (e : b = b') : Box5 w b' v0 v1 v2 v3 v4 := e ▸ h
set_option maxRecDepth 100000 in
set_option maxHeartbeats 4000000 in
/-- clean: an entry with its filters rising, each once, in memory of the call's own; or all. -/
theorem clean_any (w : World) (x : Ent) (v : Value) (h : SlS 0 x.fs w v) (hl : x.fs.length ≤ 1000000) :
    Calls Tryz.prog 120 #[EntV x v] w fun e w' => ∃ v', e = .returned (EntV (cleanE x) v') ∧ SlS w.heap.size (cleanE x).fs w' v' ∧ Below w.heap.size w w' := by
  obtain ⟨g, c, fs, any, t⟩ := x
  dsimp only at h hl
  have HCL : Hid (cleanE ⟨g, c, fs, any, t⟩ = if any = true ∨ 16 < (setS fs).length then ⟨g, c, [], true, t⟩ else ⟨g, c, setS fs, false, t⟩) := rfl
  unfold EntV
  dsimp only
  obtain ⟨gv, hgv⟩ : ∃ z, z = sV g := ⟨_, rfl⟩
  obtain ⟨gb, hgb⟩ : ∃ z, z = bs g := ⟨_, rfl⟩
  have HG : Hid (sV g = .string gb) := show _ = _ by rw [hgb]; rfl
  rw [HG.out]
  clear hgv hgb gv
  obtain ⟨a0, c0, rfl, _⟩ := h.slice
  have S0 := Lib.hid h
  clear h
  go_enter Tryz.func120, Tryz.ntmps120
  go_wp2_with fail
  obtain ⟨w1, hw1⟩ : ∃ z, z = (w.alloc (.cells #[.string gb, .int .i64 c, .slice a0 fs.length c0, .bool any, .int .i64 t] 79)).alloc (.cells #[.string { data := #[] }, .int .i64 0, .slice none 0 0, .bool false, .int .i64 0] 79) := ⟨_, rfl⟩
  obtain ⟨X, hX⟩ : ∃ z, z = w.heap.size := ⟨_, rfl⟩
  have b01 : Below w.heap.size w w1 := by rw [hw1]; exact bel_alloc (bel_alloc (Below.refl _ _) _) _
  have hxs : Box5 w1 X (.string gb) (.int .i64 c) (.slice a0 fs.length c0) (.bool any) (.int .i64 t) := by
    rw [hw1, hX]; exact (box5_new w _ _ _ _ _ _).below (bel_alloc (Below.refl _ _) _)
  have hys : Box5 w1 (X + 1) (.string { data := #[] }) (.int .i64 0) (.slice none 0 0) (.bool false) (.int .i64 0) := by
    rw [hw1, hX]; exact box5_at (box5_new (w.alloc _) _ _ _ _ _ _) (by simp)
  have hWX : Hid (w.heap.size ≤ X) := show _ ≤ _ by omega
  have es : (w.alloc (.cells #[.string gb, .int .i64 c, .slice a0 fs.length c0, .bool any, .int .i64 t] 79)).heap.size = w.heap.size + 1 := by simp
  rw [← hw1]
  try rw [es]
  try rw [← hX]
  clear hw1 hX es
  have XS := Lib.hid hxs
  have YS := Lib.hid hys
  have B01 := Lib.hid b01
  clear hxs hys
  refine (cloneS_any w1 _ fs (S0.out.below b01) (by omega)).mono ?_
  rintro e w2 ⟨v2, rfl, ho2, hb2⟩
  have O2 := Lib.hid (OwnS.of_row ho2)
  have BB2 := Lib.hid hb2
  obtain ⟨a2, c2, rfl⟩ : ∃ a2 c2, v2 = .slice a2 fs.length c2 := by obtain ⟨a, c, e, _⟩ := O2.out.slAt.slice; exact ⟨a, c, e⟩
  clear ho2 hb2 b01 S0
  go_wp2_with fail
  refine (sortS_any w2 _ fs w1.heap.size O2.out (by omega)).mono ?_
  rintro e w3 ⟨rfl, o3, hb3⟩
  have O3 := Lib.hid o3
  have BB3 := Lib.hid (BB2.out.trans hb3)
  clear o3 hb3 BB2 O2
  go_wp2_with fail
  refine (compactS_any w3 _ (fs.mergeSort fun x y => decide (x ≤ y)) w1.heap.size O3.out (by rw [sort_len]; omega)).mono ?_
  rintro e w4 ⟨v4, rfl, s4, hb4⟩
  have BB4 := Lib.hid (BB3.out.trans hb4)
  have B4 := Lib.hid (bel_below B01.out BB4.out)
  have hWZ : w.heap.size ≤ w1.heap.size := B01.out.size
  rw [show Lib.compact (fs.mergeSort fun x y => decide (x ≤ y)) = setS fs from rfl] at s4
  obtain ⟨L, hL⟩ : ∃ z, z = setS fs := ⟨_, rfl⟩
  rw [← hL] at s4 HCL
  obtain ⟨a4, c4, rfl, _⟩ := s4.slice
  have S4 := Lib.hid s4
  have HWZ := Lib.hid hWZ
  have XZ1 := Lib.hid XS.out.z
  have YZ1 := Lib.hid YS.out.z
  obtain ⟨x0, x1, x2, x3, x4, f0, f1, f2, f3, f4, xz⟩ := XS.out.below BB4.out
  obtain ⟨y0, y1, y2, y3, y4, g0, g1, g2, g3, g4, yz⟩ := YS.out.below BB4.out
  clear hb4 BB3 BB4 O3 s4 hL B01 hWZ XS YS
  have HP : Hid (∀ (L' : List Str) (any' : Bool) (v' : Value) (w' : World), cleanE ⟨g, c, fs, any, t⟩ = ⟨g, c, L', any', t⟩ → SlS w.heap.size L' w' v' → Below w.heap.size w w' →
      ∃ v'', Ending.returned (.agg #[.string gb, .int .i64 c, v', .bool any', .int .i64 t]) = .returned (.agg #[sV (cleanE ⟨g, c, fs, any, t⟩).g, .int .i64 (cleanE ⟨g, c, fs, any, t⟩).c, v'', .bool (cleanE ⟨g, c, fs, any, t⟩).any, .int .i64 (cleanE ⟨g, c, fs, any, t⟩).t]) ∧ SlS w.heap.size (cleanE ⟨g, c, fs, any, t⟩).fs w' v'' ∧ Below w.heap.size w w') := fun L' any' v' w' h1 h2 h3 => by
    rw [h1]
    exact ⟨v', by rw [← HG.out], h2, h3⟩
  have hnil : ∀ w', SlS w.heap.size [] w' (.slice none 0 0) := fun w' => ⟨none, 0, rfl, Nat.le_refl _, Nat.zero_le _, fun _ => rfl, Or.inl rfl⟩
  have HN := Lib.hid hnil
  clear hnil
  have hWY : Hid (w.heap.size ≤ X + 1) := Nat.le_succ_of_le hWX.out
  by_cases hany : any = true
  · subst hany
    have hcl : Hid (cleanE ⟨g, c, fs, true, t⟩ = ⟨g, c, [], true, t⟩) := show _ = _ by rw [HCL.out, if_pos (Or.inl rfl)]
    go_wp2_with fail
    refine bodyPost_ret (v := .agg #[.string gb, .int .i64 c, .slice none 0 0, .bool true, .int .i64 t]) ?_ rfl (HP.out [] true _ _ hcl.out (HN.out _) ?_)
    · simp [results, Tryz.results120, go_sem, x0, x1, x2, x3, x4, y0, y1, y2, y3, y4]
    · exact bel_set (bel_set (bel_set (bel_set (bel_set (bel_set (bel_set B4.out hWX.out _) hWX.out _) hWY.out _) hWY.out _) hWY.out _) hWY.out _) hWY.out _
  · obtain rfl : any = false := by simpa using hany
    by_cases h16 : 16 < L.length
    · have h16I : (16 : Int) < ((L.length : Nat) : Int) := by omega
      have hcl : Hid (cleanE ⟨g, c, fs, false, t⟩ = ⟨g, c, [], true, t⟩) := show _ = _ by rw [HCL.out, if_pos (Or.inr h16)]
      go_wp2_with fail
      refine bodyPost_ret (v := .agg #[.string gb, .int .i64 c, .slice none 0 0, .bool true, .int .i64 t]) ?_ rfl (HP.out [] true _ _ hcl.out (HN.out _) ?_)
      · simp [results, Tryz.results120, go_sem, x0, x1, x2, x3, x4, y0, y1, y2, y3, y4]
      · exact bel_set (bel_set (bel_set (bel_set (bel_set (bel_set (bel_set B4.out hWX.out _) hWX.out _) hWY.out _) hWY.out _) hWY.out _) hWY.out _) hWY.out _
    · have h16I : ¬ (16 : Int) < ((L.length : Nat) : Int) := by omega
      have hcl : Hid (cleanE ⟨g, c, fs, false, t⟩ = ⟨g, c, L, false, t⟩) := show _ = _ by
        rw [HCL.out, if_neg]
        rintro (k | k)
        · cases k
        · exact h16 k
      go_wp2_with fail
      refine bodyPost_ret (v := .agg #[.string gb, .int .i64 c, .slice a4 L.length c4, .bool false, .int .i64 t]) ?_ rfl (HP.out L false _ _ hcl.out ?_ ?_)
      · simp [results, Tryz.results120, go_sem, x0, x1, x2, x3, x4, y0, y1, y2, y3, y4]
      · exact ((((((SlAt.set S4.out XZ1.out _).set YZ1.out _).set YZ1.out _).set YZ1.out _).set YZ1.out _).set YZ1.out _).base HWZ.out
      · exact bel_set (bel_set (bel_set (bel_set (bel_set (bel_set B4.out hWX.out _) hWY.out _) hWY.out _) hWY.out _) hWY.out _) hWY.out _

theorem nanS_any (x : ByteArray) (w : World) : Calls Tryz.prog 114 #[.string x] w fun e w' => e = .returned (.bool false) ∧ w = w' := by
  have h : (x.toList == x.toList) = true := by simp
  go_enter Tryz.func114, Tryz.ntmps114
  go_wp2
  go_ret
  exact ⟨rfl, rfl⟩
theorem nanI_any (x : Int) (w : World) : Calls Tryz.prog 115 #[.int .i64 x] w fun e w' => e = .returned (.bool false) ∧ w = w' := by
  go_enter Tryz.func115, Tryz.ntmps115
  go_wp2
  go_ret
  exact ⟨rfl, rfl⟩
def cmpT (a b : Str) : Int := if a < b then -1 else if b < a then 1 else 0
def cmpN (a b : Int) : Int := if a < b then -1 else if b < a then 1 else 0
theorem bytesLess_iff (a b : Str) : Op.bytesLess a b = decide (a < b) := bytesLess_eq a b
theorem cmpS_any (x y : ByteArray) (w : World) : Calls Tryz.prog 61 #[.string x, .string y] w fun e w' => e = .returned (.int .i64 (cmpT x.toList y.toList)) ∧ w = w' := by
  obtain ⟨a, ha⟩ : ∃ z, z = x.toList := ⟨_, rfl⟩
  obtain ⟨b, hb⟩ : ∃ z, z = y.toList := ⟨_, rfl⟩
  rw [← ha, ← hb]
  have HP : Hid (∀ (z : Int) w', z = cmpT a b → w = w' → (Ending.returned (.int .i64 z) = .returned (.int .i64 (cmpT a b)) ∧ w = w')) := fun z w' h1 h2 => ⟨by rw [h1], h2⟩
  by_cases h1 : a < b
  · have e1 : Op.bytesLess x.toList y.toList = true := by rw [← ha, ← hb, bytesLess_iff]; simpa using h1
    have e2 : Hid (-1 = cmpT a b) := show _ = _ by unfold cmpT; rw [if_pos h1]
    clear ha hb h1
    go_enter Tryz.func61, Tryz.ntmps61
    go_wp2_with (go_at_call 114; refine (nanS_any _ _).mono ?_; rintro e w' ⟨rfl, rfl⟩)
    go_ret
    exact HP.out _ _ e2.out rfl
  · have e1 : Op.bytesLess x.toList y.toList = false := by rw [← ha, ← hb, bytesLess_iff]; simpa using h1
    by_cases h2 : b < a
    · have e3 : (x.toList == y.toList) = false := by rw [← ha, ← hb, beq_eq_false_iff_ne]; intro e; rw [e] at h2; exact str_irrefl _ h2
      have e2 : Hid (1 = cmpT a b) := show _ = _ by unfold cmpT; rw [if_neg h1, if_pos h2]
      clear ha hb h1 h2
      go_enter Tryz.func61, Tryz.ntmps61
      go_wp2_with (go_at_call 114; refine (nanS_any _ _).mono ?_; rintro e w' ⟨rfl, rfl⟩)
      go_ret
      exact HP.out _ _ e2.out rfl
    · have e3 : (x.toList == y.toList) = true := by
        rw [← ha, ← hb, beq_iff_eq]
        rcases str_tri a b with h | h | h
        · exact absurd h h1
        · exact h
        · exact absurd h h2
      have e2 : Hid (0 = cmpT a b) := show _ = _ by unfold cmpT; rw [if_neg h1, if_neg h2]
      clear ha hb h1 h2
      go_enter Tryz.func61, Tryz.ntmps61
      go_wp2_with (go_at_call 114; refine (nanS_any _ _).mono ?_; rintro e w' ⟨rfl, rfl⟩)
      go_ret
      exact HP.out _ _ e2.out rfl
theorem cmpI_any (x y : Int) (w : World) : Calls Tryz.prog 62 #[.int .i64 x, .int .i64 y] w fun e w' => e = .returned (.int .i64 (cmpN x y)) ∧ w = w' := by
  have HP : Hid (∀ (z : Int) w', z = cmpN x y → w = w' → (Ending.returned (.int .i64 z) = .returned (.int .i64 (cmpN x y)) ∧ w = w')) := fun z w' h1 h2 => ⟨by rw [h1], h2⟩
  go_enter Tryz.func62, Tryz.ntmps62
  go_wp2_with (go_at_call 115; refine (nanI_any _ _).mono ?_; rintro e w' ⟨rfl, rfl⟩)
  all_goals (go_ret; refine HP.out _ _ ?_ rfl; unfold cmpN; simp_all <;> omega)
theorem or_any (w : World) (b : Nat) (x y : Int) (h0 : w.cell? ⟨b, 0, none⟩ = some (.int .i64 x)) (h1 : w.cell? ⟨b, 1, none⟩ = some (.int .i64 y)) :
    Calls Tryz.prog 60 #[.slice (some ⟨b, 0, none⟩) 2 2] w fun e w' => e = .returned (.int .i64 (if x = 0 then y else x)) ∧ w = w' := by
  have HP : Hid (∀ (z : Int) w', z = (if x = 0 then y else x) → w = w' → (Ending.returned (.int .i64 z) = .returned (.int .i64 (if x = 0 then y else x)) ∧ w = w')) := fun z w' h1 h2 => ⟨by rw [h1], h2⟩
  by_cases hx : x = 0
  · subst hx
    by_cases hy : y = 0
    · subst hy
      go_enter Tryz.func60, Tryz.ntmps60
      go_wp2
      refine wp_loop_rounds 3 ?_
      rw [rounds_succ]
      go_wp2
      rw [rounds_succ]
      go_wp2
      rw [rounds_succ]
      go_wp2
      go_ret
      exact HP.out _ _ rfl rfl
    · have hyb : (y != 0) = true := by simpa using hy
      clear hy
      go_enter Tryz.func60, Tryz.ntmps60
      go_wp2
      refine wp_loop_rounds 3 ?_
      rw [rounds_succ]
      go_wp2
      rw [rounds_succ]
      go_wp2
      go_ret
      exact HP.out _ _ rfl rfl
  · have hxb : (x != 0) = true := by simpa using hx
    have HX := Lib.hid hx
    clear hx
    go_enter Tryz.func60, Tryz.ntmps60
    go_wp2
    refine wp_loop_rounds 3 ?_
    rw [rounds_succ]
    go_wp2
    go_ret
    first | exact ⟨rfl, rfl⟩ | exact HP.out _ _ (by rw [if_neg HX.out]) rfl
theorem cmpK_or (g g' : Str) (c c' : Int) : (if cmpT g g' = 0 then cmpN c c' else cmpT g g') = cmpK g c g' c' := by
  unfold cmpT cmpN cmpK
  by_cases h1 : g < g'
  · simp [h1]
  · by_cases h2 : g' < g <;> simp [h1, h2]
set_option maxRecDepth 100000 in
set_option maxHeartbeats 4000000 in
/-- order: by groups, then by children. -/
theorem order_any (w : World) (ga gb : ByteArray) (ca cb : Int) (aa ab : Option Addr) (la lb ka kb : Nat) (na nb : Bool) (ta tb : Int) :
    Calls Tryz.prog 151 #[.agg #[.string ga, .int .i64 ca, .slice aa la ka, .bool na, .int .i64 ta], .agg #[.string gb, .int .i64 cb, .slice ab lb kb, .bool nb, .int .i64 tb]] w
      fun e w' => e = .returned (.int .i64 (cmpK ga.toList ca gb.toList cb)) ∧ Below w.heap.size w w' := by
  have HE := Lib.hid (cmpK_or ga.toList gb.toList ca cb)
  go_enter Tryz.func151, Tryz.ntmps151
  go_upto_region 1 with (fail)
  obtain ⟨w1, hw1⟩ : ∃ z, z = (w.alloc (.cells #[.string ga, .int .i64 ca, .slice aa la ka, .bool na, .int .i64 ta] 79)).alloc (.cells #[.string gb, .int .i64 cb, .slice ab lb kb, .bool nb, .int .i64 tb] 79) := ⟨_, rfl⟩
  obtain ⟨X, hX⟩ : ∃ z, z = w.heap.size := ⟨_, rfl⟩
  have b01 : Below w.heap.size w w1 := by rw [hw1]; exact bel_alloc (bel_alloc (Below.refl _ _) _) _
  have hxs : Box5 w1 X (.string ga) (.int .i64 ca) (.slice aa la ka) (.bool na) (.int .i64 ta) := by
    rw [hw1, hX]; exact (box5_new w _ _ _ _ _ _).below (bel_alloc (Below.refl _ _) _)
  have hys : Box5 w1 (X + 1) (.string gb) (.int .i64 cb) (.slice ab lb kb) (.bool nb) (.int .i64 tb) := by
    rw [hw1, hX]; exact box5_at (box5_new (w.alloc _) _ _ _ _ _ _) (by simp)
  have es : (w.alloc (.cells #[.string ga, .int .i64 ca, .slice aa la ka, .bool na, .int .i64 ta] 79)).heap.size = w.heap.size + 1 := by simp
  rw [← hw1]
  try rw [es]
  try rw [← hX]
  have B01 := Lib.hid b01
  clear hw1 hX es b01
  obtain ⟨x0, x1, -, -, -, -, -, -, -, -, xz⟩ := hxs
  obtain ⟨y0, y1, -, -, -, -, -, -, -, -, yz⟩ := hys
  refine wp_region_calm_tail (10) (by kernel_rfl) (by kernel_rfl) ?_
  simp only [List.take_succ_cons, List.take_zero, List.drop_succ_cons, List.drop_zero]
  repeat (first | (go_big_quiet_step ((first | (go_at_call 61; exact calls_calm_same (cmpS_any _ _ _)) | (go_at_call 62; exact calls_calm_same (cmpI_any _ _ _))))) | (refine wpQuiet_step (fun K hK => ?_); go_simp; first | (refine hK _ ?_; clear hK K) | (apply Exists.intro; refine ⟨fun _ => ?_, hK _ ?_⟩; (first | (go_at_call 61; exact calls_calm_same (cmpS_any _ _ _)) | (go_at_call 62; exact calls_calm_same (cmpI_any _ _ _))); clear hK K)))
  refine wpQuiet_nil ?_
  intro _ hw'
  obtain ⟨xq, hw''⟩ := hw'
  subst hw''
  have B2 := Lib.hid (bel_below B01.out xq.below)
  go_wp2_with fail
  refine (or_any _ _ (cmpT ga.toList gb.toList) (cmpN ca cb) ?_ ?_).mono ?_
  · simp [go_sem]
  · simp [go_sem]
  rintro e w3 ⟨rfl, rfl⟩
  rw [HE.out]
  go_wp2_with fail
  go_ret
  exact ⟨rfl, bel_alloc B2.out _⟩
set_option maxRecDepth 100000 in
set_option maxHeartbeats 4000000 in
/-- The library's binary search over a table's entries. -/
theorem bsf_any {Q : Nat → Prop} (w : World) (l : List Ent) (v : Value) (hE : EntsIn Q l w v) (hord : OrdE l) (hl : l.length ≤ 1000000) (gb : ByteArray) (c : Int) :
    Calls Tryz.prog 150 #[v, .agg #[.string gb, .int .i64 c, .slice none 0 0, .bool false, .int .i64 0], .func (.func 151) #[] #[]] w
      fun e w' => e = .returned (.tuple #[.int .i64 (findI l gb.toList c), .bool (hitB l gb.toList c)]) ∧ Below w.heap.size w w' := by
  obtain ⟨a0, c0, rfl, hc1, hc2⟩ := hE.slice
  have HE := Lib.hid hE
  obtain ⟨g, hg⟩ : ∃ z, z = gb.toList := ⟨_, rfl⟩
  rw [← hg]
  have HG := Lib.hid hg
  have HAT := Lib.hid fun i hi h1 h2 => findI_at hord (g := g) (c := c) (i := i) hi h1 h2
  have HLO := Lib.hid (findI_lo hord g c)
  have HHI := Lib.hid (findI_hi hord g c)
  have HFL := Lib.hid (findI_le l g c)
  clear hE hord hg
  go_enter Tryz.func150, Tryz.ntmps150
  go_wp2_with fail
  obtain ⟨w1, hw1⟩ : ∃ z, z = w.alloc (.cells #[.string gb, .int .i64 c, .slice none 0 0, .bool false, .int .i64 0] 79) := ⟨_, rfl⟩
  obtain ⟨X, hX⟩ : ∃ z, z = w.heap.size := ⟨_, rfl⟩
  have B1 : Hid (Below w.heap.size w w1) := by rw [hw1]; exact bel_alloc (Below.refl _ _) _
  have XS : Hid (Box5 w1 X (.string gb) (.int .i64 c) (.slice none 0 0) (.bool false) (.int .i64 0)) := by
    rw [hw1, hX]; exact box5_new w _ _ _ _ _ _
  try rw [← hw1]
  try rw [← hX]
  clear hw1 hX
  go_loopw [9, 10] (fun i j wr => ∃ p q : Nat, p ≤ q ∧ q ≤ l.length ∧ i = .int .i64 p ∧ j = .int .i64 q ∧ Hid (∀ k, k < p → klt (entAt l k).g (entAt l k).c g c) ∧ Hid (∀ k, q ≤ k → k < l.length → ¬ klt (entAt l k).g (entAt l k).c g c) ∧ Hid (Below w1.heap.size w1 wr)) (fun i j _ => (intOf j).toNat - (intOf i).toNat)
  case atStart => exact ⟨0, l.length, Nat.zero_le _, Nat.le_refl _, rfl, rfl, fun k hk => absurd hk (by omega), fun k hk hk2 => absurd hk (by omega), Below.refl _ _⟩
  case round =>
    obtain ⟨p, q, hpq, hq, rfl, rfl, h1, h2, hB⟩ := hrel
    obtain ⟨x0, x1, x2, x3, x4, -, -, -, -, -, xz⟩ := XS.out.below hB.out
    have EB := HE.out.below (bel_below B1.out hB.out)
    by_cases hlt : p < q
    · obtain ⟨b, off, fa, fc, rfl, _, hbz, d0, d1, d2, d3, d4, _⟩ := EB.at ((p + q) / 2) (by omega)
      have hml : (p + q) / 2 < l.length := by omega
      obtain ⟨E, hEe⟩ : ∃ z, z = entAt l ((p + q) / 2) := ⟨_, rfl⟩
      have HEe := Lib.hid hEe
      rw [← hEe] at d0 d1 d2 d3 d4
      obtain ⟨eg, ec, efs, ea, et⟩ := E
      dsimp only at d0 d1 d2 d3 d4
      have CO := Lib.hid fun w' => order_any w' (bs eg) gb ec c fa none efs.length 0 fc 0 ea false et 0
      rw [bs_toList, ← HG.out] at CO
      obtain ⟨z, hz⟩ : ∃ z, z = cmpK eg ec g c := ⟨_, rfl⟩
      have HZ := Lib.hid hz
      rw [← hz] at CO
      clear hEe hz EB
      by_cases hz0 : z < 0
      · have hkl : Hid (klt (entAt l ((p + q) / 2)).g (entAt l ((p + q) / 2)).c g c) := show klt _ _ _ _ by
          rw [← HEe.out]; exact cmpK_lt.1 (by rw [← HZ.out]; exact hz0)
        go_wp2_with fail
        refine wp_region_calm (by kernel_rfl) (by kernel_rfl) ?_
        repeat (first | (go_big_quiet_step ((go_at_call 151; exact calls_calm (CO.out _)))) | (refine wpQuiet_step (fun K hK => ?_); go_simp; first | (refine hK _ ?_; clear hK K) | (apply Exists.intro; refine ⟨fun _ => ?_, hK _ ?_⟩; (go_at_call 151; exact calls_calm (CO.out _)); clear hK K)))
        refine wpQuiet_nil ?_
        intro _ hw'
        obtain ⟨xq, hw''⟩ := hw'
        subst hw''
        have BX := Lib.hid (bel_below hB.out xq.below)
        have H1' : Hid (∀ k, k < (p + q) / 2 + 1 → klt (entAt l k).g (entAt l k).c g c) := fun k hk => by
          rcases Nat.lt_or_ge k (findI l g c) with h | h
          · exact HLO.out k h
          · rcases Nat.lt_or_ge k ((p + q) / 2) with h5 | h5
            · exact absurd hkl.out (HHI.out _ (by omega) hml)
            · obtain rfl : k = (p + q) / 2 := by omega
              exact hkl.out
        clear d0 d1 d2 d3 d4 x0 x1 x2 x3 x4 CO HZ hB h1
        go_wp2_with fail
        go_roundw
        case rel => go_light; exact ⟨(p + q) / 2 + 1, q, by omega, hq, by go_num, rfl, H1', h2, BX⟩
        case measure => go_light; simp [intOf]; omega
      · have hkl : Hid (¬ klt (entAt l ((p + q) / 2)).g (entAt l ((p + q) / 2)).c g c) := show ¬ klt _ _ _ _ by
          rw [← HEe.out]; exact fun h => hz0 (by rw [HZ.out]; exact cmpK_lt.2 h)
        go_wp2_with fail
        refine wp_region_calm (by kernel_rfl) (by kernel_rfl) ?_
        repeat (first | (go_big_quiet_step ((go_at_call 151; exact calls_calm (CO.out _)))) | (refine wpQuiet_step (fun K hK => ?_); go_simp; first | (refine hK _ ?_; clear hK K) | (apply Exists.intro; refine ⟨fun _ => ?_, hK _ ?_⟩; (go_at_call 151; exact calls_calm (CO.out _)); clear hK K)))
        refine wpQuiet_nil ?_
        intro _ hw'
        obtain ⟨xq, hw''⟩ := hw'
        subst hw''
        have BX := Lib.hid (bel_below hB.out xq.below)
        have H2' : Hid (∀ k, (p + q) / 2 ≤ k → k < l.length → ¬ klt (entAt l k).g (entAt l k).c g c) := fun k hk hk2 => by
          rcases Nat.lt_or_ge k (findI l g c) with h | h
          · exact absurd (HLO.out ((p + q) / 2) (by omega)) hkl.out
          · exact HHI.out k h hk2
        clear d0 d1 d2 d3 d4 x0 x1 x2 x3 x4 CO HZ hB h2
        go_wp2_with fail
        go_roundw
        case rel => go_light; exact ⟨p, (p + q) / 2, by omega, by omega, rfl, by go_num, h1, H2', BX⟩
        case measure => go_light; simp [intOf]; omega
    · obtain rfl : p = q := by omega
      have hpi := HAT.out p hq h1.out h2.out
      have BW := Lib.hid (bel_below B1.out hB.out)
      by_cases hpl : p < l.length
      · obtain ⟨b, off, fa, fc, rfl, _, hbz, d0, d1, d2, d3, d4, _⟩ := EB.at p hpl
        obtain ⟨E, hEe⟩ : ∃ z, z = entAt l p := ⟨_, rfl⟩
        have HEe := Lib.hid hEe
        rw [← hEe] at d0 d1 d2 d3 d4
        obtain ⟨eg, ec, efs, ea, et⟩ := E
        dsimp only at d0 d1 d2 d3 d4
        have CO := Lib.hid fun w' => order_any w' (bs eg) gb ec c fa none efs.length 0 fc 0 ea false et 0
        rw [bs_toList, ← HG.out] at CO
        obtain ⟨z, hz⟩ : ∃ z, z = cmpK eg ec g c := ⟨_, rfl⟩
        have hhit : Hid (hitB l g c = (z == 0)) := show _ = _ by
          unfold hitB
          rw [← hpi, ← hEe, hz]
          by_cases hk : eg = g ∧ ec = c
          · rw [cmpK_eq.2 hk]; simp [hpl, hk]
          · have : ¬ cmpK eg ec g c = 0 := fun h => hk (cmpK_eq.1 h)
            rw [beq_eq_false_iff_ne.2 this]
            simp; intro _ h1 h2; exact hk ⟨h1, h2⟩
        have HPI := Lib.hid hpi
        rw [← hz] at CO
        clear hEe hz EB hpi HEe
        go_wp2_with fail
        refine wp_region_calm (by kernel_rfl) (by kernel_rfl) ?_
        repeat (first | (go_big_quiet_step ((go_at_call 151; exact calls_calm (CO.out _)))) | (refine wpQuiet_step (fun K hK => ?_); go_simp; first | (refine hK _ ?_; clear hK K) | (apply Exists.intro; refine ⟨fun _ => ?_, hK _ ?_⟩; (go_at_call 151; exact calls_calm (CO.out _)); clear hK K)))
        refine wpQuiet_nil ?_
        intro _ hw'
        obtain ⟨xq, hw''⟩ := hw'
        subst hw''
        go_wp2_with fail
        go_ret2
        rw [hhit.out, ← HPI.out]
        exact ⟨rfl, bel_below BW.out xq.below⟩
      · have hhit : Hid (hitB l g c = false) := show _ = _ by
          unfold hitB
          rw [← hpi]
          simp; intro h; exact absurd h hpl
        have HPI := Lib.hid hpi
        clear EB hpi
        go_wp2_with fail
        refine wp_region_calm (by kernel_rfl) (by kernel_rfl) ?_
        repeat (first | (go_big_quiet_step ((fail))) | (refine wpQuiet_step (fun K hK => ?_); go_simp; first | (refine hK _ ?_; clear hK K) | (apply Exists.intro; refine ⟨fun _ => ?_, hK _ ?_⟩; (fail); clear hK K)))
        refine wpQuiet_nil ?_
        intro _ hw'
        obtain ⟨xq, hw''⟩ := hw'
        subst hw''
        go_wp2_with fail
        go_ret2
        rw [hhit.out, ← HPI.out]
        exact ⟨rfl, bel_below BW.out xq.below⟩
set_option maxRecDepth 100000 in
/-- find: where an entry stands, or should. -/
theorem find_any {R : Nat → Prop} {w : World} {tb : Nat} {l : List Ent} (h : TabAt 79 R w tb l) (gb : ByteArray) (c : Int) :
    Calls Tryz.prog 119 #[.pointer (some ⟨tb, 0, none⟩), .string gb, .int .i64 c] w
      fun e w' => e = .returned (.tuple #[.int .i64 (findI l gb.toList c), .bool (hitB l gb.toList c)]) ∧ Below w.heap.size w w' := by
  obtain ⟨v, rs, rfl, hT⟩ := h
  have C := bsf_any w (entsOf rs) v hT.rows hT.ord (by rw [entsOf_len]; have := hT.few; omega) gb c
  obtain ⟨a, cp, rfl, _⟩ := hT.rows.slice
  have CB := Lib.hid C
  have x0 := hT.cell
  clear C hT
  go_enter Tryz.func119, Tryz.ntmps119
  go_wp2_with fail
  refine CB.out.mono ?_
  rintro e w1 ⟨rfl, hb⟩
  go_wp2_with fail
  go_ret2
  exact ⟨rfl, hb⟩
end Go.Proofs.YtahiahjhpakeiaaGreatDoor
