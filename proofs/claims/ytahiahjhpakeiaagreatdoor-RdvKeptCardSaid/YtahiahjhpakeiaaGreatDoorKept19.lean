/-
  A table's entries made clean, put in order, searched: clean, order, BinarySearchFunc, find. What the statements on tables call: Cut, Texts; a table of the call's own; entries that came in.
-/
import Derived.Test.YtahiahjhpakeiaaGreatDoorKept1
import Derived.Test.YtahiahjhpakeiaaGreatDoorKept18
import Derived.Test.YtahiahjhpakeiaaGreatDoorKept20
import Derived.Shelf.SlSorted.Search
import Derived.Laws.Bits64
import Derived.LoopTactic
section
namespace Go.Proofs.YtahiahjhpakeiaaGreatDoor
open Go.RowKit Go.Maps Go.Sort Go.WideShapes Go.ChangeShapes Go.Deep
set_option linter.unusedVariables false
set_option linter.unusedSimpArgs false
attribute [local go_sem] later_cell later_frozen later_lt cell_set_off cell_set_block

theorem SlT.sls {Q : Nat → Prop} {l : List Str} {w : World} {v : Value} (h : SlT Q l w v) : SlS 0 l w v := h.slAt
/-- A box of five cells. -/
structure Box5 (w : World) (b : Nat) (v0 v1 v2 v3 v4 : Value) : Prop where
  c0 : w.cell? ⟨b, 0, none⟩ = some v0
  c1 : w.cell? ⟨b, 1, none⟩ = some v1
  c2 : w.cell? ⟨b, 2, none⟩ = some v2
  c3 : w.cell? ⟨b, 3, none⟩ = some v3
  c4 : w.cell? ⟨b, 4, none⟩ = some v4
  f0 : w.frozen? ⟨b, 0, none⟩ = false
  f1 : w.frozen? ⟨b, 1, none⟩ = false
  f2 : w.frozen? ⟨b, 2, none⟩ = false
  f3 : w.frozen? ⟨b, 3, none⟩ = false
  f4 : w.frozen? ⟨b, 4, none⟩ = false
  z : b < w.heap.size
theorem Box5.below {w w' : World} {b : Nat} {v0 v1 v2 v3 v4 : Value} (h : Box5 w b v0 v1 v2 v3 v4) (hb : Below w.heap.size w w') : Box5 w' b v0 v1 v2 v3 v4 :=
  ⟨(hb.cell (p := ⟨b, 0, none⟩) h.z).trans h.c0, (hb.cell (p := ⟨b, 1, none⟩) h.z).trans h.c1, (hb.cell (p := ⟨b, 2, none⟩) h.z).trans h.c2, (hb.cell (p := ⟨b, 3, none⟩) h.z).trans h.c3, (hb.cell (p := ⟨b, 4, none⟩) h.z).trans h.c4,
   (hb.frozen (p := ⟨b, 0, none⟩) h.z).trans h.f0, (hb.frozen (p := ⟨b, 1, none⟩) h.z).trans h.f1, (hb.frozen (p := ⟨b, 2, none⟩) h.z).trans h.f2, (hb.frozen (p := ⟨b, 3, none⟩) h.z).trans h.f3, (hb.frozen (p := ⟨b, 4, none⟩) h.z).trans h.f4, Nat.lt_of_lt_of_le h.z hb.size⟩
theorem box5_new (w : World) (v0 v1 v2 v3 v4 : Value) (t : TypeId) : Box5 (w.alloc (.cells #[v0, v1, v2, v3, v4] t)) w.heap.size v0 v1 v2 v3 v4 := by
  constructor <;> simp [go_sem]
theorem box5_at {w : World} {b b' : Nat} {v0 v1 v2 v3 v4 : Value} (h : Box5 w b v0 v1 v2 v3 v4) (e : b = b') : Box5 w b' v0 v1 v2 v3 v4 := e ▸ h
set_option maxRecDepth 100000 in
set_option maxHeartbeats 4000000 in
/-- clean: an entry with its filters rising, each once, in memory of the call's own; or all. -/
theorem clean_any (w : World) (x : Ent) (v : Value) (h : SlS 0 x.fs w v) (hl : x.fs.length ≤ 1000000) :
    Calls Tryz.prog 120 #[EntV x v] w fun e w' => ∃ v', e = .returned (EntV (cleanE x) v') ∧ SlS w.heap.size (cleanE x).fs w' v' ∧ Below w.heap.size w w' := by
  obtain ⟨g, c, fs, any, t⟩ := x
  dsimp only at h hl
  have HCL : Hid (cleanE ⟨g, c, fs, any, t⟩ = if any = true ∨ 16 < (setS fs).length then ⟨g, c, [], true, t⟩ else ⟨g, c, setS fs, false, t⟩) := rfl
  unfold EntV
  dsimp only
  obtain ⟨gv, hgv⟩ : ∃ z, z = sV g := ⟨_, rfl⟩
  obtain ⟨gb, hgb⟩ : ∃ z, z = bs g := ⟨_, rfl⟩
  have HG : Hid (sV g = .string gb) := show _ = _ by rw [hgb]; rfl
  rw [HG.out]
  clear hgv hgb gv
  obtain ⟨a0, c0, rfl, _⟩ := h.slice
  have S0 := Lib.hid h
  clear h
  go_enter Tryz.func120, Tryz.ntmps120
  go_wp2_with fail
  obtain ⟨w1, hw1⟩ : ∃ z, z = (w.alloc (.cells #[.string gb, .int .i64 c, .slice a0 fs.length c0, .bool any, .int .i64 t] 79)).alloc (.cells #[.string { data := #[] }, .int .i64 0, .slice none 0 0, .bool false, .int .i64 0] 79) := ⟨_, rfl⟩
  obtain ⟨X, hX⟩ : ∃ z, z = w.heap.size := ⟨_, rfl⟩
  have b01 : Below w.heap.size w w1 := by rw [hw1]; exact bel_alloc (bel_alloc (Below.refl _ _) _) _
  have hxs : Box5 w1 X (.string gb) (.int .i64 c) (.slice a0 fs.length c0) (.bool any) (.int .i64 t) := by
    rw [hw1, hX]; exact (box5_new w _ _ _ _ _ _).below (bel_alloc (Below.refl _ _) _)
  have hys : Box5 w1 (X + 1) (.string { data := #[] }) (.int .i64 0) (.slice none 0 0) (.bool false) (.int .i64 0) := by
    rw [hw1, hX]; exact box5_at (box5_new (w.alloc _) _ _ _ _ _ _) (by simp)
  have hWX : Hid (w.heap.size ≤ X) := show _ ≤ _ by omega
  have es : (w.alloc (.cells #[.string gb, .int .i64 c, .slice a0 fs.length c0, .bool any, .int .i64 t] 79)).heap.size = w.heap.size + 1 := by simp
  rw [← hw1]
  try rw [es]
  try rw [← hX]
  clear hw1 hX es
  have XS := Lib.hid hxs
  have YS := Lib.hid hys
  have B01 := Lib.hid b01
  clear hxs hys
  refine (cloneS_any w1 _ fs (S0.out.below b01) (by omega)).mono ?_
  rintro e w2 ⟨v2, rfl, ho2, hb2⟩
  have O2 := Lib.hid (OwnS.of_row ho2)
  have BB2 := Lib.hid hb2
  obtain ⟨a2, c2, rfl⟩ : ∃ a2 c2, v2 = .slice a2 fs.length c2 := by obtain ⟨a, c, e, _⟩ := O2.out.slAt.slice; exact ⟨a, c, e⟩
  clear ho2 hb2 b01 S0
  go_wp2_with fail
  refine (sortS_any w2 _ fs w1.heap.size O2.out (by omega)).mono ?_
  rintro e w3 ⟨rfl, o3, hb3⟩
  have O3 := Lib.hid o3
  have BB3 := Lib.hid (BB2.out.trans hb3)
  clear o3 hb3 BB2 O2
  go_wp2_with fail
  refine (compactS_any w3 _ (fs.mergeSort fun x y => decide (x ≤ y)) w1.heap.size O3.out (by rw [sort_len]; omega)).mono ?_
  rintro e w4 ⟨v4, rfl, s4, hb4⟩
  have BB4 := Lib.hid (BB3.out.trans hb4)
  have B4 := Lib.hid (bel_below B01.out BB4.out)
  have hWZ : w.heap.size ≤ w1.heap.size := B01.out.size
  rw [show Lib.compact (fs.mergeSort fun x y => decide (x ≤ y)) = setS fs from rfl] at s4
  obtain ⟨L, hL⟩ : ∃ z, z = setS fs := ⟨_, rfl⟩
  rw [← hL] at s4 HCL
  obtain ⟨a4, c4, rfl, _⟩ := s4.slice
  have S4 := Lib.hid s4
  have HWZ := Lib.hid hWZ
  have XZ1 := Lib.hid XS.out.z
  have YZ1 := Lib.hid YS.out.z
  obtain ⟨x0, x1, x2, x3, x4, f0, f1, f2, f3, f4, xz⟩ := XS.out.below BB4.out
  obtain ⟨y0, y1, y2, y3, y4, g0, g1, g2, g3, g4, yz⟩ := YS.out.below BB4.out
  clear hb4 BB3 BB4 O3 s4 hL B01 hWZ XS YS
  have HP : Hid (∀ (L' : List Str) (any' : Bool) (v' : Value) (w' : World), cleanE ⟨g, c, fs, any, t⟩ = ⟨g, c, L', any', t⟩ → SlS w.heap.size L' w' v' → Below w.heap.size w w' →
      ∃ v'', Ending.returned (.agg #[.string gb, .int .i64 c, v', .bool any', .int .i64 t]) = .returned (.agg #[sV (cleanE ⟨g, c, fs, any, t⟩).g, .int .i64 (cleanE ⟨g, c, fs, any, t⟩).c, v'', .bool (cleanE ⟨g, c, fs, any, t⟩).any, .int .i64 (cleanE ⟨g, c, fs, any, t⟩).t]) ∧ SlS w.heap.size (cleanE ⟨g, c, fs, any, t⟩).fs w' v'' ∧ Below w.heap.size w w') := fun L' any' v' w' h1 h2 h3 => by
    rw [h1]
    exact ⟨v', by rw [← HG.out], h2, h3⟩
  have hnil : ∀ w', SlS w.heap.size [] w' (.slice none 0 0) := fun w' => ⟨none, 0, rfl, Nat.le_refl _, Nat.zero_le _, fun _ => rfl, Or.inl rfl⟩
  have HN := Lib.hid hnil
  clear hnil
  have hWY : Hid (w.heap.size ≤ X + 1) := Nat.le_succ_of_le hWX.out
  by_cases hany : any = true
  · subst hany
    have hcl : Hid (cleanE ⟨g, c, fs, true, t⟩ = ⟨g, c, [], true, t⟩) := show _ = _ by rw [HCL.out, if_pos (Or.inl rfl)]
    go_wp2_with fail
    refine bodyPost_ret (v := .agg #[.string gb, .int .i64 c, .slice none 0 0, .bool true, .int .i64 t]) ?_ rfl (HP.out [] true _ _ hcl.out (HN.out _) ?_)
    · simp [results, Tryz.results120, go_sem, x0, x1, x2, x3, x4, y0, y1, y2, y3, y4]
    · exact bel_set (bel_set (bel_set (bel_set (bel_set (bel_set (bel_set B4.out hWX.out _) hWX.out _) hWY.out _) hWY.out _) hWY.out _) hWY.out _) hWY.out _
  · obtain rfl : any = false := by simpa using hany
    by_cases h16 : 16 < L.length
    · have h16I : (16 : Int) < ((L.length : Nat) : Int) := by omega
      have hcl : Hid (cleanE ⟨g, c, fs, false, t⟩ = ⟨g, c, [], true, t⟩) := show _ = _ by rw [HCL.out, if_pos (Or.inr h16)]
      go_wp2_with fail
      refine bodyPost_ret (v := .agg #[.string gb, .int .i64 c, .slice none 0 0, .bool true, .int .i64 t]) ?_ rfl (HP.out [] true _ _ hcl.out (HN.out _) ?_)
      · simp [results, Tryz.results120, go_sem, x0, x1, x2, x3, x4, y0, y1, y2, y3, y4]
      · exact bel_set (bel_set (bel_set (bel_set (bel_set (bel_set (bel_set B4.out hWX.out _) hWX.out _) hWY.out _) hWY.out _) hWY.out _) hWY.out _) hWY.out _
    · have h16I : ¬ (16 : Int) < ((L.length : Nat) : Int) := by omega
      have hcl : Hid (cleanE ⟨g, c, fs, false, t⟩ = ⟨g, c, L, false, t⟩) := show _ = _ by
        rw [HCL.out, if_neg]
        rintro (k | k)
        · cases k
        · exact h16 k
      go_wp2_with fail
      refine bodyPost_ret (v := .agg #[.string gb, .int .i64 c, .slice a4 L.length c4, .bool false, .int .i64 t]) ?_ rfl (HP.out L false _ _ hcl.out ?_ ?_)
      · simp [results, Tryz.results120, go_sem, x0, x1, x2, x3, x4, y0, y1, y2, y3, y4]
      · exact ((((((SlAt.set S4.out XZ1.out _).set YZ1.out _).set YZ1.out _).set YZ1.out _).set YZ1.out _).set YZ1.out _).base HWZ.out
      · exact bel_set (bel_set (bel_set (bel_set (bel_set (bel_set B4.out hWX.out _) hWY.out _) hWY.out _) hWY.out _) hWY.out _) hWY.out _

theorem nanS_any (x : ByteArray) (w : World) : Calls Tryz.prog 114 #[.string x] w fun e w' => e = .returned (.bool false) ∧ w = w' := by
  have h : (x.toList == x.toList) = true := by simp
  go_enter Tryz.func114, Tryz.ntmps114
  go_wp2
  go_ret
  exact ⟨rfl, rfl⟩
theorem nanI_any (x : Int) (w : World) : Calls Tryz.prog 115 #[.int .i64 x] w fun e w' => e = .returned (.bool false) ∧ w = w' := by
  go_enter Tryz.func115, Tryz.ntmps115
  go_wp2
  go_ret
  exact ⟨rfl, rfl⟩
def cmpT (a b : Str) : Int := if a < b then -1 else if b < a then 1 else 0
def cmpN (a b : Int) : Int := if a < b then -1 else if b < a then 1 else 0
theorem bytesLess_iff (a b : Str) : Op.bytesLess a b = decide (a < b) := bytesLess_eq a b
theorem cmpS_any (x y : ByteArray) (w : World) : Calls Tryz.prog 61 #[.string x, .string y] w fun e w' => e = .returned (.int .i64 (cmpT x.toList y.toList)) ∧ w = w' := by
  obtain ⟨a, ha⟩ : ∃ z, z = x.toList := ⟨_, rfl⟩
  obtain ⟨b, hb⟩ : ∃ z, z = y.toList := ⟨_, rfl⟩
  rw [← ha, ← hb]
  have HP : Hid (∀ (z : Int) w', z = cmpT a b → w = w' → (Ending.returned (.int .i64 z) = .returned (.int .i64 (cmpT a b)) ∧ w = w')) := fun z w' h1 h2 => ⟨by rw [h1], h2⟩
  by_cases h1 : a < b
  · have e1 : Op.bytesLess x.toList y.toList = true := by rw [← ha, ← hb, bytesLess_iff]; simpa using h1
    have e2 : Hid (-1 = cmpT a b) := show _ = _ by unfold cmpT; rw [if_pos h1]
    clear ha hb h1
    go_enter Tryz.func61, Tryz.ntmps61
    go_wp2_with (go_at_call 114; refine (nanS_any _ _).mono ?_; rintro e w' ⟨rfl, rfl⟩)
    go_ret
    exact HP.out _ _ e2.out rfl
  · have e1 : Op.bytesLess x.toList y.toList = false := by rw [← ha, ← hb, bytesLess_iff]; simpa using h1
    by_cases h2 : b < a
    · have e3 : (x.toList == y.toList) = false := by rw [← ha, ← hb, beq_eq_false_iff_ne]; intro e; rw [e] at h2; exact str_irrefl _ h2
      have e2 : Hid (1 = cmpT a b) := show _ = _ by unfold cmpT; rw [if_neg h1, if_pos h2]
      clear ha hb h1 h2
      go_enter Tryz.func61, Tryz.ntmps61
      go_wp2_with (go_at_call 114; refine (nanS_any _ _).mono ?_; rintro e w' ⟨rfl, rfl⟩)
      go_ret
      exact HP.out _ _ e2.out rfl
    · have e3 : (x.toList == y.toList) = true := by
        rw [← ha, ← hb, beq_iff_eq]
        rcases str_tri a b with h | h | h
        · exact absurd h h1
        · exact h
        · exact absurd h h2
      have e2 : Hid (0 = cmpT a b) := show _ = _ by unfold cmpT; rw [if_neg h1, if_neg h2]
      clear ha hb h1 h2
      go_enter Tryz.func61, Tryz.ntmps61
      go_wp2_with (go_at_call 114; refine (nanS_any _ _).mono ?_; rintro e w' ⟨rfl, rfl⟩)
      go_ret
      exact HP.out _ _ e2.out rfl
theorem cmpI_any (x y : Int) (w : World) : Calls Tryz.prog 62 #[.int .i64 x, .int .i64 y] w fun e w' => e = .returned (.int .i64 (cmpN x y)) ∧ w = w' := by
  have HP : Hid (∀ (z : Int) w', z = cmpN x y → w = w' → (Ending.returned (.int .i64 z) = .returned (.int .i64 (cmpN x y)) ∧ w = w')) := fun z w' h1 h2 => ⟨by rw [h1], h2⟩
  go_enter Tryz.func62, Tryz.ntmps62
  go_wp2_with (go_at_call 115; refine (nanI_any _ _).mono ?_; rintro e w' ⟨rfl, rfl⟩)
  all_goals (go_ret; refine HP.out _ _ ?_ rfl; unfold cmpN; simp_all <;> omega)
theorem or_any (w : World) (b : Nat) (x y : Int) (h0 : w.cell? ⟨b, 0, none⟩ = some (.int .i64 x)) (h1 : w.cell? ⟨b, 1, none⟩ = some (.int .i64 y)) :
    Calls Tryz.prog 60 #[.slice (some ⟨b, 0, none⟩) 2 2] w fun e w' => e = .returned (.int .i64 (if x = 0 then y else x)) ∧ w = w' := by
  have HP : Hid (∀ (z : Int) w', z = (if x = 0 then y else x) → w = w' → (Ending.returned (.int .i64 z) = .returned (.int .i64 (if x = 0 then y else x)) ∧ w = w')) := fun z w' h1 h2 => ⟨by rw [h1], h2⟩
  by_cases hx : x = 0
  · subst hx
    by_cases hy : y = 0
    · subst hy
      go_enter Tryz.func60, Tryz.ntmps60
      go_wp2
      refine wp_loop_rounds 3 ?_
      rw [rounds_succ]
      go_wp2
      rw [rounds_succ]
      go_wp2
      rw [rounds_succ]
      go_wp2
      go_ret
      exact HP.out _ _ rfl rfl
    · have hyb : (y != 0) = true := by simpa using hy
      clear hy
      go_enter Tryz.func60, Tryz.ntmps60
      go_wp2
      refine wp_loop_rounds 3 ?_
      rw [rounds_succ]
      go_wp2
      rw [rounds_succ]
      go_wp2
      go_ret
      exact HP.out _ _ rfl rfl
  · have hxb : (x != 0) = true := by simpa using hx
    have HX := Lib.hid hx
    clear hx
    go_enter Tryz.func60, Tryz.ntmps60
    go_wp2
    refine wp_loop_rounds 3 ?_
    rw [rounds_succ]
    go_wp2
    go_ret
    first | exact ⟨rfl, rfl⟩ | exact HP.out _ _ (by rw [if_neg HX.out]) rfl
theorem cmpK_or (g g' : Str) (c c' : Int) : (if cmpT g g' = 0 then cmpN c c' else cmpT g g') = cmpK g c g' c' := by
  unfold cmpT cmpN cmpK
  by_cases h1 : g < g'
  · simp [h1]
  · by_cases h2 : g' < g <;> simp [h1, h2]
set_option maxRecDepth 100000 in
set_option maxHeartbeats 4000000 in
/-- order: by groups, then by children. -/
theorem order_any (w : World) (ga gb : ByteArray) (ca cb : Int) (aa ab : Option Addr) (la lb ka kb : Nat) (na nb : Bool) (ta tb : Int) :
    Calls Tryz.prog 151 #[.agg #[.string ga, .int .i64 ca, .slice aa la ka, .bool na, .int .i64 ta], .agg #[.string gb, .int .i64 cb, .slice ab lb kb, .bool nb, .int .i64 tb]] w
      fun e w' => e = .returned (.int .i64 (cmpK ga.toList ca gb.toList cb)) ∧ Below w.heap.size w w' := by
  have HE := Lib.hid (cmpK_or ga.toList gb.toList ca cb)
  go_enter Tryz.func151, Tryz.ntmps151
  go_upto_region 1 with (fail)
  obtain ⟨w1, hw1⟩ : ∃ z, z = (w.alloc (.cells #[.string ga, .int .i64 ca, .slice aa la ka, .bool na, .int .i64 ta] 79)).alloc (.cells #[.string gb, .int .i64 cb, .slice ab lb kb, .bool nb, .int .i64 tb] 79) := ⟨_, rfl⟩
  obtain ⟨X, hX⟩ : ∃ z, z = w.heap.size := ⟨_, rfl⟩
  have b01 : Below w.heap.size w w1 := by rw [hw1]; exact bel_alloc (bel_alloc (Below.refl _ _) _) _
  have hxs : Box5 w1 X (.string ga) (.int .i64 ca) (.slice aa la ka) (.bool na) (.int .i64 ta) := by
    rw [hw1, hX]; exact (box5_new w _ _ _ _ _ _).below (bel_alloc (Below.refl _ _) _)
  have hys : Box5 w1 (X + 1) (.string gb) (.int .i64 cb) (.slice ab lb kb) (.bool nb) (.int .i64 tb) := by
    rw [hw1, hX]; exact box5_at (box5_new (w.alloc _) _ _ _ _ _ _) (by simp)
  have es : (w.alloc (.cells #[.string ga, .int .i64 ca, .slice aa la ka, .bool na, .int .i64 ta] 79)).heap.size = w.heap.size + 1 := by simp
  rw [← hw1]
  try rw [es]
  try rw [← hX]
  have B01 := Lib.hid b01
  clear hw1 hX es b01
  obtain ⟨x0, x1, -, -, -, -, -, -, -, -, xz⟩ := hxs
  obtain ⟨y0, y1, -, -, -, -, -, -, -, -, yz⟩ := hys
  refine wp_region_calm_tail (10) (by kernel_rfl) (by kernel_rfl) ?_
  simp only [List.take_succ_cons, List.take_zero, List.drop_succ_cons, List.drop_zero]
  repeat (first | (go_big_quiet_step ((first | (go_at_call 61; exact calls_calm_same (cmpS_any _ _ _)) | (go_at_call 62; exact calls_calm_same (cmpI_any _ _ _))))) | (refine wpQuiet_step (fun K hK => ?_); go_simp; first | (refine hK _ ?_; clear hK K) | (apply Exists.intro; refine ⟨fun _ => ?_, hK _ ?_⟩; (first | (go_at_call 61; exact calls_calm_same (cmpS_any _ _ _)) | (go_at_call 62; exact calls_calm_same (cmpI_any _ _ _))); clear hK K)))
  refine wpQuiet_nil ?_
  intro _ hw'
  obtain ⟨xq, hw''⟩ := hw'
  subst hw''
  have B2 := Lib.hid (bel_below B01.out xq.below)
  go_wp2_with fail
  refine (or_any _ _ (cmpT ga.toList gb.toList) (cmpN ca cb) ?_ ?_).mono ?_
  · simp [go_sem]
  · simp [go_sem]
  rintro e w3 ⟨rfl, rfl⟩
  rw [HE.out]
  go_wp2_with fail
  go_ret
  exact ⟨rfl, bel_alloc B2.out _⟩
set_option maxRecDepth 100000 in
set_option maxHeartbeats 4000000 in
/-- The library's binary search over a table's entries. -/
theorem bsf_any {Q : Nat → Prop} (w : World) (l : List Ent) (v : Value) (hE : EntsIn Q l w v) (hord : OrdE l) (hl : l.length ≤ 1000000) (gb : ByteArray) (c : Int) :
    Calls Tryz.prog 150 #[v, .agg #[.string gb, .int .i64 c, .slice none 0 0, .bool false, .int .i64 0], .func (.func 151) #[] #[]] w
      fun e w' => e = .returned (.tuple #[.int .i64 (findI l gb.toList c), .bool (hitB l gb.toList c)]) ∧ Below w.heap.size w w' := by
  obtain ⟨a0, c0, rfl, hc1, hc2⟩ := hE.slice
  have HE := Lib.hid hE
  obtain ⟨g, hg⟩ : ∃ z, z = gb.toList := ⟨_, rfl⟩
  rw [← hg]
  have HG := Lib.hid hg
  have HAT := Lib.hid fun i hi h1 h2 => findI_at hord (g := g) (c := c) (i := i) hi h1 h2
  have HLO := Lib.hid (findI_lo hord g c)
  have HHI := Lib.hid (findI_hi hord g c)
  have HFL := Lib.hid (findI_le l g c)
  clear hE hord hg
  go_enter Tryz.func150, Tryz.ntmps150
  go_wp2_with fail
  obtain ⟨w1, hw1⟩ : ∃ z, z = w.alloc (.cells #[.string gb, .int .i64 c, .slice none 0 0, .bool false, .int .i64 0] 79) := ⟨_, rfl⟩
  obtain ⟨X, hX⟩ : ∃ z, z = w.heap.size := ⟨_, rfl⟩
  have B1 : Hid (Below w.heap.size w w1) := by rw [hw1]; exact bel_alloc (Below.refl _ _) _
  have XS : Hid (Box5 w1 X (.string gb) (.int .i64 c) (.slice none 0 0) (.bool false) (.int .i64 0)) := by
    rw [hw1, hX]; exact box5_new w _ _ _ _ _ _
  try rw [← hw1]
  try rw [← hX]
  clear hw1 hX
  go_loopw [9, 10] (fun i j wr => ∃ p q : Nat, p ≤ q ∧ q ≤ l.length ∧ i = .int .i64 p ∧ j = .int .i64 q ∧ Hid (∀ k, k < p → klt (entAt l k).g (entAt l k).c g c) ∧ Hid (∀ k, q ≤ k → k < l.length → ¬ klt (entAt l k).g (entAt l k).c g c) ∧ Hid (Below w1.heap.size w1 wr)) (fun i j _ => (intOf j).toNat - (intOf i).toNat)
  case atStart => exact ⟨0, l.length, Nat.zero_le _, Nat.le_refl _, rfl, rfl, fun k hk => absurd hk (by omega), fun k hk hk2 => absurd hk (by omega), Below.refl _ _⟩
  case round =>
    obtain ⟨p, q, hpq, hq, rfl, rfl, h1, h2, hB⟩ := hrel
    obtain ⟨x0, x1, x2, x3, x4, -, -, -, -, -, xz⟩ := XS.out.below hB.out
    have EB := HE.out.below (bel_below B1.out hB.out)
    by_cases hlt : p < q
    · obtain ⟨b, off, fa, fc, rfl, _, hbz, d0, d1, d2, d3, d4, _⟩ := EB.at ((p + q) / 2) (by omega)
      have hml : (p + q) / 2 < l.length := by omega
      obtain ⟨E, hEe⟩ : ∃ z, z = entAt l ((p + q) / 2) := ⟨_, rfl⟩
      have HEe := Lib.hid hEe
      rw [← hEe] at d0 d1 d2 d3 d4
      obtain ⟨eg, ec, efs, ea, et⟩ := E
      dsimp only at d0 d1 d2 d3 d4
      have CO := Lib.hid fun w' => order_any w' (bs eg) gb ec c fa none efs.length 0 fc 0 ea false et 0
      rw [bs_toList, ← HG.out] at CO
      obtain ⟨z, hz⟩ : ∃ z, z = cmpK eg ec g c := ⟨_, rfl⟩
      have HZ := Lib.hid hz
      rw [← hz] at CO
      clear hEe hz EB
      by_cases hz0 : z < 0
      · have hkl : Hid (klt (entAt l ((p + q) / 2)).g (entAt l ((p + q) / 2)).c g c) := show klt _ _ _ _ by
          rw [← HEe.out]; exact cmpK_lt.1 (by rw [← HZ.out]; exact hz0)
        go_wp2_with fail
        refine wp_region_calm (by kernel_rfl) (by kernel_rfl) ?_
        repeat (first | (go_big_quiet_step ((go_at_call 151; exact calls_calm (CO.out _)))) | (refine wpQuiet_step (fun K hK => ?_); go_simp; first | (refine hK _ ?_; clear hK K) | (apply Exists.intro; refine ⟨fun _ => ?_, hK _ ?_⟩; (go_at_call 151; exact calls_calm (CO.out _)); clear hK K)))
        refine wpQuiet_nil ?_
        intro _ hw'
        obtain ⟨xq, hw''⟩ := hw'
        subst hw''
        have BX := Lib.hid (bel_below hB.out xq.below)
        have H1' : Hid (∀ k, k < (p + q) / 2 + 1 → klt (entAt l k).g (entAt l k).c g c) := fun k hk => by
          rcases Nat.lt_or_ge k (findI l g c) with h | h
          · exact HLO.out k h
          · rcases Nat.lt_or_ge k ((p + q) / 2) with h5 | h5
            · exact absurd hkl.out (HHI.out _ (by omega) hml)
            · obtain rfl : k = (p + q) / 2 := by omega
              exact hkl.out
        clear d0 d1 d2 d3 d4 x0 x1 x2 x3 x4 CO HZ hB h1
        go_wp2_with fail
        go_roundw
        case rel => go_light; exact ⟨(p + q) / 2 + 1, q, by omega, hq, by go_num, rfl, H1', h2, BX⟩
        case measure => go_light; simp [intOf]; omega
      · have hkl : Hid (¬ klt (entAt l ((p + q) / 2)).g (entAt l ((p + q) / 2)).c g c) := show ¬ klt _ _ _ _ by
          rw [← HEe.out]; exact fun h => hz0 (by rw [HZ.out]; exact cmpK_lt.2 h)
        go_wp2_with fail
        refine wp_region_calm (by kernel_rfl) (by kernel_rfl) ?_
        repeat (first | (go_big_quiet_step ((go_at_call 151; exact calls_calm (CO.out _)))) | (refine wpQuiet_step (fun K hK => ?_); go_simp; first | (refine hK _ ?_; clear hK K) | (apply Exists.intro; refine ⟨fun _ => ?_, hK _ ?_⟩; (go_at_call 151; exact calls_calm (CO.out _)); clear hK K)))
        refine wpQuiet_nil ?_
        intro _ hw'
        obtain ⟨xq, hw''⟩ := hw'
        subst hw''
        have BX := Lib.hid (bel_below hB.out xq.below)
        have H2' : Hid (∀ k, (p + q) / 2 ≤ k → k < l.length → ¬ klt (entAt l k).g (entAt l k).c g c) := fun k hk hk2 => by
          rcases Nat.lt_or_ge k (findI l g c) with h | h
          · exact absurd (HLO.out ((p + q) / 2) (by omega)) hkl.out
          · exact HHI.out k h hk2
        clear d0 d1 d2 d3 d4 x0 x1 x2 x3 x4 CO HZ hB h2
        go_wp2_with fail
        go_roundw
        case rel => go_light; exact ⟨p, (p + q) / 2, by omega, by omega, rfl, by go_num, h1, H2', BX⟩
        case measure => go_light; simp [intOf]; omega
    · obtain rfl : p = q := by omega
      have hpi := HAT.out p hq h1.out h2.out
      have BW := Lib.hid (bel_below B1.out hB.out)
      by_cases hpl : p < l.length
      · obtain ⟨b, off, fa, fc, rfl, _, hbz, d0, d1, d2, d3, d4, _⟩ := EB.at p hpl
        obtain ⟨E, hEe⟩ : ∃ z, z = entAt l p := ⟨_, rfl⟩
        have HEe := Lib.hid hEe
        rw [← hEe] at d0 d1 d2 d3 d4
        obtain ⟨eg, ec, efs, ea, et⟩ := E
        dsimp only at d0 d1 d2 d3 d4
        have CO := Lib.hid fun w' => order_any w' (bs eg) gb ec c fa none efs.length 0 fc 0 ea false et 0
        rw [bs_toList, ← HG.out] at CO
        obtain ⟨z, hz⟩ : ∃ z, z = cmpK eg ec g c := ⟨_, rfl⟩
        have hhit : Hid (hitB l g c = (z == 0)) := show _ = _ by
          unfold hitB
          rw [← hpi, ← hEe, hz]
          by_cases hk : eg = g ∧ ec = c
          · rw [cmpK_eq.2 hk]; simp [hpl, hk]
          · have : ¬ cmpK eg ec g c = 0 := fun h => hk (cmpK_eq.1 h)
            rw [beq_eq_false_iff_ne.2 this]
            simp; intro _ h1 h2; exact hk ⟨h1, h2⟩
        have HPI := Lib.hid hpi
        rw [← hz] at CO
        clear hEe hz EB hpi HEe
        go_wp2_with fail
        refine wp_region_calm (by kernel_rfl) (by kernel_rfl) ?_
        repeat (first | (go_big_quiet_step ((go_at_call 151; exact calls_calm (CO.out _)))) | (refine wpQuiet_step (fun K hK => ?_); go_simp; first | (refine hK _ ?_; clear hK K) | (apply Exists.intro; refine ⟨fun _ => ?_, hK _ ?_⟩; (go_at_call 151; exact calls_calm (CO.out _)); clear hK K)))
        refine wpQuiet_nil ?_
        intro _ hw'
        obtain ⟨xq, hw''⟩ := hw'
        subst hw''
        go_wp2_with fail
        go_ret2
        rw [hhit.out, ← HPI.out]
        exact ⟨rfl, bel_below BW.out xq.below⟩
      · have hhit : Hid (hitB l g c = false) := show _ = _ by
          unfold hitB
          rw [← hpi]
          simp; intro h; exact absurd h hpl
        have HPI := Lib.hid hpi
        clear EB hpi
        go_wp2_with fail
        refine wp_region_calm (by kernel_rfl) (by kernel_rfl) ?_
        repeat (first | (go_big_quiet_step ((fail))) | (refine wpQuiet_step (fun K hK => ?_); go_simp; first | (refine hK _ ?_; clear hK K) | (apply Exists.intro; refine ⟨fun _ => ?_, hK _ ?_⟩; (fail); clear hK K)))
        refine wpQuiet_nil ?_
        intro _ hw'
        obtain ⟨xq, hw''⟩ := hw'
        subst hw''
        go_wp2_with fail
        go_ret2
        rw [hhit.out, ← HPI.out]
        exact ⟨rfl, bel_below BW.out xq.below⟩
set_option maxRecDepth 100000 in
/-- find: where an entry stands, or should. -/
theorem find_any {R : Nat → Prop} {w : World} {tb : Nat} {l : List Ent} (h : TabAt 79 R w tb l) (gb : ByteArray) (c : Int) :
    Calls Tryz.prog 119 #[.pointer (some ⟨tb, 0, none⟩), .string gb, .int .i64 c] w
      fun e w' => e = .returned (.tuple #[.int .i64 (findI l gb.toList c), .bool (hitB l gb.toList c)]) ∧ Below w.heap.size w w' := by
  obtain ⟨v, rs, rfl, hT⟩ := h
  have C := bsf_any w (entsOf rs) v hT.rows hT.ord (by rw [entsOf_len]; have := hT.few; omega) gb c
  obtain ⟨a, cp, rfl, _⟩ := hT.rows.slice
  have CB := Lib.hid C
  have x0 := hT.cell
  clear C hT
  go_enter Tryz.func119, Tryz.ntmps119
  go_wp2_with fail
  refine CB.out.mono ?_
  rintro e w1 ⟨rfl, hb⟩
  go_wp2_with fail
  go_ret2
  exact ⟨rfl, hb⟩
end Go.Proofs.YtahiahjhpakeiaaGreatDoor
end
section
namespace Go.Proofs.YtahiahjhpakeiaaGreatDoor
open Go.RowKit Go.Maps Go.Sort Go.WideShapes Go.ChangeShapes Go.Deep
set_option linter.unusedVariables false
set_option linter.unusedSimpArgs false
/-- A world in which only blocks of S have turned. -/
structure KeptT (S : Nat → Prop) (w : World) where
  world : World
  kept : Kept S w world
theorem keptT_cell {S : Nat → Prop} {w : World} (x : KeptT S w) (b o : Nat) (hb : b < w.heap.size) (hS : ¬ S b) : x.world.cell? ⟨b, o, none⟩ = w.cell? ⟨b, o, none⟩ := World.cell?_of_block (x.kept.block b hb hS)
theorem keptT_lt {S : Nat → Prop} {w : World} (x : KeptT S w) (b : Nat) (hb : b < w.heap.size) : (b < x.world.heap.size) = True := eq_true (Nat.lt_of_lt_of_le hb x.kept.size)
instance {S : Nat → Prop} {w : World} : Nonempty (KeptT S w) := ⟨⟨w, Kept.refl S w⟩⟩
attribute [local go_sem] later_cell later_frozen later_lt cell_set_off cell_set_block keptT_cell keptT_lt

theorem flat_set {rs : List Row} {i : Nat} (hi : i < rs.length) (r : Row) (j : Nat) : (flat (rs.set i r))[j]? = if i * 5 ≤ j ∧ j < i * 5 + 5 then r.cells[j - i * 5]? else (flat rs)[j]? := by
  have hl : (flat (rs.set i r)).length = rs.length * 5 := by rw [flat_length]; simp
  have hl2 := flat_length rs
  by_cases hj : j < rs.length * 5
  · have hk : j / 5 < rs.length := by omega
    have hjm : j % 5 < 5 := Nat.mod_lt _ (by decide)
    have e : j = j / 5 * 5 + j % 5 := by omega
    have h1 := flat_cell (rs := rs.set i r) (k := j / 5) (by simpa using hk) hjm
    have h2 := flat_cell (rs := rs) hk hjm
    rw [← e] at h1 h2
    rw [h1, h2]
    by_cases hik : j / 5 = i
    · subst hik
      rw [if_pos (by omega)]
      simp only [List.getElem_set_self]
      congr 1; omega
    · rw [if_neg (by omega), List.getElem_set, if_neg (Ne.symm hik)]
  · rw [if_neg (by omega), List.getElem?_eq_none (by omega), List.getElem?_eq_none (by omega)]
/-- An entry written over one of a row of one's own. -/
theorem own_set {w : World} {base e : Nat} {g n cap i : Nat} {rs : List Row} {r : Row} (h : w.ownsRow base e 5 (.slice (some ⟨g, 0, none⟩) n cap) n (flat rs)) (hn : rs.length = n) (hi : i < n) :
    (w.setCells g (i * 5) r.cells).ownsRow base e 5 (.slice (some ⟨g, 0, none⟩) n cap) n (flat (rs.set i r)) := by
  obtain ⟨cur, hB, hg, hnc, hm, hs, ht⟩ : ∃ cur, base ≤ g ∧ w.heap[g]? = some (.cells cur e (0, 0)) ∧ n ≤ cap ∧ cap ≤ maxLen ∧ cur.size = cap * 5 ∧ cur.toList.take (n * 5) = flat rs := by
    rcases h.2 with ⟨h0, _⟩ | ⟨g', cap', cur, e0, hB, hg, hnc, hm, hs, ht⟩
    · cases h0
    · cases e0
      exact ⟨cur, hB, hg, hnc, hm, hs, ht⟩
  obtain ⟨cur', q1, q2⟩ := heap_setCells_row_e g r.cells (i * 5) w cur e (0, 0) hg
  refine own_row_wide q1 (by omega) hnc hm hB (by rw [flat_length]; simp [hn]) (fun j u hu => ?_)
  have hj : j < n * 5 := by
    have := (List.getElem?_eq_some_iff.1 hu).1
    rw [flat_length] at this
    simpa [hn] using this
  have hsome : ∀ t, t < cap * 5 → (w.cell? ⟨g, t, none⟩).isSome = true := fun t ht => by
    rw [cell_of_row w g t cur e (0, 0) hg, Array.getElem?_eq_getElem (by omega)]; rfl
  rw [flat_set (by omega)] at hu
  have hrl := Row.len r
  by_cases h1 : i * 5 ≤ j ∧ j < i * 5 + 5
  · rw [if_pos h1] at hu
    have := World.cell?_setCells_in g r.cells (i * 5) w (fun t ht => hsome _ (by omega)) (j - i * 5) (by omega)
    rw [show i * 5 + (j - i * 5) = j by omega] at this
    rw [this]
    rwa [List.getElem?_eq_getElem (by omega)] at hu
  · rw [if_neg h1] at hu
    rw [World.cell?_setCells_out g _ _ _ _ (fun _ _ => by show j < i * 5 ∨ i * 5 + r.cells.length ≤ j; omega)]
    rw [cell_of_row w g j cur e (0, 0) hg]
    rw [← ht, List.getElem?_take, if_pos hj] at hu
    simpa using hu
theorem Kept.more {S S' : Nat → Prop} {w w' : World} (h : Kept S w w') (hS : ∀ b, S b → S' b) : Kept S' w w' := ⟨h.os, h.tape, h.output, h.size, fun b hb hn => h.block b hb fun hs => hn (hS b hs)⟩
theorem kept_setCells {S : Nat → Prop} (b o : Nat) (vs : List Value) (w : World) (hS : S b) : Kept S w (w.setCells b o vs) :=
  ⟨(meta_setCells_e b vs o w).1, (meta_setCells_e b vs o w).2.1, (meta_setCells_e b vs o w).2.2, by rw [size_setCells_e]; exact Nat.le_refl _, fun k _ hk => heap_setCells_other_e b k (fun e => hk (e ▸ hS)) vs o w⟩
theorem entsOf_set (rs : List Row) (i : Nat) (r : Row) : entsOf (rs.set i r) = (entsOf rs).set i r.e := by unfold entsOf; rw [List.map_set]
theorem entsOf_put (rs : List Row) (i : Nat) (r : Row) : entsOf (putRows rs i r) = (entsOf rs).take i ++ r.e :: (entsOf rs).drop i := by unfold entsOf putRows; rw [List.map_append, List.map_cons, List.map_take, List.map_drop]
/-- A table behind a write. -/
theorem TabIn.step {e : TypeId} {R : Nat → Prop} {w w' : World} {tb B : Nat} {v v' : Value} {rs rs' : List Row} {r0 : Row} (h : TabIn e R w tb v rs) (hR : ∀ b, R b → b < B) (hB : B ≤ w.heap.size)
    (hk : Kept (fun b => b = tb ∨ v.ownBlock = some b) w w') (hcell : w'.cell? ⟨tb, 0, none⟩ = some v') (hfz : w'.frozen? ⟨tb, 0, none⟩ = false) (hrow : w'.ownsRow 0 e 5 v' rs'.length (flat rs'))
    (hown : v'.ownBlock = v.ownBlock ∨ ∀ q, v'.ownBlock = some q → w.heap.size ≤ q) (hmem : ∀ r ∈ rs', r ∈ rs ∨ r = r0) (hr0 : SlT (fun b => B ≤ b) r0.e.fs w r0.v) (hc0 : cleanE r0.e = r0.e)
    (hord : OrdE (entsOf rs')) (hfew : rs'.length ≤ 400) : ∃ R', (∀ b, R' b → R b ∨ B ≤ b) ∧ TabIn e R' w' tb v' rs' := by
  have htB := hR _ h.tbR
  have hoB : ∀ q, v.ownBlock = some q → q < B := fun q hq => hR _ (h.rowR q hq).1
  have hK : ∀ b, b < w.heap.size → b ≠ tb → v.ownBlock ≠ some b → w'.heap[b]? = w.heap[b]? := fun b hb h1 h2 => hk.block b hb (fun h => h.elim h1 h2)
  have hn : ∀ b, b < w.heap.size → v.ownBlock ≠ some b → v'.ownBlock ≠ some b := fun b hb h1 h2 => by
    rcases hown with h' | h'
    · rw [h'] at h2; exact h1 h2
    · have := h' b h2; omega
  have hql : ∀ q, v'.ownBlock = some q → q < w'.heap.size := fun q hq => (hrow.lt q hq).2
  refine ⟨fun b => R b ∨ (B ≤ b ∧ b < w'.heap.size), fun b hb => hb.imp id And.left, ?_⟩
  refine { tbR := Or.inl h.tbR, cell := hcell, fz := hfz, row := hrow, rowR := fun q hq => ?_, fs := fun r hr => ?_, old := fun b hb => ?_, ord := hord, few := hfew, clean := fun r hr => ?_ }
  · rcases hown with h' | h'
    · rw [h'] at hq
      exact ⟨Or.inl (h.rowR q hq).1, (h.rowR q hq).2⟩
    · have h1 := h' q hq
      have h2 := hql q hq
      exact ⟨Or.inr ⟨by omega, h2⟩, by omega⟩
  · rcases hmem r hr with h1 | h1
    · exact (h.fs r h1).imp (fun b hb hq => ⟨Or.inl hq.1, hq.2.1, hn b hb hq.2.2⟩) hk.size fun b hb hq => hK b hb hq.2.1 hq.2.2
    · subst h1
      have hno : ∀ b, B ≤ b → v.ownBlock ≠ some b := fun b hb h1 => by have := hoB b h1; omega
      exact hr0.imp (fun b hb hq => ⟨Or.inr ⟨hq, Nat.lt_of_lt_of_le hb hk.size⟩, by omega, hn b hb (hno b hq)⟩) hk.size fun b hb hq => hK b hb (by omega) (hno b hq)
  · rcases hb with hb | hb
    · exact Nat.lt_of_lt_of_le (h.old b hb) hk.size
    · exact hb.2
  · rcases hmem r hr with h1 | h1
    · exact h.clean r h1
    · rw [h1]; exact hc0
theorem own_frozen {w : World} {base e n k : Nat} {v : Value} {xs : List Value} (h : w.ownsRow base e k v n xs) {q : Nat} (hq : v.ownBlock = some q) (o : Nat) : w.frozen? ⟨q, o, none⟩ = false := by
  rcases h.2 with ⟨rfl, _⟩ | ⟨g', cap', cur, rfl, hB, hg, _⟩
  · simp [Value.ownBlock] at hq
  · cases hq
    unfold World.frozen?
    rw [hg]; simp
/-- An error of a code. -/
def IsFlt (B : Nat) (w : World) (v : Value) (c : Int) : Prop :=
  ∃ b : Nat, v = .iface 146 (.pointer (some ⟨b, 0, none⟩)) ∧ B ≤ b ∧ b < w.heap.size ∧ w.cell? ⟨b, 2, none⟩ = some (.iface 109 (.int .i64 c))
theorem IsFlt.base {B B' : Nat} {w : World} {v : Value} {c : Int} (h : IsFlt B w v c) (hB : B' ≤ B) : IsFlt B' w v c := by
  obtain ⟨b, rfl, h1, h2, h3⟩ := h
  exact ⟨b, rfl, Nat.le_trans hB h1, h2, h3⟩
theorem tflt_any (w : World) (c : Int) : Calls Tryz.prog 121 #[.int .i64 c] w fun e w' => ∃ v, e = .returned v ∧ IsFlt w.heap.size w' v c ∧ Below w.heap.size w w' := by
  go_enter Tryz.func121, Tryz.ntmps121
  go_wp2
  go_ret
  refine ⟨_, rfl, ⟨w.heap.size, rfl, Nat.le_refl _, by simp, by simp [go_sem]⟩, bel_alloc (Below.refl _ _) _⟩
/-- What an entry finds no room in. -/
def fullB (l : List Ent) (x : Ent) : Bool := !hitB l x.g x.c && decide (400 ≤ l.length)
/-- What Put leaves. -/
def PutPost (R : Nat → Prop) (w : World) (tb : Nat) (l : List Ent) (x : Ent) (e : Ending) (w' : World) : Prop :=
  (if fullB l x = true then ∃ v, e = .returned v ∧ IsFlt w.heap.size w' v 4 ∧ TabAt 79 R w' tb l
    else e = .returned .nilIface ∧ ∃ R', (∀ b, R' b → R b ∨ w.heap.size ≤ b) ∧ TabAt 79 R' w' tb (putE l (cleanE x))) ∧ Kept R w w'
set_option maxRecDepth 100000 in
set_option maxHeartbeats 8000000 in
theorem put_at {R : Nat → Prop} {w : World} {tb : Nat} {l : List Ent} (h : TabAt 79 R w tb l) (x : Ent) (fv : Value) (hf : SlS 0 x.fs w fv) (hl : x.fs.length ≤ 1000000) :
    Calls Tryz.prog 81 #[.pointer (some ⟨tb, 0, none⟩), EntV x fv] w (PutPost R w tb l x) := by
  obtain ⟨v, rs, rfl, hT⟩ := h
  obtain ⟨g, c, fs, any, t⟩ := x
  dsimp only at hf hl
  unfold EntV
  dsimp only
  rw [show sV g = .string (bs g) from rfl]
  obtain ⟨fa, fc, rfl, _⟩ := hf.slice
  have HS := Lib.hid hf
  have HT := Lib.hid hT
  have hfi := findI_le (entsOf rs) g c
  rw [entsOf_len] at hfi
  clear hf hT
  have HP : Hid (∀ e w', ((if fullB (entsOf rs) ⟨g, c, fs, any, t⟩ = true then ∃ v, e = .returned v ∧ IsFlt w.heap.size w' v 4 ∧ TabAt 79 R w' tb (entsOf rs)
    else e = Ending.returned .nilIface ∧ ∃ R', (∀ b, R' b → R b ∨ w.heap.size ≤ b) ∧ TabAt 79 R' w' tb (putE (entsOf rs) (cleanE ⟨g, c, fs, any, t⟩))) ∧ Kept R w w') → PutPost R w tb (entsOf rs) ⟨g, c, fs, any, t⟩ e w') := fun e w' h => h
  obtain ⟨i, hi⟩ : ∃ z, z = findI (entsOf rs) g c := ⟨_, rfl⟩
  have HI := Lib.hid hi
  rw [← hi] at hfi
  cases hh : hitB (entsOf rs) g c with
  | true =>
    have HH := Lib.hid hh
    have HIH := Lib.hid hh
    go_enter Tryz.func81, Tryz.ntmps81
    go_wp2_with fail
    obtain ⟨w1, hw1⟩ : ∃ z, z = w.alloc (.cells #[.string (bs g), .int .i64 c, .slice fa fs.length fc, .bool any, .int .i64 t] 79) := ⟨_, rfl⟩
    obtain ⟨X, hX⟩ : ∃ z, z = w.heap.size := ⟨_, rfl⟩
    have b01 : Below w.heap.size w w1 := by rw [hw1]; exact bel_alloc (Below.refl _ _) _
    have XS : Hid (Box5 w1 X (.string (bs g)) (.int .i64 c) (.slice fa fs.length fc) (.bool any) (.int .i64 t)) := by
      rw [hw1, hX]; exact box5_new w _ _ _ _ _ _
    have hXR : Hid (∀ b, R b → b ≠ X) := fun b hb e => by have := HT.out.old b hb; omega
    try rw [← hw1]
    try rw [← hX]
    clear hw1 hX
    have B1 := Lib.hid b01
    have HT1 := Lib.hid (HT.out.below b01)
    have CF := Lib.hid (find_any ⟨v, rs, rfl, HT1.out⟩ (bs g) c)
    rw [bs_toList] at CF
    clear b01
    refine CF.out.mono ?_
    rintro e w2 ⟨rfl, hb2⟩
    have B2 := Lib.hid (bel_below B1.out hb2)
    have T2 := Lib.hid (HT1.out.below hb2)
    have XS2 := Lib.hid (XS.out.below hb2)
    clear hb2 CF HT1 XS
    have SX := Lib.hid (HS.out.below B2.out)
    have hit : i < rs.length ∧ (entAt (entsOf rs) i).g = g ∧ (entAt (entsOf rs) i).c = c := by
      have := HH.out; unfold hitB at this; rw [decide_eq_true_eq, ← HI.out, entsOf_len] at this; exact this
    have hlt := hit.1
    have HIT := Lib.hid hit
    obtain ⟨va, vc, rfl, hv1, hv2⟩ := T2.out.rows.slice
    rw [entsOf_len] at *
    obtain ⟨q, rfl⟩ : ∃ q, va = some ⟨q, 0, none⟩ := by
      rcases T2.out.row.2 with ⟨e0, h0⟩ | ⟨g', cap', cur, e0, _⟩
      · omega
      · cases e0; exact ⟨g', rfl⟩
    have tc := T2.out.cell
    have tz := T2.out.tbz
    have hqR := T2.out.rowR q rfl
    have hqz := T2.out.old q hqR.1
    obtain ⟨x0, x1, x2, x3, x4, -, -, -, -, -, xz⟩ := XS2.out
    have CC := Lib.hid fun w' (hb : Below w2.heap.size w2 w') => clean_any w' ⟨g, c, fs, any, t⟩ (.slice fa fs.length fc) (SX.out.below hb) hl
    rw [← HI.out]
    clear hit HH XS2 hi
    go_wp2_with fail
    refine wp_region_heads [0, 1, 2, 3, 4, 5] 8 (fun w' => ∃ y : Later w2, w' = y.world) (by kernel_rfl) (by kernel_rfl) ⟨⟨{ w2 with drawn := w2.drawn + 1 }, (RowKit.Below.refl _ _).drew⟩, rfl⟩ ?_ ?_
    · intro d v c a w h
      cases d <;> exact h
    simp only [headOps]
    repeat (refine wpTame_step (fun K hK => ?_); go_simp; refine hK _ ?_; clear hK K)
    refine wpTame_nil ?_
    refine wpAnyC_step (f := 2) [6] (by kernel_rfl) rfl rfl (fun i hi => ?_)
    simp only [List.mem_cons, List.not_mem_nil, or_false] at hi
    subst hi
    refine ⟨_, rfl, fun R hR => ?_⟩
    go_wp2_with fail
    refine (CC.out _ (bel_drew (RowKit.Below.refl _ _))).mono ?_
    rintro e wc ⟨v9, rfl, hs9, hbc⟩
    have BC := Lib.hid ((bel_drew (RowKit.Below.refl _ _)).trans (hbc.mono (by simp)) : RowKit.Below w2.heap.size w2 wc)
    have S9 := Lib.hid hs9
    clear hbc hs9
    obtain ⟨x9, hx9⟩ : ∃ z, z = cleanE ⟨g, c, fs, any, t⟩ := ⟨_, rfl⟩
    have HX9 := Lib.hid hx9
    rw [← hx9] at S9 ⊢
    obtain ⟨f9, q9, rfl, _⟩ := S9.out.slice
    obtain ⟨g9, c9, fs9, any9, t9⟩ := x9
    unfold EntV
    dsimp only
    rw [show sV g9 = .string (bs g9) from rfl]
    clear hx9
    go_wp2_with fail
    refine hR _ _ ⟨⟨wc, (BC).out⟩, rfl⟩ ?_
    clear hR R
    refine wpAnyC_step (f := 1) [7] (by kernel_rfl) rfl rfl (fun i hi => ?_)
    simp only [List.mem_cons, List.not_mem_nil, or_false] at hi
    subst hi
    refine ⟨_, rfl, fun R hR => ?_⟩
    go_wp2_with fail
    refine hR _ _ ⟨⟨wc, BC.out⟩, rfl⟩ ?_
    clear hR R
    refine wpAnyC_end (k := 8) (by decide) rfl rfl (by kernel_rfl) ?_
    have T3 := Lib.hid (T2.out.below BC.out)
    obtain ⟨b, off, fa', fc', e9, _, _, d0, d1, d2, d3, d4, _⟩ := EntsIn.at (a := some ⟨q, 0, none⟩) (cap := vc) (by rw [entsOf_len]; exact T3.out.rows) i (by rw [entsOf_len]; exact hlt)
    cases e9
    rw [Nat.zero_add] at d0 d1 d2 d3 d4
    have z0 := own_frozen T3.out.row rfl (i * 5)
    have z1 := own_frozen T3.out.row rfl (i * 5 + 1)
    have z2 := own_frozen T3.out.row rfl (i * 5 + 2)
    have z3 := own_frozen T3.out.row rfl (i * 5 + 3)
    have z4 := own_frozen T3.out.row rfl (i * 5 + 4)
    clear x0 x1 x2 x3 x4
    go_wp2_with fail
    go_ret
    have hg9 : g9 = g := by have := congrArg Ent.g HX9.out; rwa [clean_g] at this
    have hc9 : c9 = c := by have := congrArg Ent.c HX9.out; rwa [clean_c] at this
    obtain ⟨r0, hr0⟩ : ∃ z : Row, z = ⟨⟨g9, c9, fs9, any9, t9⟩, .slice f9 fs9.length q9⟩ := ⟨_, rfl⟩
    refine HP.out _ (wc.setCells q (i * 5) (Row.cells ⟨⟨g9, c9, fs9, any9, t9⟩, .slice f9 fs9.length q9⟩)) ⟨?_, ?_⟩
    · rw [if_neg (by unfold fullB; rw [HIH.out]; simp)]
      refine ⟨rfl, ?_⟩
      have hput : putE (entsOf rs) (cleanE ⟨g, c, fs, any, t⟩) = entsOf (rs.set i r0) := by
        rw [entsOf_set, ← HX9.out, hr0, hg9, hc9]
        unfold putE
        rw [if_pos HIH.out, HI.out]
      rw [hput, ← hr0]
      have hZ := Nat.le_trans B2.out.size BC.out.size
      obtain ⟨R', h1, h2⟩ := T3.out.step (B := w.heap.size) (rs' := rs.set i r0) (r0 := r0) (w' := wc.setCells q (i * 5) r0.cells) (v' := .slice (some ⟨q, 0, none⟩) rs.length vc) HT.out.old hZ
        (kept_setCells q (i * 5) r0.cells wc (Or.inr rfl)) (by rw [World.cell?_setCells_out q _ _ _ _ (fun h _ => absurd h (Ne.symm hqR.2))]; exact T3.out.cell) (by rw [World.frozen?_setCells]; exact T3.out.fz)
        (by rw [List.length_set]; exact own_set T3.out.row rfl hlt) (Or.inl rfl) (fun r hr => (List.mem_or_eq_of_mem_set hr)) (by rw [hr0]; exact SlT.of_slAt S9.out (fun b hb _ => Nat.le_trans B2.out.size hb)) (by rw [hr0]; show cleanE ⟨g9, c9, fs9, any9, t9⟩ = _; rw [HX9.out, clean_clean])
        (by rw [← hput]; exact ord_putE T3.out.ord _) (by rw [List.length_set]; exact T3.out.few)
      exact ⟨R', h1, _, _, rfl, h2⟩
    · rw [← hr0]
      exact (((Kept.refl R w).below B2.out).below BC.out).trans (kept_setCells q (i * 5) r0.cells wc hqR.1)
  | false =>
    have HIH := Lib.hid hh
    go_enter Tryz.func81, Tryz.ntmps81
    go_wp2_with fail
    obtain ⟨w1, hw1⟩ : ∃ z, z = w.alloc (.cells #[.string (bs g), .int .i64 c, .slice fa fs.length fc, .bool any, .int .i64 t] 79) := ⟨_, rfl⟩
    obtain ⟨X, hX⟩ : ∃ z, z = w.heap.size := ⟨_, rfl⟩
    have b01 : Below w.heap.size w w1 := by rw [hw1]; exact bel_alloc (Below.refl _ _) _
    have XS : Hid (Box5 w1 X (.string (bs g)) (.int .i64 c) (.slice fa fs.length fc) (.bool any) (.int .i64 t)) := by
      rw [hw1, hX]; exact box5_new w _ _ _ _ _ _
    have hXR : Hid (∀ b, R b → b ≠ X) := fun b hb e => by have := HT.out.old b hb; omega
    try rw [← hw1]
    try rw [← hX]
    clear hw1 hX
    have B1 := Lib.hid b01
    have HT1 := Lib.hid (HT.out.below b01)
    have CF := Lib.hid (find_any ⟨v, rs, rfl, HT1.out⟩ (bs g) c)
    rw [bs_toList] at CF
    clear b01
    refine CF.out.mono ?_
    rintro e w2 ⟨rfl, hb2⟩
    have B2 := Lib.hid (bel_below B1.out hb2)
    have T2 := Lib.hid (HT1.out.below hb2)
    have XS2 := Lib.hid (XS.out.below hb2)
    clear hb2 CF HT1 XS
    have SX := Lib.hid (HS.out.below B2.out)
    obtain ⟨va, vc, rfl, hv1, hv2⟩ := T2.out.rows.slice
    rw [entsOf_len] at *
    have tc := T2.out.cell
    have tz := T2.out.tbz
    have tf := T2.out.fz
    obtain ⟨x0, x1, x2, x3, x4, -, -, -, -, -, xz⟩ := XS2.out
    rw [← HI.out, HIH.out]
    clear hh XS2 hi
    by_cases hf : 400 ≤ rs.length
    · have hfI : (400 : Int) ≤ ((rs.length : Nat) : Int) := by omega
      have hful : Hid (fullB (entsOf rs) ⟨g, c, fs, any, t⟩ = true) := show _ = _ by unfold fullB; rw [HIH.out, entsOf_len]; simpa using hf
      clear x0 x1 x2 x3 x4
      go_wp2_with fail
      refine (tflt_any _ _).mono ?_
      rintro e w3 ⟨v3, rfl, hE, hb3⟩
      have HE := Lib.hid (hE.base B2.out.size)
      obtain ⟨b3, rfl, _⟩ := HE.out
      have T3 := Lib.hid (T2.out.below hb3)
      have B3 := Lib.hid (bel_below B2.out hb3)
      clear hE hb3
      go_wp2_with fail
      go_ret
      refine HP.out _ _ ⟨?_, (Kept.refl R w).below B3.out⟩
      rw [if_pos hful.out]
      exact ⟨_, rfl, HE.out, _, rs, rfl, T3.out⟩
    · have hfI : ¬ (400 : Int) ≤ ((rs.length : Nat) : Int) := by omega
      have hful : Hid (¬ fullB (entsOf rs) ⟨g, c, fs, any, t⟩ = true) := show ¬ _ by unfold fullB; rw [HIH.out, entsOf_len]; simpa using hf
      have CC := Lib.hid fun w' (hb : Below w2.heap.size w2 w') => clean_any w' ⟨g, c, fs, any, t⟩ (.slice fa fs.length fc) (SX.out.below hb) hl
      obtain ⟨S, hS⟩ : ∃ S : Nat → Prop, S = fun b => Value.ownBlock (.slice va rs.length vc) = some b := ⟨_, rfl⟩
      have HS' := Lib.hid hS
      have hST : ¬ S tb := by rw [hS]; intro h; exact (T2.out.rowR _ h).2 rfl
      have hSX : ¬ S X := by rw [hS]; intro h; exact hXR.out _ (T2.out.rowR _ h).1 rfl
      clear hS
      go_wp2_with fail
      refine wp_region_heads [0, 1, 2, 3, 4, 5, 6] 12 (fun w' => ∃ y : KeptT S w2, w' = y.world) (by kernel_rfl) (by kernel_rfl) ⟨⟨{ w2 with drawn := w2.drawn + 1 }, (Kept.refl S w2).drew⟩, rfl⟩ ?_ ?_
      · intro d v c a w h
        cases d <;> exact h
      simp only [headOps]
      repeat (refine wpTame_step (fun K hK => ?_); go_simp; refine hK _ ?_; clear hK K)
      refine wpTame_nil ?_
      refine wpAnyC_step (f := 5) [7] (by kernel_rfl) rfl rfl (fun i hi => ?_)
      simp only [List.mem_cons, List.not_mem_nil, or_false] at hi
      subst hi
      refine ⟨_, rfl, fun R hR => ?_⟩
      go_wp2_with fail
      refine (CC.out _ (bel_drew (RowKit.Below.refl _ _))).mono ?_
      rintro e wc ⟨v9, rfl, hs9, hbc⟩
      have BC := Lib.hid ((bel_drew (RowKit.Below.refl _ _)).trans (hbc.mono (by simp)) : RowKit.Below w2.heap.size w2 wc)
      have KC := Lib.hid ((Kept.refl S w2).below BC.out)
      have S9 := Lib.hid hs9
      clear hbc hs9
      obtain ⟨x9, hx9⟩ : ∃ z, z = cleanE ⟨g, c, fs, any, t⟩ := ⟨_, rfl⟩
      have HX9 := Lib.hid hx9
      rw [← hx9] at S9 ⊢
      obtain ⟨f9, q9, rfl, _⟩ := S9.out.slice
      obtain ⟨g9, c9, fs9, any9, t9⟩ := x9
      unfold EntV
      dsimp only
      rw [show sV g9 = .string (bs g9) from rfl]
      clear hx9
      have T3 := Lib.hid (T2.out.below BC.out)
      go_wp2_with fail
      refine hR _ _ ⟨⟨wc, (KC).out⟩, rfl⟩ ?_
      clear hR R
      refine wpAnyC_step (f := 4) [8] (by kernel_rfl) rfl rfl (fun i hi => ?_)
      simp only [List.mem_cons, List.not_mem_nil, or_false] at hi
      subst hi
      refine ⟨_, rfl, fun R hR => ?_⟩
      go_wp2_with fail
      refine hR _ _ ⟨⟨_, KC.out.alloc _⟩, rfl⟩ ?_
      clear hR R
      refine wpAnyC_step (f := 3) [9] (by kernel_rfl) rfl rfl (fun i hi => ?_)
      simp only [List.mem_cons, List.not_mem_nil, or_false] at hi
      subst hi
      refine ⟨_, rfl, fun R hR => ?_⟩
      go_wp2_with fail
      obtain ⟨r0, hr0⟩ : ∃ z : Row, z = ⟨⟨g9, c9, fs9, any9, t9⟩, .slice f9 fs9.length q9⟩ := ⟨_, rfl⟩
      have CI := insE_any wc 0 (.slice va rs.length vc) rs r0 i T3.out.row hfi (by omega) (Nat.zero_le _) (fun r hr => (T3.out.fs r hr).one) (by rw [hr0]; rfl)
      rw [hr0] at CI
      refine (show Calls Tryz.prog 122 #[.slice va rs.length vc, .int .i64 i, .slice (some ⟨wc.heap.size, 0, none⟩) 1 1] (wc.alloc (.cells #[.string (bs g9), .int .i64 c9, .slice f9 fs9.length q9, .bool any9, .int .i64 t9] 79)) _ from CI).mono ?_
      rintro e wi ⟨v', rfl, hown, hgr, hfresh⟩
      obtain ⟨a', c', rfl⟩ : ∃ a' c', v' = .slice a' (rs.length + 1) c' := by
        rcases hown.2 with ⟨_, h0⟩ | ⟨g', cap', cur, e0, _⟩
        · omega
        · exact ⟨_, _, e0⟩
      rw [← hr0] at hown
      have HOW := Lib.hid hown
      have HFR := Lib.hid hfresh
      have HRR := Lib.hid hr0
      have KI : Hid (Kept S wc wi) := ⟨hgr.os, hgr.tape, hgr.output, hgr.size, fun b hb hn => hgr.block b hb (fun e => hn (by rw [HS'.out]; exact e.symm))⟩
      have KW := Lib.hid (KC.out.trans KI.out)
      clear hown hgr hfresh hr0 CI
      go_wp2_with fail
      refine hR _ _ ⟨⟨wi, (KW).out⟩, rfl⟩ ?_
      clear hR R
      refine wpAnyC_mid (f := 1) [10, 11] ⟨⟨wi, KW.out⟩, rfl⟩ (by kernel_rfl) (fun d v c a w h => by cases d <;> exact h) ?_
      simp only [headOps]
      repeat (refine wpTame_step (fun K hK => ?_); go_simp; refine hK _ ?_; clear hK K)
      refine wpTame_nil ?_
      refine wpAnyC_end (k := 12) (by decide) rfl rfl (by kernel_rfl) ?_
      have tc' := (World.cell?_of_block (KW.out.block tb tz hST)).trans tc
      have tf' := (World.frozen?_of_block (KW.out.block tb tz hST)).trans tf
      clear x0 x1 x2 x3 x4 tc tf
      go_wp2_with fail
      go_ret
      have hg9 : g9 = g := by have := congrArg Ent.g HX9.out; rwa [clean_g] at this
      have hc9 : c9 = c := by have := congrArg Ent.c HX9.out; rwa [clean_c] at this
      have hR2 : ∀ b, S b → R b ∧ b ≠ tb := fun b hb => by rw [HS'.out] at hb; exact T3.out.rowR b hb
      have hput : putE (entsOf rs) (cleanE ⟨g, c, fs, any, t⟩) = entsOf (putRows rs i r0) := by
        rw [entsOf_put, ← HX9.out, HRR.out, hg9, hc9]
        unfold putE
        rw [if_neg (by rw [HIH.out]; simp), HI.out]
      have KT : Kept (fun b => b = tb ∨ Value.ownBlock (.slice va rs.length vc) = some b) wc (wi.setCell ⟨tb, 0, none⟩ (.slice a' (rs.length + 1) c')) :=
        Kept.set (S := fun b => b = tb ∨ Value.ownBlock (.slice va rs.length vc) = some b) (KI.out.more fun b hb => Or.inr (by rw [HS'.out] at hb; exact hb)) (p := ⟨tb, 0, none⟩) (show _ = _ ∨ _ from Or.inl rfl) _
      refine HP.out _ _ ⟨?_, ?_⟩
      · rw [if_neg hful.out]
        refine ⟨rfl, ?_⟩
        rw [hput]
        have hZ := Nat.le_trans B2.out.size BC.out.size
        have htn : ∀ q, Value.ownBlock (.slice a' (rs.length + 1) c') = some q → q ≠ tb := fun q hq => by
          rcases HFR.out with h | h
          · rw [h] at hq; exact (T3.out.rowR q hq).2
          · have h1 := h q hq
            have h2 := T3.out.tbz
            omega
        obtain ⟨R', h1, h2⟩ := T3.out.step (B := w.heap.size) (rs' := putRows rs i r0) (r0 := r0) (w' := wi.setCell ⟨tb, 0, none⟩ (.slice a' (rs.length + 1) c')) (v' := .slice a' (rs.length + 1) c') HT.out.old hZ KT
          (World.cell?_setCell_same _ _ _ tc') (by rw [World.frozen?_setCell]; exact tf')
          (by rw [putRows_len rs i r0 hfi]; exact ownsRow_same HOW.out fun q hq => Below.heap_setCell _ _ _ _ (htn q hq)) HFR.out
          (fun r hr => by
            unfold putRows at hr
            rcases List.mem_append.1 hr with h | h
            · exact Or.inl (List.mem_of_mem_take h)
            · rcases List.mem_cons.1 h with h | h
              · exact Or.inr h
              · exact Or.inl (List.mem_of_mem_drop h))
          (by rw [HRR.out]; exact SlT.of_slAt S9.out (fun b hb _ => Nat.le_trans B2.out.size hb)) (by rw [HRR.out]; show cleanE ⟨g9, c9, fs9, any9, t9⟩ = _; rw [HX9.out, clean_clean])
          (by rw [← hput]; exact ord_putE T3.out.ord _) (by rw [putRows_len rs i r0 hfi]; omega)
        exact ⟨R', h1, _, _, rfl, h2⟩
      · exact (((Kept.refl R w).below B2.out).below BC.out).trans (KT.more fun b hb => by
          rcases hb with h | h
          · rw [h]; exact T3.out.tbR
          · exact (T3.out.rowR b h).1)
end Go.Proofs.YtahiahjhpakeiaaGreatDoor

/-
  What a table tells: Children, Groups; what several want, as one: Join.
-/
namespace Go.Proofs.YtahiahjhpakeiaaGreatDoor
open Go.RowKit Go.Maps Go.Sort Go.WideShapes Go.ChangeShapes Go.Deep
set_option linter.unusedVariables false
set_option linter.unusedSimpArgs false
attribute [local go_sem] later_cell later_frozen later_lt cell_set_off cell_set_block keptT_cell keptT_lt

/-- Some entries in new memory. -/
def NewEnts (w : World) (l : List Ent) (e : Ending) (w' : World) : Prop := ∃ v, e = .returned v ∧ EntsIn (fun b => w.heap.size ≤ b) l w' v ∧ Below w.heap.size w w'
/-- A slice of one's own of entries, under way. -/
def OwnEnts (B : Nat) (l : List Ent) (w : World) (v : Value) : Prop := ∃ rs, entsOf rs = l ∧ w.ownsRow B 79 5 v rs.length (flat rs) ∧ ∀ r ∈ rs, SlT (fun b => B ≤ b ∧ v.ownBlock ≠ some b) r.e.fs w r.v
theorem OwnEnts.ents {B : Nat} {l : List Ent} {w : World} {v : Value} (h : OwnEnts B l w v) : EntsIn (fun b => B ≤ b) l w v := by
  obtain ⟨rs, rfl, h1, h2⟩ := h
  exact own_rows h1 (fun q hq => (h1.lt q hq).1) fun r hr => (h2 r hr).imp (fun _ _ h => h.1) (Nat.le_refl _) fun _ _ _ => rfl
theorem OwnEnts.slice {B : Nat} {l : List Ent} {w : World} {v : Value} (h : OwnEnts B l w v) : ∃ a cap, v = .slice a l.length cap := by
  obtain ⟨a, cap, e, _⟩ := h.ents.slice; exact ⟨a, cap, e⟩
theorem ownEnts_nil (B : Nat) (w : World) : OwnEnts B [] w (.slice none 0 0) := ⟨[], rfl, ⟨rfl, Or.inl ⟨rfl, rfl⟩⟩, by simp⟩
theorem OwnEnts.below {B : Nat} {l : List Ent} {w w' : World} {v : Value} (h : OwnEnts B l w v) (hb : Below w.heap.size w w') : OwnEnts B l w' v := by
  obtain ⟨rs, rfl, h1, h2⟩ := h
  exact ⟨rs, rfl, ownsRow_same h1 fun q hq => hb.block q (h1.lt q hq).2, fun r hr => (h2 r hr).below hb⟩
/-- One more entry, its filters in new memory. -/
theorem OwnEnts.snoc {B : Nat} {l : List Ent} {w w' : World} {v v' : Value} {x : Ent} {fv : Value} {rs : List Row} (h0 : entsOf rs = l) (h2 : ∀ r ∈ rs, SlT (fun b => B ≤ b ∧ v.ownBlock ≠ some b) r.e.fs w r.v)
    (hf : SlT (fun b => B ≤ b ∧ v.ownBlock ≠ some b) x.fs w fv) (hrow : w'.ownsRow B 79 5 v' (rs.length + 1) (flat rs ++ (Row.mk x fv).cells)) (hg : w.grownBy w' v.ownBlock) (hv : v'.ownBlock = v.ownBlock ∨ v'.ownBlock = some w.heap.size) : OwnEnts B (l ++ [x]) w' v' := by
  subst h0
  have hne : ∀ b, b < w.heap.size → v.ownBlock ≠ some b → v'.ownBlock ≠ some b := fun b hb h1 h2 => by
    rcases hv with h | h
    · rw [h] at h2; exact h1 h2
    · rw [h] at h2; cases h2; omega
  have hall : ∀ r ∈ rs ++ [Row.mk x fv], SlT (fun b => B ≤ b ∧ v.ownBlock ≠ some b) r.e.fs w r.v := fun r hr => by
    rcases List.mem_append.1 hr with h | h
    · exact h2 r h
    · simp at h; subst h; exact hf
  refine ⟨rs ++ [⟨x, fv⟩], by simp [entsOf], ?_, fun r hr => (hall r hr).imp (fun b hb hq => ⟨hq.1, hne b hb hq.2⟩) hg.size fun b hb hq => hg.block b hb fun e => hq.2 e.symm⟩
  rw [List.length_append]
  have e : flat (rs ++ [⟨x, fv⟩]) = flat rs ++ (Row.mk x fv).cells := by unfold flat; simp
  rw [e]; exact hrow
theorem rowAt_box {w : World} {b : Nat} {r : Row} (h : Box5 w b (sV r.e.g) (.int .i64 r.e.c) r.v (.bool r.e.any) (.int .i64 r.e.t)) : RowAt w b 0 r := ⟨h.c0, h.c1, h.c2, h.c3, h.c4⟩
/-- 'append(s, x)', s of the call's own, x an entry. -/
theorem wpList_app_ent {w : World} {ops : Array Oper} {rest : List Oper} {o : Oper} {a : Act} {Q : Exit → Act → World → Prop} (hgd : o.guard = none) (s x : Operand)
    (ho : o.op = .call { callee := .builtin .append, args := #[s, x], argTypes := #[94, 94] }) (B : Nat) (l : List Ent) (v : Value) (hs : a.eval s = v) (hown : OwnEnts B l w v)
    (b : Nat) (e : Ent) (fv : Value) (hx : a.eval x = .slice (some ⟨b, 0, none⟩) 1 1) (hrow : RowAt w b 0 ⟨e, fv⟩) (hf : SlT (fun b => B ≤ b ∧ v.ownBlock ≠ some b) e.fs w fv) (hl : l.length ≤ 1000000) (hB : B ≤ w.heap.size)
    (h : ∀ v' w', Hid (OwnEnts B (l ++ [e]) w' v') → Hid (w.grownBy w' v.ownBlock) → wpList Tryz.prog ops Q rest (a.put o.dst v') w') : wpList Tryz.prog ops Q (o :: rest) a w := by
  obtain ⟨i0, hi0, hz0, hz1, hz2⟩ := insW_info
  obtain ⟨rs, h0, h1, h2⟩ := hown
  have hrl : rs.length = l.length := by rw [← h0, entsOf_len]
  have hone : fv.oneCell' = true := hf.one
  have hlen := Row.len ⟨e, fv⟩
  refine wpList_app_wide (P := Tryz.prog) hgd s x 94 ho B 79 i0 zW 5 64 Tryz.underlying94 hi0 hz0 hz1 hz2 rfl (by decide) v rs.length (flat rs) hs h1 b 0 1 1 (fun j => (Row.cells ⟨e, fv⟩).getD j undef) hx (by decide) ?_ ?_ (by simp only [maxLen]; omega) (by omega) hB (Row.cells ⟨e, fv⟩) ?_ ?_
  · intro j hj
    have : j = 0 ∨ j = 1 ∨ j = 2 ∨ j = 3 ∨ j = 4 := by omega
    rcases this with rfl | rfl | rfl | rfl | rfl
    · exact hrow.c0
    · exact hrow.c1
    · exact hrow.c2
    · exact hrow.c3
    · exact hrow.c4
  · intro j hj
    refine Row.one (r := ⟨e, fv⟩) hone _ ?_
    have hj' : j < (Row.cells ⟨e, fv⟩).length := by omega
    show (Row.cells ⟨e, fv⟩).getD j undef ∈ _
    rw [List.getD_eq_getElem?_getD, List.getElem?_eq_getElem hj']
    exact List.getElem_mem hj'
  · rfl
  · intro v' w' q1 q2 q3
    exact h v' w' (OwnEnts.snoc h0 h2 hf q1 q2 q3) q2
def kidsK (l : List Ent) (g : Str) (k : Nat) : List Ent := kidsE (l.take k) g
theorem kidsK_succ (l : List Ent) (g : Str) {k : Nat} (hk : k < l.length) : kidsK l g (k + 1) = if (entAt l k).g = g then kidsK l g k ++ [cleanE (entAt l k)] else kidsK l g k := by
  unfold kidsK kidsE
  rw [List.take_succ_eq_append_getElem hk, List.filter_append, List.map_append, entAt_eq hk]
  by_cases h : l[k].g = g
  · rw [if_pos h]; simp [h]
  · rw [if_neg h]; simp [h]
theorem kidsK_len (l : List Ent) (g : Str) (k : Nat) : (kidsK l g k).length ≤ l.length := by
  have h1 := List.length_filter_le (fun e => decide (e.g = g)) (l.take k)
  have h2 : (l.take k).length ≤ l.length := by simp; omega
  unfold kidsK kidsE
  rw [List.length_map]; omega
theorem kidsK_all (l : List Ent) (g : Str) : kidsK l g l.length = kidsE l g := by unfold kidsK; rw [List.take_length]
theorem few_fs {x : Ent} (h : cleanE x = x) : x.fs.length ≤ 16 := by
  rw [← h]
  unfold cleanE
  split
  · simp
  · rename_i h; simp only [not_or, Nat.not_lt] at h; exact h.2
set_option maxRecDepth 100000 in
set_option maxHeartbeats 8000000 in
/-- Children: the entries of a group. -/
theorem kids_at {R : Nat → Prop} {w : World} {tb : Nat} {l : List Ent} (h : TabAt 79 R w tb l) (g : Str) : Calls Tryz.prog 83 #[.pointer (some ⟨tb, 0, none⟩), .string (bs g)] w (NewEnts w (kidsE l g)) := by
  obtain ⟨i0, hi0, hz0, hz1, hz2⟩ := insW_info
  have hcl := h.clean
  have hfew := h.few
  obtain ⟨v, rs, rfl, hT⟩ := h
  have HE := Lib.hid hT.rows
  have HFS : Hid (∀ k, k < (entsOf rs).length → (entAt (entsOf rs) k).fs.length ≤ 16) := fun k hk => few_fs (hcl _ (by rw [entAt_eq hk]; exact List.getElem_mem hk))
  have tc := hT.cell
  have tz := hT.tbz
  obtain ⟨l, hl⟩ : ∃ z, z = entsOf rs := ⟨_, rfl⟩
  rw [← hl] at HE HFS hfew ⊢
  clear hT hl hcl
  obtain ⟨a, cp, rfl, _⟩ := HE.out.slice
  have HP : Hid (∀ v w', EntsIn (fun b => w.heap.size ≤ b) (kidsE l g) w' v → Below w.heap.size w w' → NewEnts w (kidsE l g) (.returned v) w') := fun v w' h1 h2 => ⟨v, rfl, h1, h2⟩
  go_enter Tryz.func83, Tryz.ntmps83
  go_wp2_with fail
  go_loopw [5, 13] (fun vo i wr => ∃ k : Nat, k ≤ l.length ∧ i = .int .i64 k ∧ Hid (OwnEnts w.heap.size (kidsK l g k) wr vo) ∧ Hid (Below w.heap.size w wr)) (fun _ i _ => l.length - (intOf i).toNat)
  case atStart => exact ⟨0, Nat.zero_le _, rfl, ownEnts_nil _ _, Below.refl _ _⟩
  case round =>
    obtain ⟨k, hk, rfl, hO, hB⟩ := hrel
    by_cases hlt : k < l.length
    · obtain ⟨b, off, fa, fc, rfl, _, hbz, d0, d1, d2, d3, d4, dS⟩ := (HE.out.below hB.out).at k hlt
      have hsu := kidsK_succ l g hlt
      have hfs := HFS.out k hlt
      have hkl := kidsK_len l g k
      obtain ⟨E, hEe⟩ : ∃ z, z = entAt l k := ⟨_, rfl⟩
      rw [← hEe] at d0 d1 d2 d3 d4 dS hsu hfs
      obtain ⟨eg, ec, efs, ea, et⟩ := E
      dsimp only at d0 d1 d2 d3 d4 dS hsu hfs
      have DS := Lib.hid dS.slAt
      have HSU := Lib.hid hsu
      clear hEe dS hsu
      by_cases hg : eg = g
      · have hgb : ((bs eg).toList == (bs g).toList) = true := by rw [hg]; simp
        have HSU2 : Hid (kidsK l g (k + 1) = kidsK l g k ++ [cleanE ⟨eg, ec, efs, ea, et⟩]) := show _ = _ by rw [HSU.out, if_pos hg]
        obtain ⟨L, hL⟩ : ∃ z, z = kidsK l g k := ⟨_, rfl⟩
        rw [← hL] at HSU2 hkl hO
        clear hg HSU hL
        go_wp2_with fail
        obtain ⟨w1, hw1⟩ : ∃ z, z = wr.alloc (.cells #[.string (bs eg), .int .i64 ec, .slice fa efs.length fc, .bool ea, .int .i64 et] 79) := ⟨_, rfl⟩
        have B1 : Hid (Below wr.heap.size wr w1) := by rw [hw1]; exact bel_alloc (Below.refl _ _) _
        rw [← hw1]
        clear hw1 d0 d1 d2 d3 d4 hgb
        refine (clean_any w1 ⟨eg, ec, efs, ea, et⟩ (.slice fa efs.length fc) (DS.out.below B1.out) (show efs.length ≤ _ by omega)).mono ?_
        rintro e w2 ⟨v9, rfl, hs9, hb9⟩
        have B2 := Lib.hid (bel_below B1.out hb9)
        have S9 := Lib.hid hs9
        clear hs9 hb9
        obtain ⟨x9, hx9⟩ : ∃ z, z = cleanE ⟨eg, ec, efs, ea, et⟩ := ⟨_, rfl⟩
        rw [← hx9] at S9 HSU2 ⊢
        clear hx9
        obtain ⟨f9, q9, rfl, _⟩ := S9.out.slice
        obtain ⟨g9, c9, fs9, any9, t9⟩ := x9
        unfold EntV
        dsimp only at S9 ⊢
        rw [show sV g9 = .string (bs g9) from rfl]
        have O2 := Lib.hid (hO.out.below B2.out)
        obtain ⟨ao, co, rfl⟩ := hO.out.slice
        have hno : Hid (∀ b, w1.heap.size ≤ b → Value.ownBlock (.slice ao L.length co) ≠ some b) := fun b hb h => by
          obtain ⟨rs', _, h1, _⟩ := hO.out
          have h2 := (h1.lt b h).2
          have h3 := B1.out.size
          omega
        have hbz2 := hB.out.size
        have hbz3 := B1.out.size
        have hbz4 := B2.out.size
        go_wp2_with (at_builtin; refine wpList_app_ent rfl _ _ rfl w.heap.size L _ rfl (O2.out.below (bel_alloc (Below.refl _ _) _)) w2.heap.size ⟨g9, c9, fs9, any9, t9⟩ (.slice f9 fs9.length q9) rfl ?rw ?rf (by omega) (by simp; omega) ?_)
        case rw => exact rowAt_box (box5_new w2 _ _ _ _ _ _)
        case rf => exact (SlT.of_slAt S9.out (Q := fun b => w.heap.size ≤ b ∧ Value.ownBlock (.slice ao L.length co) ≠ some b) (fun b hb _ => ⟨by omega, hno.out b hb⟩)).below (bel_alloc (Below.refl _ _) _)
        intro va wa HOA HGA
        have BA : Hid (Below w.heap.size w wa) := (bel_alloc (bel_below hB.out B2.out) _).grown HGA.out (by simp; omega) (fun q hq => by
          obtain ⟨rs', _, h1, _⟩ := O2.out
          exact (h1.lt q hq).1)
        go_wp2_with fail
        go_roundw
        case rel => go_light; exact ⟨k + 1, by omega, by go_num, (by show OwnEnts _ _ _ _; rw [HSU2.out]; exact HOA.out), BA⟩
        case measure => go_light; simp [intOf]; omega
      · have hgb : ((bs eg).toList == (bs g).toList) = false := by rw [bs_toList, bs_toList]; simpa using hg
        have HSU2 : Hid (kidsK l g (k + 1) = kidsK l g k) := show _ = _ by rw [HSU.out, if_neg hg]
        clear hg HSU
        go_wp2_with fail
        go_roundw
        case rel => go_light; exact ⟨k + 1, by omega, by go_num, (by show OwnEnts _ _ _ _; rw [HSU2.out]; exact hO.out.below (bel_alloc (Below.refl _ _) _)), bel_alloc hB.out _⟩
        case measure => go_light; simp [intOf]; omega
    · obtain rfl : k = l.length := by omega
      obtain ⟨a9, c9, rfl⟩ := hO.out.slice
      go_wp2_with fail
      go_ret
      refine HP.out _ _ ?_ hB.out
      rw [← kidsK_all]
      exact hO.out.ents
theorem own_shape {w : World} {base e n k : Nat} {v : Value} {xs : List Value} (h : w.ownsRow base e k v n xs) : ∃ a c, v = .slice a n c := by
  rcases h.2 with ⟨rfl, rfl⟩ | ⟨g', cap', cur, rfl, _⟩
  · exact ⟨_, _, rfl⟩
  · exact ⟨_, _, rfl⟩
/-- Some texts in new memory. -/
def NewTexts (w : World) (l : List Str) (e : Ending) (w' : World) : Prop := ∃ v, e = .returned v ∧ SlS w.heap.size l w' v ∧ Below w.heap.size w w'
theorem slS_one (w : World) (s : Str) (t : TypeId) (g : Nat) (hg : g = w.heap.size) : SlAt 0 (fun _ => sV s) 1 (w.alloc (.cells #[sV s] t)) (.slice (some ⟨g, 0, none⟩) 1 1) := by
  subst hg
  refine ⟨_, 1, rfl, Nat.le_refl _, by simp [maxLen], (fun h => by cases h), Or.inr ⟨w.heap.size, 0, rfl, Nat.zero_le _, by simp, fun i hi => ?_⟩⟩
  obtain rfl : i = 0 := by omega
  simp [go_sem]
set_option maxRecDepth 100000 in
set_option maxHeartbeats 8000000 in
/-- Groups: those that have entries. -/
theorem groups_at {R : Nat → Prop} {w : World} {tb : Nat} {l : List Ent} (h : TabAt 79 R w tb l) : Calls Tryz.prog 85 #[.pointer (some ⟨tb, 0, none⟩)] w (NewTexts w (groupsE l)) := by
  obtain ⟨i0, hi, hz0, hz1, hz2⟩ : ∃ i0, Tryz.prog.info? 9 = some i0 ∧ i0.zero = some (Value.string ByteArray.empty) ∧ i0.size = 1 ∧ i0.bytes = 16 := ⟨strI, strI_at, by kernel_rfl, by kernel_rfl, by kernel_rfl⟩
  have hfew := h.few
  obtain ⟨v, rs, rfl, hT⟩ := h
  have HE := Lib.hid hT.rows
  have tc := hT.cell
  have tz := hT.tbz
  obtain ⟨l, hl⟩ : ∃ z, z = entsOf rs := ⟨_, rfl⟩
  rw [← hl] at HE hfew ⊢
  clear hT hl
  obtain ⟨a, cp, rfl, _⟩ := HE.out.slice
  have HP : Hid (∀ v w', SlS w.heap.size (groupsE l) w' v → Below w.heap.size w w' → NewTexts w (groupsE l) (.returned v) w') := fun v w' h1 h2 => ⟨v, rfl, h1, h2⟩
  go_enter Tryz.func85, Tryz.ntmps85
  go_wp2_with fail
  go_loopw [3, 11] (fun vo i wr => ∃ k : Nat, k ≤ l.length ∧ i = .int .i64 k ∧ Hid (wr.ownsRow w.heap.size 9 1 vo k (((l.take k).map (·.g)).map sV)) ∧ Hid (Below w.heap.size w wr)) (fun _ i _ => l.length - (intOf i).toNat)
  case atStart => exact ⟨0, Nat.zero_le _, rfl, ⟨rfl, Or.inl ⟨rfl, rfl⟩⟩, Below.refl _ _⟩
  case round =>
    obtain ⟨k, hk, rfl, hO, hB⟩ := hrel
    by_cases hlt : k < l.length
    · obtain ⟨b, off, fa, fc, rfl, _, hbz, d0, d1, d2, d3, d4, dS⟩ := (HE.out.below hB.out).at k hlt
      have hsu : Hid (((l.take (k + 1)).map (·.g)).map sV = ((l.take k).map (·.g)).map sV ++ [sV (entAt l k).g]) := show _ = _ by
        rw [List.take_succ_eq_append_getElem hlt, List.map_append, List.map_append, entAt_eq hlt]; rfl
      obtain ⟨E, hEe⟩ : ∃ z, z = entAt l k := ⟨_, rfl⟩
      rw [← hEe] at d0 d1 d2 d3 d4 hsu
      obtain ⟨eg, ec, efs, ea, et⟩ := E
      dsimp only at d0 d1 d2 d3 d4 hsu
      clear hEe dS
      have hbz2 := hB.out.size
      obtain ⟨L, hL⟩ : ∃ z, z = ((l.take k).map (·.g)).map sV := ⟨_, rfl⟩
      rw [← hL] at hsu hO
      clear hL
      obtain ⟨ao, co, rfl⟩ := own_shape hO.out
      go_wp2_with (at_builtin; go_loud (refine wpList_app rfl _ _ 24 rfl w.heap.size 9 i0 (.string ByteArray.empty) 16 Tryz.underlying24 hi hz0 hz1 hz2 rfl _ k L rfl ?c0 0 (fun _ => sV eg) 1 _ rfl (slS_one _ eg 9 _ ?c4) (fun _ => rfl) ?c1 ?c2 ?c3 ?_))
      case c0 => exact ownsRow_same hO.out fun q hq => (bel_alloc (bel_alloc (Below.refl _ wr) _) _).block q (hO.out.lt q hq).2
      case c1 => simp only [maxLen]; omega
      case c2 => omega
      case c3 => simp; omega
      case c4 => simp
      intro va wa ho hg
      have HO : Hid (wa.ownsRow w.heap.size 9 1 va (k + 1) (((l.take (k + 1)).map (·.g)).map sV)) := show World.ownsRow _ _ _ _ _ _ _ by rw [hsu.out]; exact ho
      have BA : Hid (Below w.heap.size w wa) := (bel_alloc (bel_alloc hB.out _) _).grown hg (by simp; omega) (fun q hq => (hO.out.lt q hq).1)
      clear ho hg
      go_wp2_with fail
      go_roundw
      case rel => go_light; exact ⟨k + 1, by omega, by go_num, HO, BA⟩
      case measure => go_light; simp [intOf]; omega
    · obtain rfl : k = l.length := by omega
      have hrow := hO.out
      rw [List.take_length] at hrow
      have ow := Lib.hid (OwnS.of_row (l := l.map (·.g)) (by rw [List.length_map]; exact hrow))
      clear hrow
      obtain ⟨a9, c9, rfl⟩ := own_shape hO.out
      go_wp2_with fail
      refine (compactS_any wr _ (l.map (·.g)) w.heap.size ow.out (by rw [List.length_map]; omega)).mono ?_
      rintro e w5 ⟨v5, rfl, hs5, hb5⟩
      obtain ⟨a5, c5, rfl, _⟩ := hs5.slice
      have S5 := Lib.hid hs5
      have B5 := Lib.hid (hB.out.trans hb5)
      clear hs5 hb5
      go_wp2_with fail
      go_ret
      exact HP.out _ _ S5.out B5.out
theorem Box5.same {w w' : World} {b : Nat} {v0 v1 v2 v3 v4 : Value} (h : Box5 w b v0 v1 v2 v3 v4) (hs : w.heap.size ≤ w'.heap.size) (hb : w'.heap[b]? = w.heap[b]?) : Box5 w' b v0 v1 v2 v3 v4 :=
  ⟨(World.cell?_of_block hb).trans h.c0, (World.cell?_of_block hb).trans h.c1, (World.cell?_of_block hb).trans h.c2, (World.cell?_of_block hb).trans h.c3, (World.cell?_of_block hb).trans h.c4,
   (World.frozen?_of_block hb).trans h.f0, (World.frozen?_of_block hb).trans h.f1, (World.frozen?_of_block hb).trans h.f2, (World.frozen?_of_block hb).trans h.f3, (World.frozen?_of_block hb).trans h.f4, Nat.lt_of_lt_of_le h.z hs⟩
theorem Box5.set2 {w : World} {b : Nat} {v0 v1 v2 v3 v4 : Value} (h : Box5 w b v0 v1 v2 v3 v4) (v : Value) : Box5 (w.setCell ⟨b, 2, none⟩ v) b v0 v1 v v3 v4 := by
  have f : ∀ o, (w.setCell ⟨b, 2, none⟩ v).frozen? ⟨b, o, none⟩ = w.frozen? ⟨b, o, none⟩ := fun o => World.frozen?_setCell _ _ _ _
  exact ⟨by rw [cell_set_off _ _ _ _ _ (by decide)]; exact h.c0, by rw [cell_set_off _ _ _ _ _ (by decide)]; exact h.c1, World.cell?_setCell_same _ _ _ h.c2, by rw [cell_set_off _ _ _ _ _ (by decide)]; exact h.c3, by rw [cell_set_off _ _ _ _ _ (by decide)]; exact h.c4,
    (f 0).trans h.f0, (f 1).trans h.f1, (f 2).trans h.f2, (f 3).trans h.f3, (f 4).trans h.f4, by rw [size_set]; exact h.z⟩
/-- Put, where there is room. -/
theorem put_ok {R : Nat → Prop} {w : World} {tb : Nat} {l : List Ent} (h : TabAt 79 R w tb l) (x : Ent) (fv : Value) (hf : SlS 0 x.fs w fv) (hl : x.fs.length ≤ 1000000) (hn : fullB l x = false) :
    Calls Tryz.prog 81 #[.pointer (some ⟨tb, 0, none⟩), EntV x fv] w fun e w' => e = .returned .nilIface ∧ (∃ R', (∀ b, R' b → R b ∨ w.heap.size ≤ b) ∧ TabAt 79 R' w' tb (putE l (cleanE x))) ∧ Kept R w w' :=
  (put_at h x fv hf hl).mono fun e w' hp => by
    obtain ⟨h1, h2⟩ := hp
    rw [if_neg (by rw [hn]; simp)] at h1
    exact ⟨h1.1, h1.2, h2⟩
end Go.Proofs.YtahiahjhpakeiaaGreatDoor
end
section
namespace Go.Proofs.YtahiahjhpakeiaaGreatDoor
open Go.RowKit Go.Maps Go.Sort Go.WideShapes Go.ChangeShapes Go.Deep
set_option linter.unusedVariables false
set_option linter.unusedSimpArgs false
attribute [local go_sem] later_cell later_frozen later_lt cell_set_off cell_set_block keptT_cell keptT_lt

def cutT (s : Str) : Str := s.take 30
theorem cutT_len (s : Str) : (cutT s).length ≤ 30 := by unfold cutT; rw [List.length_take]; omega
theorem bs_extract (s : Str) : (bs s).extract 0 30 = bs (cutT s) := by
  apply ByteArray.ext
  rw [ByteArray.data_extract]
  apply Array.toList_inj.1
  simp [bs, cutT]
theorem cut1_any (s : Str) (w : World) : Calls Tryz.prog 79 #[.string (bs s), .int .i64 30] w fun e w' => e = .returned (.string (bs (cutT s))) ∧ w = w' := by
  have hsz := bs_size s
  by_cases h : 30 < s.length
  · have hI : (30 : Int) < (((bs s).size : Nat) : Int) := by omega
    have hx := bs_extract s
    go_enter Tryz.func79, Tryz.ntmps79
    go_wp2
    go_ret
    exact ⟨by rw [← hx]; first | done | rfl, rfl⟩
  · have hI : ¬ (30 : Int) < (((bs s).size : Nat) : Int) := by omega
    have hx : Hid (cutT s = s) := show _ = _ by unfold cutT; exact List.take_of_length_le (by omega)
    go_enter Tryz.func79, Tryz.ntmps79
    go_wp2
    go_ret
    exact ⟨by rw [hx.out]; first | done | rfl, rfl⟩
/-- An entry of at most 20 filters of at most 30 bytes. -/
def cutE (x : Ent) : Ent := ⟨cutT x.g, x.c, (x.fs.take 20).map cutT, x.any, x.t⟩
def cutK (fs : List Str) (k : Nat) : List Str := (fs.take k).map cutT
theorem cutK_succ (fs : List Str) {k : Nat} (hk : k < fs.length) : cutK fs (k + 1) = cutK fs k ++ [cutT (nthT fs k)] := by
  unfold cutK
  rw [List.take_succ_eq_append_getElem hk, List.map_append, nthT_eq hk]; rfl
theorem cutK_len (fs : List Str) {k : Nat} (hk : k ≤ fs.length) : (cutK fs k).length = k := by unfold cutK; simp; omega
set_option maxRecDepth 100000 in
set_option maxHeartbeats 8000000 in
theorem cut_any (w : World) (x : Ent) (v : Value) (h : SlS 0 x.fs w v) :
    Calls Tryz.prog 25 #[EntV x v] w fun e w' => ∃ v', e = .returned (EntV (cutE x) v') ∧ SlS w.heap.size (cutE x).fs w' v' ∧ Below w.heap.size w w' := by
  obtain ⟨i0, hi, hz0, hz1, hz2⟩ : ∃ i0, Tryz.prog.info? 9 = some i0 ∧ i0.zero = some (Value.string ByteArray.empty) ∧ i0.size = 1 ∧ i0.bytes = 16 := ⟨strI, strI_at, by kernel_rfl, by kernel_rfl, by kernel_rfl⟩
  obtain ⟨g, c, fs, any, t⟩ := x
  dsimp only at h
  unfold EntV
  dsimp only
  rw [show sV g = .string (bs g) from rfl]
  obtain ⟨fa, fc, rfl, _⟩ := h.slice
  have S0 := Lib.hid h
  have HP : Hid (∀ (k : Nat) (v' : Value) (w' : World), cutK fs k = (fs.take 20).map cutT → SlS w.heap.size (cutK fs k) w' v' → Below w.heap.size w w' →
      ∃ v'', Ending.returned (.agg #[.string (bs (cutT g)), .int .i64 c, v', .bool any, .int .i64 t]) = .returned (.agg #[sV (cutE ⟨g, c, fs, any, t⟩).g, .int .i64 (cutE ⟨g, c, fs, any, t⟩).c, v'', .bool (cutE ⟨g, c, fs, any, t⟩).any, .int .i64 (cutE ⟨g, c, fs, any, t⟩).t]) ∧ SlS w.heap.size (cutE ⟨g, c, fs, any, t⟩).fs w' v'' ∧ Below w.heap.size w w') := fun k v' w' h1 h2 h3 => ⟨v', rfl, by rw [h1] at h2; exact h2, h3⟩
  clear h
  go_enter Tryz.func25, Tryz.ntmps25
  go_upto_region 1 with (fail)
  obtain ⟨w1, hw1⟩ : ∃ z, z = (w.alloc (.cells #[.string (bs g), .int .i64 c, .slice fa fs.length fc, .bool any, .int .i64 t] 79)).alloc (.cells #[.string { data := #[] }, .int .i64 0, .slice none 0 0, .bool false, .int .i64 0] 79) := ⟨_, rfl⟩
  obtain ⟨X, hX⟩ : ∃ z, z = w.heap.size := ⟨_, rfl⟩
  have b01 : Below w.heap.size w w1 := by rw [hw1]; exact bel_alloc (bel_alloc (Below.refl _ _) _) _
  have XS : Hid (Box5 w1 X (.string (bs g)) (.int .i64 c) (.slice fa fs.length fc) (.bool any) (.int .i64 t)) := by
    rw [hw1, hX]; exact (box5_new w _ _ _ _ _ _).below (bel_alloc (Below.refl _ _) _)
  have YS : Hid (Box5 w1 (X + 1) (.string { data := #[] }) (.int .i64 0) (.slice none 0 0) (.bool false) (.int .i64 0)) := by
    rw [hw1, hX]; exact box5_at (box5_new (w.alloc _) _ _ _ _ _ _) (by simp)
  have hWX : Hid (w.heap.size ≤ X) := show _ ≤ _ by omega
  have hXz : Hid (w1.heap.size = X + 1 + 1) := show _ = _ by rw [hw1, hX]; simp
  have es : (w.alloc (.cells #[.string (bs g), .int .i64 c, .slice fa fs.length fc, .bool any, .int .i64 t] 79)).heap.size = w.heap.size + 1 := by simp
  rw [← hw1]
  try rw [es]
  try rw [← hX]
  clear hw1 hX es
  have B01 := Lib.hid b01
  clear b01
  obtain ⟨x0, x1, x2, x3, x4, -, -, -, -, -, xz⟩ := XS.out
  refine wp_region_heads [0, 1, 3, 4, 5, 6, 7, 8] 11 (fun w' => ∃ y : Later w1, w' = y.world) (by kernel_rfl) (by kernel_rfl) ⟨⟨{ w1 with drawn := w1.drawn + 1 }, (RowKit.Below.refl _ _).drew⟩, rfl⟩ ?_ ?_
  · intro d v c a w h
    cases d <;> exact h
  simp only [headOps]
  repeat (refine wpTame_step (fun K hK => ?_); go_simp; refine hK _ ?_; clear hK K)
  refine wpTame_nil ?_
  have hBd : RowKit.Below w1.heap.size w1 { w1 with drawn := w1.drawn + 1 } := (RowKit.Below.refl _ _).drew
  have BD := Lib.hid hBd
  clear hBd
  refine wpAnyC_step (f := 3) [2, 10] (by kernel_rfl) rfl rfl (fun i hi => ?_)
  simp only [List.mem_cons, List.not_mem_nil, or_false] at hi
  rcases hi with rfl | rfl
  · refine ⟨_, rfl, fun R hR => ?_⟩
    go_wp2_with fail
    refine (cut1_any g _).mono ?_
    rintro e wc ⟨rfl, rfl⟩
    go_wp2_with fail
    refine hR _ _ ⟨⟨_, BD.out⟩, rfl⟩ ?_
    clear hR R
    refine wpAnyC_step (f := 2) [9, 10] (by kernel_rfl) rfl rfl (fun i hi => ?_)
    simp only [List.mem_cons, List.not_mem_nil, or_false] at hi
    rcases hi with rfl | rfl
    · refine ⟨_, rfl, fun R hR => ?_⟩
      go_wp2_with fail
      refine hR _ _ ⟨⟨_, BD.out⟩, rfl⟩ ?_
      clear hR R
      refine wpAnyC_step (f := 1) [10] (by kernel_rfl) rfl rfl (fun i hi => ?_)
      simp only [List.mem_cons, List.not_mem_nil, or_false] at hi
      subst hi
      refine ⟨_, rfl, fun R hR => ?_⟩
      go_wp2_with fail
      refine hR _ _ ⟨⟨_, bel_alloc BD.out _⟩, rfl⟩ ?_
      clear hR R
      refine wpAnyC_end (k := 11) (by decide) rfl rfl (by kernel_rfl) ?_
      go_wp2_with fail
      obtain ⟨w3, hw3⟩ : ∃ z, z = (w1.alloc (.cells #[.string (bs (cutT g)), .int .i64 c, .slice none 0 0, .bool any, .int .i64 t] 79)).drew := ⟨_, rfl⟩
      obtain ⟨Z, hZ⟩ : ∃ z, z = w1.heap.size := ⟨_, rfl⟩
      have B3 : Hid (Below w1.heap.size w1 w3) := by rw [hw3]; exact (bel_alloc (Below.refl _ _) _).drew
      have ZS : Hid (Box5 w3 Z (.string (bs (cutT g))) (.int .i64 c) (.slice none 0 0) (.bool any) (.int .i64 t)) := by
        rw [hw3, hZ]
        have h := box5_new w1 (.string (bs (cutT g))) (.int .i64 c) (.slice none 0 0) (.bool any) (.int .i64 t) 79
        exact ⟨h.c0, h.c1, h.c2, h.c3, h.c4, h.f0, h.f1, h.f2, h.f3, h.f4, h.z⟩
      have hZX : Hid (Z = X + 1 + 1) := show _ = _ by rw [hZ, hXz.out]
      have hZw : Hid (w1.heap.size ≤ Z) := show _ ≤ _ by omega
      rw [← hw3]
      try rw [← hZ]
      clear hw3 hZ x0 x1 x2 x3 x4 BD
      go_loopw [4] (fun i wr => ∃ (k : Nat) (vr : Value), k ≤ fs.length ∧ k ≤ 20 ∧ i = .int .i64 k ∧ Hid (Box5 wr Z (.string (bs (cutT g))) (.int .i64 c) vr (.bool any) (.int .i64 t)) ∧ Hid (wr.ownsRow (Z + 1) 9 1 vr k ((cutK fs k).map sV)) ∧ Hid (Below w1.heap.size w1 wr)) (fun i _ => fs.length - (intOf i).toNat)
      case atStart => exact ⟨0, _, Nat.zero_le _, Nat.zero_le _, rfl, ZS.out, ⟨rfl, Or.inl ⟨rfl, rfl⟩⟩, B3.out⟩
      case round =>
        obtain ⟨k, vr, hk, hk20, rfl, hZ5, hO, hB⟩ := hrel
        obtain ⟨x0, x1, x2, x3, x4, -, -, -, -, -, xz⟩ := XS.out.below hB.out
        by_cases hlt : k < fs.length
        · by_cases hl20 : k < 20
          · obtain ⟨b, off, rfl, _, hbz, d0⟩ := SlAt.at S0.out k hlt wr (bel_below B01.out hB.out)
            have hbw : b < w.heap.size := by
              obtain ⟨_, _, e, _, _, _, h3⟩ := S0.out
              cases e
              obtain ⟨b', off', e, _, h4, _⟩ := h3.resolve_left (by omega)
              cases e; exact h4
            have hsu := cutK_succ fs hlt
            obtain ⟨f, hf⟩ : ∃ z, z = nthT fs k := ⟨_, rfl⟩
            have d1 : wr.cell? ⟨b, off + k, none⟩ = some (.string (bs f)) := by rw [hf]; exact d0
            rw [← hf] at hsu
            have HSU := Lib.hid hsu
            clear d0 hf hsu
            obtain ⟨ao, co, rfl⟩ := own_shape hO.out
            obtain ⟨z0, z1, z2, z3, z4, f0, f1, f2, f3, f4, zz⟩ := hZ5.out
            obtain ⟨S, hS⟩ : ∃ S : Nat → Prop, S = fun b => Value.ownBlock (.slice ao k co) = some b := ⟨_, rfl⟩
            have HS := Lib.hid hS
            have hSl : Hid (∀ q, S q → Z + 1 ≤ q ∧ q < wr.heap.size) := fun q hq => hO.out.lt q (by rw [hS] at hq; exact hq)
            have hSZ : ¬ S Z := fun h => by have := (hSl.out Z h).1; omega
            have hSX : ¬ S X := fun h => by have := (hSl.out X h).1; have := hZX.out; omega
            have hSb : ¬ S b := fun h => by have := (hSl.out b h).1; have := hZX.out; have := hWX.out; omega
            clear hS
            obtain ⟨L, hL⟩ : ∃ z, z = (cutK fs k).map sV := ⟨_, rfl⟩
            have HLk := Lib.hid hL
            rw [← hL] at hO
            clear hL
            go_wp2_with fail
            refine wp_region_heads [0, 1, 2, 3, 4, 5, 6] 11 (fun w' => ∃ y : KeptT S wr, w' = y.world) (by kernel_rfl) (by kernel_rfl) ⟨⟨{ wr with drawn := wr.drawn + 1 }, (Kept.refl S wr).drew⟩, rfl⟩ ?_ ?_
            · intro d v c a w h
              cases d <;> exact h
            simp only [headOps]
            repeat (refine wpTame_step (fun K hK => ?_); go_simp; refine hK _ ?_; clear hK K)
            refine wpTame_nil ?_
            refine wpAnyC_step (f := 4) [7] (by kernel_rfl) rfl rfl (fun i hi => ?_)
            simp only [List.mem_cons, List.not_mem_nil, or_false] at hi
            subst hi
            refine ⟨_, rfl, fun R hR => ?_⟩
            go_wp2_with fail
            refine (cut1_any f _).mono ?_
            rintro e wc ⟨rfl, rfl⟩
            go_wp2_with fail
            refine hR _ _ ⟨⟨_, (Kept.refl S wr).drew⟩, rfl⟩ ?_
            clear hR R
            refine wpAnyC_step (f := 3) [8] (by kernel_rfl) rfl rfl (fun i hi => ?_)
            simp only [List.mem_cons, List.not_mem_nil, or_false] at hi
            subst hi
            refine ⟨_, rfl, fun R hR => ?_⟩
            go_wp2_with fail
            refine hR _ _ ⟨⟨_, (Kept.refl S wr).drew.alloc _⟩, rfl⟩ ?_
            clear hR R
            refine wpAnyC_step (f := 2) [9] (by kernel_rfl) rfl rfl (fun i hi => ?_)
            simp only [List.mem_cons, List.not_mem_nil, or_false] at hi
            subst hi
            refine ⟨_, rfl, fun R hR => ?_⟩
            simp only [List.getElem_toArray, List.getElem_cons_succ, List.getElem_cons_zero]
            go_wp2_with (at_builtin; go_loud (refine wpList_app rfl _ _ 24 rfl (Z + 1) 9 i0 (.string ByteArray.empty) 16 Tryz.underlying24 hi hz0 hz1 hz2 rfl _ k L rfl ?c0x1 0 (fun _ => sV (cutT f)) 1 _ rfl (slS_one _ (cutT f) 9 _ ?c4x1) (fun _ => rfl) ?c1x1 ?c2x1 ?c3x1 ?_))
            case c0x1 => exact ownsRow_same hO.out fun q hq => (bel_alloc (RowKit.Below.refl _ wr) _).block q (hO.out.lt q hq).2
            case c4x1 => rfl
            case c1x1 => simp only [maxLen]; omega
            case c2x1 => omega
            case c3x1 => have := hB.out.size; have := hZX.out; have := hXz.out; simp; omega
            intro va wa ho hg
            obtain ⟨av, cv, rfl⟩ := own_shape ho
            have KA : Hid (Kept S wr wa) := ((Kept.refl S wr).drew.alloc _).trans ⟨hg.os, hg.tape, hg.output, hg.size, fun b hb hn => hg.block b hb (fun e => hn (by rw [HS.out]; exact e.symm))⟩
            have HO : Hid (wa.ownsRow (Z + 1) 9 1 (.slice av (k + 1) cv) (k + 1) ((cutK fs (k + 1)).map sV)) := show World.ownsRow _ _ _ _ _ _ _ by
              rw [HSU.out, List.map_append, ← HLk.out]; exact ho
            have ZA := Lib.hid (hZ5.out.same KA.out.size (KA.out.block Z zz hSZ))
            have BA : Hid (Below w1.heap.size w1 wa) := hB.out.trans (KA.out.toBelow hB.out.size fun b hb hS => by have h1 := (hSl.out b hS).1; have := hXz.out; have := hZX.out; omega)
            clear ho hg x0 x1 x2 x3 x4 d1 z0 z1 z2 z3 z4 f0 f1 f2 f3 f4
            go_wp2_with fail
            refine hR _ _ ⟨⟨wa, KA.out⟩, rfl⟩ ?_
            clear hR R
            refine wpAnyC_mid (f := 1) [10] ⟨⟨wa, KA.out⟩, rfl⟩ (by kernel_rfl) (fun d v c a w h => by cases d <;> exact h) ?_
            simp only [headOps]
            repeat (refine wpTame_step (fun K hK => ?_); go_simp; refine hK _ ?_; clear hK K)
            refine wpTame_nil ?_
            refine wpAnyC_end (k := 11) (by decide) rfl rfl (by kernel_rfl) ?_
            obtain ⟨z0, z1, z2, z3, z4, f0, f1, f2, f3, f4, zz2⟩ := ZA.out
            have HO2 : Hid ((wa.setCell ⟨Z, 2, none⟩ (.slice av (k + 1) cv)).ownsRow (Z + 1) 9 1 (.slice av (k + 1) cv) (k + 1) ((cutK fs (k + 1)).map sV)) := ownsRow_same HO.out fun q hq => by
              have h1 := (HO.out.lt q hq).1
              exact Below.heap_setCell _ _ _ _ (by show q ≠ Z; omega)
            go_wp2_with fail
            go_roundw
            case rel => go_light; exact ⟨k + 1, _, by omega, by omega, by go_num, ZA.out.set2 _, HO2.out, BA.out.trans (((Below.refl _ wa).setCell (p := ⟨Z, 2, none⟩) (B := w1.heap.size) (by exact hZw.out) _))⟩
            case measure => go_light; simp [intOf]; omega
          · have hcut : Hid (cutK fs k = (fs.take 20).map cutT) := show _ = _ by rw [show k = 20 by omega]; rfl
            have hx5 := hZ5.out
            obtain ⟨z0, z1, z2, z3, z4, -, -, -, -, -, zz⟩ := hx5
            obtain ⟨y0, y1, y2, y3, y4, g0, g1, g2, g3, g4, yz⟩ := YS.out.below hB.out
            obtain ⟨ao, co, rfl⟩ := own_shape hO.out
            have SO : Hid (SlS (Z + 1) (cutK fs k) wr (.slice ao k co)) := by
              have h1 := OwnS.of_row (l := cutK fs k) (v := .slice ao k co) (by rw [cutK_len fs hk]; exact hO.out)
              exact h1.slAt
            have hY1 : Hid (X + 1 < Z + 1) := show _ < _ by have := hZX.out; omega
            have BW := Lib.hid (bel_below B01.out hB.out)
            have hWY : Hid (w.heap.size ≤ X + 1) := Nat.le_succ_of_le hWX.out
            have hWZ : Hid (w.heap.size ≤ Z + 1) := show _ ≤ _ by have := hZX.out; have := hWX.out; omega
            clear hO hZ5
            go_wp2_with fail
            refine bodyPost_ret (v := .agg #[.string (bs (cutT g)), .int .i64 c, .slice ao k co, .bool any, .int .i64 t]) ?_ rfl (HP.out k _ _ hcut.out ?_ ?_)
            · simp [results, Tryz.results25, go_sem, z0, z1, z2, z3, z4, y0, y1, y2, y3, y4]
            · exact (((((SlAt.set SO.out (p := ⟨X + 1, 0, none⟩) hY1.out _).set (p := ⟨X + 1, 1, none⟩) hY1.out _).set (p := ⟨X + 1, 2, none⟩) hY1.out _).set (p := ⟨X + 1, 3, none⟩) hY1.out _).set (p := ⟨X + 1, 4, none⟩) hY1.out _).base hWZ.out
            · exact bel_set (bel_set (bel_set (bel_set (bel_set BW.out hWY.out _) hWY.out _) hWY.out _) hWY.out _) hWY.out _
        · have hcut : Hid (cutK fs k = (fs.take 20).map cutT) := show _ = _ by
            have hke : k = fs.length := by omega
            unfold cutK; rw [hke, List.take_length, List.take_of_length_le (by omega)]
          have hx5 := hZ5.out
          obtain ⟨z0, z1, z2, z3, z4, -, -, -, -, -, zz⟩ := hx5
          obtain ⟨y0, y1, y2, y3, y4, g0, g1, g2, g3, g4, yz⟩ := YS.out.below hB.out
          obtain ⟨ao, co, rfl⟩ := own_shape hO.out
          have SO : Hid (SlS (Z + 1) (cutK fs k) wr (.slice ao k co)) := by
            have h1 := OwnS.of_row (l := cutK fs k) (v := .slice ao k co) (by rw [cutK_len fs hk]; exact hO.out)
            exact h1.slAt
          have hY1 : Hid (X + 1 < Z + 1) := show _ < _ by have := hZX.out; omega
          have BW := Lib.hid (bel_below B01.out hB.out)
          have hWY : Hid (w.heap.size ≤ X + 1) := Nat.le_succ_of_le hWX.out
          have hWZ : Hid (w.heap.size ≤ Z + 1) := show _ ≤ _ by have := hZX.out; have := hWX.out; omega
          clear hO hZ5
          go_wp2_with fail
          refine bodyPost_ret (v := .agg #[.string (bs (cutT g)), .int .i64 c, .slice ao k co, .bool any, .int .i64 t]) ?_ rfl (HP.out k _ _ hcut.out ?_ ?_)
          · simp [results, Tryz.results25, go_sem, z0, z1, z2, z3, z4, y0, y1, y2, y3, y4]
          · exact (((((SlAt.set SO.out (p := ⟨X + 1, 0, none⟩) hY1.out _).set (p := ⟨X + 1, 1, none⟩) hY1.out _).set (p := ⟨X + 1, 2, none⟩) hY1.out _).set (p := ⟨X + 1, 3, none⟩) hY1.out _).set (p := ⟨X + 1, 4, none⟩) hY1.out _).base hWZ.out
          · exact bel_set (bel_set (bel_set (bel_set (bel_set BW.out hWY.out _) hWY.out _) hWY.out _) hWY.out _) hWY.out _
    · refine ⟨_, rfl, fun R hR => ?_⟩
      go_wp2_with fail
      refine hR _ _ ⟨⟨_, bel_alloc BD.out _⟩, rfl⟩ ?_
      clear hR R
      refine wpAnyC_step (f := 1) [9] (by kernel_rfl) rfl rfl (fun i hi => ?_)
      simp only [List.mem_cons, List.not_mem_nil, or_false] at hi
      subst hi
      refine ⟨_, rfl, fun R hR => ?_⟩
      go_wp2_with fail
      refine hR _ _ ⟨⟨_, bel_alloc BD.out _⟩, rfl⟩ ?_
      clear hR R
      refine wpAnyC_end (k := 11) (by decide) rfl rfl (by kernel_rfl) ?_
      go_wp2_with fail
      obtain ⟨w3, hw3⟩ : ∃ z, z = (w1.alloc (.cells #[.string (bs (cutT g)), .int .i64 c, .slice none 0 0, .bool any, .int .i64 t] 79)).drew := ⟨_, rfl⟩
      obtain ⟨Z, hZ⟩ : ∃ z, z = w1.heap.size := ⟨_, rfl⟩
      have B3 : Hid (Below w1.heap.size w1 w3) := by rw [hw3]; exact (bel_alloc (Below.refl _ _) _).drew
      have ZS : Hid (Box5 w3 Z (.string (bs (cutT g))) (.int .i64 c) (.slice none 0 0) (.bool any) (.int .i64 t)) := by
        rw [hw3, hZ]
        have h := box5_new w1 (.string (bs (cutT g))) (.int .i64 c) (.slice none 0 0) (.bool any) (.int .i64 t) 79
        exact ⟨h.c0, h.c1, h.c2, h.c3, h.c4, h.f0, h.f1, h.f2, h.f3, h.f4, h.z⟩
      have hZX : Hid (Z = X + 1 + 1) := show _ = _ by rw [hZ, hXz.out]
      have hZw : Hid (w1.heap.size ≤ Z) := show _ ≤ _ by omega
      rw [← hw3]
      try rw [← hZ]
      clear hw3 hZ x0 x1 x2 x3 x4 BD
      go_loopw [4] (fun i wr => ∃ (k : Nat) (vr : Value), k ≤ fs.length ∧ k ≤ 20 ∧ i = .int .i64 k ∧ Hid (Box5 wr Z (.string (bs (cutT g))) (.int .i64 c) vr (.bool any) (.int .i64 t)) ∧ Hid (wr.ownsRow (Z + 1) 9 1 vr k ((cutK fs k).map sV)) ∧ Hid (Below w1.heap.size w1 wr)) (fun i _ => fs.length - (intOf i).toNat)
      case atStart => exact ⟨0, _, Nat.zero_le _, Nat.zero_le _, rfl, ZS.out, ⟨rfl, Or.inl ⟨rfl, rfl⟩⟩, B3.out⟩
      case round =>
        obtain ⟨k, vr, hk, hk20, rfl, hZ5, hO, hB⟩ := hrel
        obtain ⟨x0, x1, x2, x3, x4, -, -, -, -, -, xz⟩ := XS.out.below hB.out
        by_cases hlt : k < fs.length
        · by_cases hl20 : k < 20
          · obtain ⟨b, off, rfl, _, hbz, d0⟩ := SlAt.at S0.out k hlt wr (bel_below B01.out hB.out)
            have hbw : b < w.heap.size := by
              obtain ⟨_, _, e, _, _, _, h3⟩ := S0.out
              cases e
              obtain ⟨b', off', e, _, h4, _⟩ := h3.resolve_left (by omega)
              cases e; exact h4
            have hsu := cutK_succ fs hlt
            obtain ⟨f, hf⟩ : ∃ z, z = nthT fs k := ⟨_, rfl⟩
            have d1 : wr.cell? ⟨b, off + k, none⟩ = some (.string (bs f)) := by rw [hf]; exact d0
            rw [← hf] at hsu
            have HSU := Lib.hid hsu
            clear d0 hf hsu
            obtain ⟨ao, co, rfl⟩ := own_shape hO.out
            obtain ⟨z0, z1, z2, z3, z4, f0, f1, f2, f3, f4, zz⟩ := hZ5.out
            obtain ⟨S, hS⟩ : ∃ S : Nat → Prop, S = fun b => Value.ownBlock (.slice ao k co) = some b := ⟨_, rfl⟩
            have HS := Lib.hid hS
            have hSl : Hid (∀ q, S q → Z + 1 ≤ q ∧ q < wr.heap.size) := fun q hq => hO.out.lt q (by rw [hS] at hq; exact hq)
            have hSZ : ¬ S Z := fun h => by have := (hSl.out Z h).1; omega
            have hSX : ¬ S X := fun h => by have := (hSl.out X h).1; have := hZX.out; omega
            have hSb : ¬ S b := fun h => by have := (hSl.out b h).1; have := hZX.out; have := hWX.out; omega
            clear hS
            obtain ⟨L, hL⟩ : ∃ z, z = (cutK fs k).map sV := ⟨_, rfl⟩
            have HLk := Lib.hid hL
            rw [← hL] at hO
            clear hL
            go_wp2_with fail
            refine wp_region_heads [0, 1, 2, 3, 4, 5, 6] 11 (fun w' => ∃ y : KeptT S wr, w' = y.world) (by kernel_rfl) (by kernel_rfl) ⟨⟨{ wr with drawn := wr.drawn + 1 }, (Kept.refl S wr).drew⟩, rfl⟩ ?_ ?_
            · intro d v c a w h
              cases d <;> exact h
            simp only [headOps]
            repeat (refine wpTame_step (fun K hK => ?_); go_simp; refine hK _ ?_; clear hK K)
            refine wpTame_nil ?_
            refine wpAnyC_step (f := 4) [7] (by kernel_rfl) rfl rfl (fun i hi => ?_)
            simp only [List.mem_cons, List.not_mem_nil, or_false] at hi
            subst hi
            refine ⟨_, rfl, fun R hR => ?_⟩
            go_wp2_with fail
            refine (cut1_any f _).mono ?_
            rintro e wc ⟨rfl, rfl⟩
            go_wp2_with fail
            refine hR _ _ ⟨⟨_, (Kept.refl S wr).drew⟩, rfl⟩ ?_
            clear hR R
            refine wpAnyC_step (f := 3) [8] (by kernel_rfl) rfl rfl (fun i hi => ?_)
            simp only [List.mem_cons, List.not_mem_nil, or_false] at hi
            subst hi
            refine ⟨_, rfl, fun R hR => ?_⟩
            go_wp2_with fail
            refine hR _ _ ⟨⟨_, (Kept.refl S wr).drew.alloc _⟩, rfl⟩ ?_
            clear hR R
            refine wpAnyC_step (f := 2) [9] (by kernel_rfl) rfl rfl (fun i hi => ?_)
            simp only [List.mem_cons, List.not_mem_nil, or_false] at hi
            subst hi
            refine ⟨_, rfl, fun R hR => ?_⟩
            simp only [List.getElem_toArray, List.getElem_cons_succ, List.getElem_cons_zero]
            go_wp2_with (at_builtin; go_loud (refine wpList_app rfl _ _ 24 rfl (Z + 1) 9 i0 (.string ByteArray.empty) 16 Tryz.underlying24 hi hz0 hz1 hz2 rfl _ k L rfl ?c0x2 0 (fun _ => sV (cutT f)) 1 _ rfl (slS_one _ (cutT f) 9 _ ?c4x2) (fun _ => rfl) ?c1x2 ?c2x2 ?c3x2 ?_))
            case c0x2 => exact ownsRow_same hO.out fun q hq => (bel_alloc (RowKit.Below.refl _ wr) _).block q (hO.out.lt q hq).2
            case c4x2 => rfl
            case c1x2 => simp only [maxLen]; omega
            case c2x2 => omega
            case c3x2 => have := hB.out.size; have := hZX.out; have := hXz.out; simp; omega
            intro va wa ho hg
            obtain ⟨av, cv, rfl⟩ := own_shape ho
            have KA : Hid (Kept S wr wa) := ((Kept.refl S wr).drew.alloc _).trans ⟨hg.os, hg.tape, hg.output, hg.size, fun b hb hn => hg.block b hb (fun e => hn (by rw [HS.out]; exact e.symm))⟩
            have HO : Hid (wa.ownsRow (Z + 1) 9 1 (.slice av (k + 1) cv) (k + 1) ((cutK fs (k + 1)).map sV)) := show World.ownsRow _ _ _ _ _ _ _ by
              rw [HSU.out, List.map_append, ← HLk.out]; exact ho
            have ZA := Lib.hid (hZ5.out.same KA.out.size (KA.out.block Z zz hSZ))
            have BA : Hid (Below w1.heap.size w1 wa) := hB.out.trans (KA.out.toBelow hB.out.size fun b hb hS => by have h1 := (hSl.out b hS).1; have := hXz.out; have := hZX.out; omega)
            clear ho hg x0 x1 x2 x3 x4 d1 z0 z1 z2 z3 z4 f0 f1 f2 f3 f4
            go_wp2_with fail
            refine hR _ _ ⟨⟨wa, KA.out⟩, rfl⟩ ?_
            clear hR R
            refine wpAnyC_mid (f := 1) [10] ⟨⟨wa, KA.out⟩, rfl⟩ (by kernel_rfl) (fun d v c a w h => by cases d <;> exact h) ?_
            simp only [headOps]
            repeat (refine wpTame_step (fun K hK => ?_); go_simp; refine hK _ ?_; clear hK K)
            refine wpTame_nil ?_
            refine wpAnyC_end (k := 11) (by decide) rfl rfl (by kernel_rfl) ?_
            obtain ⟨z0, z1, z2, z3, z4, f0, f1, f2, f3, f4, zz2⟩ := ZA.out
            have HO2 : Hid ((wa.setCell ⟨Z, 2, none⟩ (.slice av (k + 1) cv)).ownsRow (Z + 1) 9 1 (.slice av (k + 1) cv) (k + 1) ((cutK fs (k + 1)).map sV)) := ownsRow_same HO.out fun q hq => by
              have h1 := (HO.out.lt q hq).1
              exact Below.heap_setCell _ _ _ _ (by show q ≠ Z; omega)
            go_wp2_with fail
            go_roundw
            case rel => go_light; exact ⟨k + 1, _, by omega, by omega, by go_num, ZA.out.set2 _, HO2.out, BA.out.trans (((Below.refl _ wa).setCell (p := ⟨Z, 2, none⟩) (B := w1.heap.size) (by exact hZw.out) _))⟩
            case measure => go_light; simp [intOf]; omega
          · have hcut : Hid (cutK fs k = (fs.take 20).map cutT) := show _ = _ by rw [show k = 20 by omega]; rfl
            have hx5 := hZ5.out
            obtain ⟨z0, z1, z2, z3, z4, -, -, -, -, -, zz⟩ := hx5
            obtain ⟨y0, y1, y2, y3, y4, g0, g1, g2, g3, g4, yz⟩ := YS.out.below hB.out
            obtain ⟨ao, co, rfl⟩ := own_shape hO.out
            have SO : Hid (SlS (Z + 1) (cutK fs k) wr (.slice ao k co)) := by
              have h1 := OwnS.of_row (l := cutK fs k) (v := .slice ao k co) (by rw [cutK_len fs hk]; exact hO.out)
              exact h1.slAt
            have hY1 : Hid (X + 1 < Z + 1) := show _ < _ by have := hZX.out; omega
            have BW := Lib.hid (bel_below B01.out hB.out)
            have hWY : Hid (w.heap.size ≤ X + 1) := Nat.le_succ_of_le hWX.out
            have hWZ : Hid (w.heap.size ≤ Z + 1) := show _ ≤ _ by have := hZX.out; have := hWX.out; omega
            clear hO hZ5
            go_wp2_with fail
            refine bodyPost_ret (v := .agg #[.string (bs (cutT g)), .int .i64 c, .slice ao k co, .bool any, .int .i64 t]) ?_ rfl (HP.out k _ _ hcut.out ?_ ?_)
            · simp [results, Tryz.results25, go_sem, z0, z1, z2, z3, z4, y0, y1, y2, y3, y4]
            · exact (((((SlAt.set SO.out (p := ⟨X + 1, 0, none⟩) hY1.out _).set (p := ⟨X + 1, 1, none⟩) hY1.out _).set (p := ⟨X + 1, 2, none⟩) hY1.out _).set (p := ⟨X + 1, 3, none⟩) hY1.out _).set (p := ⟨X + 1, 4, none⟩) hY1.out _).base hWZ.out
            · exact bel_set (bel_set (bel_set (bel_set (bel_set BW.out hWY.out _) hWY.out _) hWY.out _) hWY.out _) hWY.out _
        · have hcut : Hid (cutK fs k = (fs.take 20).map cutT) := show _ = _ by
            have hke : k = fs.length := by omega
            unfold cutK; rw [hke, List.take_length, List.take_of_length_le (by omega)]
          have hx5 := hZ5.out
          obtain ⟨z0, z1, z2, z3, z4, -, -, -, -, -, zz⟩ := hx5
          obtain ⟨y0, y1, y2, y3, y4, g0, g1, g2, g3, g4, yz⟩ := YS.out.below hB.out
          obtain ⟨ao, co, rfl⟩ := own_shape hO.out
          have SO : Hid (SlS (Z + 1) (cutK fs k) wr (.slice ao k co)) := by
            have h1 := OwnS.of_row (l := cutK fs k) (v := .slice ao k co) (by rw [cutK_len fs hk]; exact hO.out)
            exact h1.slAt
          have hY1 : Hid (X + 1 < Z + 1) := show _ < _ by have := hZX.out; omega
          have BW := Lib.hid (bel_below B01.out hB.out)
          have hWY : Hid (w.heap.size ≤ X + 1) := Nat.le_succ_of_le hWX.out
          have hWZ : Hid (w.heap.size ≤ Z + 1) := show _ ≤ _ by have := hZX.out; have := hWX.out; omega
          clear hO hZ5
          go_wp2_with fail
          refine bodyPost_ret (v := .agg #[.string (bs (cutT g)), .int .i64 c, .slice ao k co, .bool any, .int .i64 t]) ?_ rfl (HP.out k _ _ hcut.out ?_ ?_)
          · simp [results, Tryz.results25, go_sem, z0, z1, z2, z3, z4, y0, y1, y2, y3, y4]
          · exact (((((SlAt.set SO.out (p := ⟨X + 1, 0, none⟩) hY1.out _).set (p := ⟨X + 1, 1, none⟩) hY1.out _).set (p := ⟨X + 1, 2, none⟩) hY1.out _).set (p := ⟨X + 1, 3, none⟩) hY1.out _).set (p := ⟨X + 1, 4, none⟩) hY1.out _).base hWZ.out
          · exact bel_set (bel_set (bel_set (bel_set (bel_set BW.out hWY.out _) hWY.out _) hWY.out _) hWY.out _) hWY.out _
  · refine ⟨_, rfl, fun R hR => ?_⟩
    go_wp2_with fail
    refine hR _ _ ⟨⟨_, bel_alloc BD.out _⟩, rfl⟩ ?_
    clear hR R
    refine wpAnyC_step (f := 2) [2] (by kernel_rfl) rfl rfl (fun i hi => ?_)
    simp only [List.mem_cons, List.not_mem_nil, or_false] at hi
    subst hi
    refine ⟨_, rfl, fun R hR => ?_⟩
    go_wp2_with fail
    refine (cut1_any g _).mono ?_
    rintro e wc ⟨rfl, rfl⟩
    go_wp2_with fail
    refine hR _ _ ⟨⟨_, bel_alloc BD.out _⟩, rfl⟩ ?_
    clear hR R
    refine wpAnyC_step (f := 1) [9] (by kernel_rfl) rfl rfl (fun i hi => ?_)
    simp only [List.mem_cons, List.not_mem_nil, or_false] at hi
    subst hi
    refine ⟨_, rfl, fun R hR => ?_⟩
    go_wp2_with fail
    refine hR _ _ ⟨⟨_, bel_alloc BD.out _⟩, rfl⟩ ?_
    clear hR R
    refine wpAnyC_end (k := 11) (by decide) rfl rfl (by kernel_rfl) ?_
    go_wp2_with fail
    obtain ⟨w3, hw3⟩ : ∃ z, z = (w1.alloc (.cells #[.string (bs (cutT g)), .int .i64 c, .slice none 0 0, .bool any, .int .i64 t] 79)).drew := ⟨_, rfl⟩
    obtain ⟨Z, hZ⟩ : ∃ z, z = w1.heap.size := ⟨_, rfl⟩
    have B3 : Hid (Below w1.heap.size w1 w3) := by rw [hw3]; exact (bel_alloc (Below.refl _ _) _).drew
    have ZS : Hid (Box5 w3 Z (.string (bs (cutT g))) (.int .i64 c) (.slice none 0 0) (.bool any) (.int .i64 t)) := by
      rw [hw3, hZ]
      have h := box5_new w1 (.string (bs (cutT g))) (.int .i64 c) (.slice none 0 0) (.bool any) (.int .i64 t) 79
      exact ⟨h.c0, h.c1, h.c2, h.c3, h.c4, h.f0, h.f1, h.f2, h.f3, h.f4, h.z⟩
    have hZX : Hid (Z = X + 1 + 1) := show _ = _ by rw [hZ, hXz.out]
    have hZw : Hid (w1.heap.size ≤ Z) := show _ ≤ _ by omega
    rw [← hw3]
    try rw [← hZ]
    clear hw3 hZ x0 x1 x2 x3 x4 BD
    go_loopw [4] (fun i wr => ∃ (k : Nat) (vr : Value), k ≤ fs.length ∧ k ≤ 20 ∧ i = .int .i64 k ∧ Hid (Box5 wr Z (.string (bs (cutT g))) (.int .i64 c) vr (.bool any) (.int .i64 t)) ∧ Hid (wr.ownsRow (Z + 1) 9 1 vr k ((cutK fs k).map sV)) ∧ Hid (Below w1.heap.size w1 wr)) (fun i _ => fs.length - (intOf i).toNat)
    case atStart => exact ⟨0, _, Nat.zero_le _, Nat.zero_le _, rfl, ZS.out, ⟨rfl, Or.inl ⟨rfl, rfl⟩⟩, B3.out⟩
    case round =>
      obtain ⟨k, vr, hk, hk20, rfl, hZ5, hO, hB⟩ := hrel
      obtain ⟨x0, x1, x2, x3, x4, -, -, -, -, -, xz⟩ := XS.out.below hB.out
      by_cases hlt : k < fs.length
      · by_cases hl20 : k < 20
        · obtain ⟨b, off, rfl, _, hbz, d0⟩ := SlAt.at S0.out k hlt wr (bel_below B01.out hB.out)
          have hbw : b < w.heap.size := by
            obtain ⟨_, _, e, _, _, _, h3⟩ := S0.out
            cases e
            obtain ⟨b', off', e, _, h4, _⟩ := h3.resolve_left (by omega)
            cases e; exact h4
          have hsu := cutK_succ fs hlt
          obtain ⟨f, hf⟩ : ∃ z, z = nthT fs k := ⟨_, rfl⟩
          have d1 : wr.cell? ⟨b, off + k, none⟩ = some (.string (bs f)) := by rw [hf]; exact d0
          rw [← hf] at hsu
          have HSU := Lib.hid hsu
          clear d0 hf hsu
          obtain ⟨ao, co, rfl⟩ := own_shape hO.out
          obtain ⟨z0, z1, z2, z3, z4, f0, f1, f2, f3, f4, zz⟩ := hZ5.out
          obtain ⟨S, hS⟩ : ∃ S : Nat → Prop, S = fun b => Value.ownBlock (.slice ao k co) = some b := ⟨_, rfl⟩
          have HS := Lib.hid hS
          have hSl : Hid (∀ q, S q → Z + 1 ≤ q ∧ q < wr.heap.size) := fun q hq => hO.out.lt q (by rw [hS] at hq; exact hq)
          have hSZ : ¬ S Z := fun h => by have := (hSl.out Z h).1; omega
          have hSX : ¬ S X := fun h => by have := (hSl.out X h).1; have := hZX.out; omega
          have hSb : ¬ S b := fun h => by have := (hSl.out b h).1; have := hZX.out; have := hWX.out; omega
          clear hS
          obtain ⟨L, hL⟩ : ∃ z, z = (cutK fs k).map sV := ⟨_, rfl⟩
          have HLk := Lib.hid hL
          rw [← hL] at hO
          clear hL
          go_wp2_with fail
          refine wp_region_heads [0, 1, 2, 3, 4, 5, 6] 11 (fun w' => ∃ y : KeptT S wr, w' = y.world) (by kernel_rfl) (by kernel_rfl) ⟨⟨{ wr with drawn := wr.drawn + 1 }, (Kept.refl S wr).drew⟩, rfl⟩ ?_ ?_
          · intro d v c a w h
            cases d <;> exact h
          simp only [headOps]
          repeat (refine wpTame_step (fun K hK => ?_); go_simp; refine hK _ ?_; clear hK K)
          refine wpTame_nil ?_
          refine wpAnyC_step (f := 4) [7] (by kernel_rfl) rfl rfl (fun i hi => ?_)
          simp only [List.mem_cons, List.not_mem_nil, or_false] at hi
          subst hi
          refine ⟨_, rfl, fun R hR => ?_⟩
          go_wp2_with fail
          refine (cut1_any f _).mono ?_
          rintro e wc ⟨rfl, rfl⟩
          go_wp2_with fail
          refine hR _ _ ⟨⟨_, (Kept.refl S wr).drew⟩, rfl⟩ ?_
          clear hR R
          refine wpAnyC_step (f := 3) [8] (by kernel_rfl) rfl rfl (fun i hi => ?_)
          simp only [List.mem_cons, List.not_mem_nil, or_false] at hi
          subst hi
          refine ⟨_, rfl, fun R hR => ?_⟩
          go_wp2_with fail
          refine hR _ _ ⟨⟨_, (Kept.refl S wr).drew.alloc _⟩, rfl⟩ ?_
          clear hR R
          refine wpAnyC_step (f := 2) [9] (by kernel_rfl) rfl rfl (fun i hi => ?_)
          simp only [List.mem_cons, List.not_mem_nil, or_false] at hi
          subst hi
          refine ⟨_, rfl, fun R hR => ?_⟩
          simp only [List.getElem_toArray, List.getElem_cons_succ, List.getElem_cons_zero]
          go_wp2_with (at_builtin; go_loud (refine wpList_app rfl _ _ 24 rfl (Z + 1) 9 i0 (.string ByteArray.empty) 16 Tryz.underlying24 hi hz0 hz1 hz2 rfl _ k L rfl ?c0x3 0 (fun _ => sV (cutT f)) 1 _ rfl (slS_one _ (cutT f) 9 _ ?c4x3) (fun _ => rfl) ?c1x3 ?c2x3 ?c3x3 ?_))
          case c0x3 => exact ownsRow_same hO.out fun q hq => (bel_alloc (RowKit.Below.refl _ wr) _).block q (hO.out.lt q hq).2
          case c4x3 => rfl
          case c1x3 => simp only [maxLen]; omega
          case c2x3 => omega
          case c3x3 => have := hB.out.size; have := hZX.out; have := hXz.out; simp; omega
          intro va wa ho hg
          obtain ⟨av, cv, rfl⟩ := own_shape ho
          have KA : Hid (Kept S wr wa) := ((Kept.refl S wr).drew.alloc _).trans ⟨hg.os, hg.tape, hg.output, hg.size, fun b hb hn => hg.block b hb (fun e => hn (by rw [HS.out]; exact e.symm))⟩
          have HO : Hid (wa.ownsRow (Z + 1) 9 1 (.slice av (k + 1) cv) (k + 1) ((cutK fs (k + 1)).map sV)) := show World.ownsRow _ _ _ _ _ _ _ by
            rw [HSU.out, List.map_append, ← HLk.out]; exact ho
          have ZA := Lib.hid (hZ5.out.same KA.out.size (KA.out.block Z zz hSZ))
          have BA : Hid (Below w1.heap.size w1 wa) := hB.out.trans (KA.out.toBelow hB.out.size fun b hb hS => by have h1 := (hSl.out b hS).1; have := hXz.out; have := hZX.out; omega)
          clear ho hg x0 x1 x2 x3 x4 d1 z0 z1 z2 z3 z4 f0 f1 f2 f3 f4
          go_wp2_with fail
          refine hR _ _ ⟨⟨wa, KA.out⟩, rfl⟩ ?_
          clear hR R
          refine wpAnyC_mid (f := 1) [10] ⟨⟨wa, KA.out⟩, rfl⟩ (by kernel_rfl) (fun d v c a w h => by cases d <;> exact h) ?_
          simp only [headOps]
          repeat (refine wpTame_step (fun K hK => ?_); go_simp; refine hK _ ?_; clear hK K)
          refine wpTame_nil ?_
          refine wpAnyC_end (k := 11) (by decide) rfl rfl (by kernel_rfl) ?_
          obtain ⟨z0, z1, z2, z3, z4, f0, f1, f2, f3, f4, zz2⟩ := ZA.out
          have HO2 : Hid ((wa.setCell ⟨Z, 2, none⟩ (.slice av (k + 1) cv)).ownsRow (Z + 1) 9 1 (.slice av (k + 1) cv) (k + 1) ((cutK fs (k + 1)).map sV)) := ownsRow_same HO.out fun q hq => by
            have h1 := (HO.out.lt q hq).1
            exact Below.heap_setCell _ _ _ _ (by show q ≠ Z; omega)
          go_wp2_with fail
          go_roundw
          case rel => go_light; exact ⟨k + 1, _, by omega, by omega, by go_num, ZA.out.set2 _, HO2.out, BA.out.trans (((Below.refl _ wa).setCell (p := ⟨Z, 2, none⟩) (B := w1.heap.size) (by exact hZw.out) _))⟩
          case measure => go_light; simp [intOf]; omega
        · have hcut : Hid (cutK fs k = (fs.take 20).map cutT) := show _ = _ by rw [show k = 20 by omega]; rfl
          have hx5 := hZ5.out
          obtain ⟨z0, z1, z2, z3, z4, -, -, -, -, -, zz⟩ := hx5
          obtain ⟨y0, y1, y2, y3, y4, g0, g1, g2, g3, g4, yz⟩ := YS.out.below hB.out
          obtain ⟨ao, co, rfl⟩ := own_shape hO.out
          have SO : Hid (SlS (Z + 1) (cutK fs k) wr (.slice ao k co)) := by
            have h1 := OwnS.of_row (l := cutK fs k) (v := .slice ao k co) (by rw [cutK_len fs hk]; exact hO.out)
            exact h1.slAt
          have hY1 : Hid (X + 1 < Z + 1) := show _ < _ by have := hZX.out; omega
          have BW := Lib.hid (bel_below B01.out hB.out)
          have hWY : Hid (w.heap.size ≤ X + 1) := Nat.le_succ_of_le hWX.out
          have hWZ : Hid (w.heap.size ≤ Z + 1) := show _ ≤ _ by have := hZX.out; have := hWX.out; omega
          clear hO hZ5
          go_wp2_with fail
          refine bodyPost_ret (v := .agg #[.string (bs (cutT g)), .int .i64 c, .slice ao k co, .bool any, .int .i64 t]) ?_ rfl (HP.out k _ _ hcut.out ?_ ?_)
          · simp [results, Tryz.results25, go_sem, z0, z1, z2, z3, z4, y0, y1, y2, y3, y4]
          · exact (((((SlAt.set SO.out (p := ⟨X + 1, 0, none⟩) hY1.out _).set (p := ⟨X + 1, 1, none⟩) hY1.out _).set (p := ⟨X + 1, 2, none⟩) hY1.out _).set (p := ⟨X + 1, 3, none⟩) hY1.out _).set (p := ⟨X + 1, 4, none⟩) hY1.out _).base hWZ.out
          · exact bel_set (bel_set (bel_set (bel_set (bel_set BW.out hWY.out _) hWY.out _) hWY.out _) hWY.out _) hWY.out _
      · have hcut : Hid (cutK fs k = (fs.take 20).map cutT) := show _ = _ by
          have hke : k = fs.length := by omega
          unfold cutK; rw [hke, List.take_length, List.take_of_length_le (by omega)]
        have hx5 := hZ5.out
        obtain ⟨z0, z1, z2, z3, z4, -, -, -, -, -, zz⟩ := hx5
        obtain ⟨y0, y1, y2, y3, y4, g0, g1, g2, g3, g4, yz⟩ := YS.out.below hB.out
        obtain ⟨ao, co, rfl⟩ := own_shape hO.out
        have SO : Hid (SlS (Z + 1) (cutK fs k) wr (.slice ao k co)) := by
          have h1 := OwnS.of_row (l := cutK fs k) (v := .slice ao k co) (by rw [cutK_len fs hk]; exact hO.out)
          exact h1.slAt
        have hY1 : Hid (X + 1 < Z + 1) := show _ < _ by have := hZX.out; omega
        have BW := Lib.hid (bel_below B01.out hB.out)
        have hWY : Hid (w.heap.size ≤ X + 1) := Nat.le_succ_of_le hWX.out
        have hWZ : Hid (w.heap.size ≤ Z + 1) := show _ ≤ _ by have := hZX.out; have := hWX.out; omega
        clear hO hZ5
        go_wp2_with fail
        refine bodyPost_ret (v := .agg #[.string (bs (cutT g)), .int .i64 c, .slice ao k co, .bool any, .int .i64 t]) ?_ rfl (HP.out k _ _ hcut.out ?_ ?_)
        · simp [results, Tryz.results25, go_sem, z0, z1, z2, z3, z4, y0, y1, y2, y3, y4]
        · exact (((((SlAt.set SO.out (p := ⟨X + 1, 0, none⟩) hY1.out _).set (p := ⟨X + 1, 1, none⟩) hY1.out _).set (p := ⟨X + 1, 2, none⟩) hY1.out _).set (p := ⟨X + 1, 3, none⟩) hY1.out _).set (p := ⟨X + 1, 4, none⟩) hY1.out _).base hWZ.out
        · exact bel_set (bel_set (bel_set (bel_set (bel_set BW.out hWY.out _) hWY.out _) hWY.out _) hWY.out _) hWY.out _
end Go.Proofs.YtahiahjhpakeiaaGreatDoor
end
