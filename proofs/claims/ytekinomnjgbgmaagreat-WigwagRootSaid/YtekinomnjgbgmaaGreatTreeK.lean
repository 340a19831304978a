
/-
  The statements' own look at trees: awake.
-/
import Derived.Test.YtekinomnjgbgmaaGreatTreeB
import Derived.Test.YtekinomnjgbgmaaGreatInts
namespace Go.Proofs.YtekinomnjgbgmaaGreat
open Go.RowKit Go.Maps Go.Sort Go.WideShapes Go.ChangeShapes Go.Deep
set_option linter.unusedVariables false
set_option linter.unusedSimpArgs false
attribute [local go_sem] later_cell later_frozen later_lt cell_set_off cell_set_block

def T20 : TS := ⟨2, [(3, 0), (0, 1), (1, 2)]⟩
theorem tree20 : treeR (nxL [1, 2, 2, 0]) [3, 1] = .inl T20 := by rfl
theorem inv20 : TInv T20 := (tree_inv tree20).1
theorem depth20 : depthR T20 3 = 3 := by decide +kernel
theorem nodes20 : nodesS T20 = [0, 1, 2, 3] := up_uniq (nodes_up inv20) (by unfold Up; decide) fun x => by
  rw [nodes_mem]
  unfold TS.up T20
  simp only [upL]
  constructor
  · rintro (h | ⟨_, h⟩)
    · by_cases h3 : x = 3 <;> by_cases h0 : x = 0 <;> by_cases h1 : x = 1 <;> simp_all
    · simp [h]
  · intro h
    simp at h
    rcases h with rfl | rfl | rfl | rfl <;> simp
theorem kids20 : kidsS T20 2 = [1] := up_uniq (kids_up inv20 2) (by unfold Up; decide) fun x => by
  rw [kids_mem]
  unfold TS.up T20
  simp only [upL]
  constructor
  · intro h
    by_cases h3 : x = 3 <;> by_cases h0 : x = 0 <;> by_cases h1 : x = 1 <;> simp_all
  · intro h
    simp at h
    subst h
    simp
end Go.Proofs.YtekinomnjgbgmaaGreat

/-
  Whether a tree is one: Check.
-/
namespace Go.Proofs.YtekinomnjgbgmaaGreat
open Go.RowKit Go.Maps Go.Sort Go.WideShapes Go.ChangeShapes Go.Deep
set_option linter.unusedVariables false
set_option linter.unusedSimpArgs false
attribute [local go_sem] later_cell later_frozen later_lt cell_set_off cell_set_block

/-- What Check answers: nothing, or an error of a code. -/
def ChkPost (w : World) (c : Option Int) (e : Ending) (w' : World) : Prop :=
  (match c with
  | none => e = .returned .nilIface
  | some k => ∃ v, e = .returned v ∧ IsErr w.heap.size w' v k) ∧ Below w.heap.size w w'
/-- A tree of nobody. -/
theorem check_none (w : World) (mb : Nat) (t : TS) (h : TreeAt w mb t) (aa ia : Option Addr) (n ac m ic : Nat) (nm : ByteArray) (hr : t.root = -1) :
    Calls Tryz.prog 18 #[.agg #[.int .i64 t.root, .map (some mb)], .agg #[.slice aa n ac, .slice ia m ic], .string nm] w (ChkPost w (if 0 < t.ups.length then some 11 else none)) := by
  rw [hr]
  have hsm := h.small
  have hmb := h.map.lt
  obtain ⟨c, hc⟩ : ∃ c, c = t.ups.length := ⟨_, rfl⟩
  have HM : Hid (∀ wr, Below w.heap.size w wr → MapX Tryz.prog 3 wr mb c fun i => (t.up i).map (Value.int .i64)) := show ∀ wr, _ → _ from fun wr hb => by rw [hc]; exact (h.below hb).map
  rw [← hc] at hsm ⊢
  clear h hr hc
  obtain ⟨w2, hw2⟩ : ∃ z, z = (w.alloc (.cells #[.int .i64 (-1), .map (some mb)] 46)).alloc (.cells #[.slice aa n ac, .slice ia m ic] 42) := ⟨_, rfl⟩
  have B2 : Hid (Below w.heap.size w w2) := by rw [hw2]; exact bel_alloc (bel_alloc (Below.refl _ _) _) _
  unfold ChkPost
  by_cases h0 : 0 < c
  · rw [if_pos h0]
    have h0I : (0 : Int) < (c : Int) := by omega
    go_enter Tryz.func18, Tryz.ntmps18
    go_wp2_with (at_len; refine wpList_len_x _ rfl _ _ rfl 3 3 Tryz.underlying44 mb c _ rfl (HM.out _ ?hbm) ?_)
    case hbm => exact bel_alloc (bel_alloc (Below.refl _ _) _) _
    rw [← hw2]
    clear hw2
    go_wp2_with fail
    refine (tfault_any _ _).mono ?_
    rintro e w6 ⟨v, rfl, hE, hb6⟩
    have HE := Lib.hid (hE.base ((B2).out.size))
    have B6 := Lib.hid (bel_below (B2).out hb6)
    clear hE hb6
    obtain ⟨bE, rfl, _⟩ := HE.out
    go_wp2_with fail
    go_ret
    exact ⟨⟨_, rfl, HE.out⟩, B6.out⟩
  · rw [if_neg h0]
    have h0I : ¬ (0 : Int) < (c : Int) := by omega
    go_enter Tryz.func18, Tryz.ntmps18
    go_wp2_with (at_len; refine wpList_len_x _ rfl _ _ rfl 3 3 Tryz.underlying44 mb c _ rfl (HM.out _ ?hbm) ?_)
    case hbm => exact bel_alloc (bel_alloc (Below.refl _ _) _) _
    rw [← hw2]
    clear hw2
    go_wp2_with fail
    go_ret
    exact ⟨rfl, B2.out⟩
/-- The root tells somebody, or is not the owner. -/
theorem check_root (w : World) (mb : Nat) (t : TS) (h : TreeAt w mb t) (aa ia : Option Addr) (n ac m ic : Nat) (nm : ByteArray) (hnm : nm.size ≤ 1000000) (hr : t.root ≠ -1) (o : Int)
    (CO : ∀ wr, Below w.heap.size w wr → Calls Tryz.prog 16 #[.agg #[.slice aa n ac, .slice ia m ic], .int .u64 (keyH nm)] wr fun e w' => e = .returned (.int .i64 o) ∧ Below wr.heap.size wr w') (hu : t.up t.root = none) (hbad : o ≠ t.root) :
    Calls Tryz.prog 18 #[.agg #[.int .i64 t.root, .map (some mb)], .agg #[.slice aa n ac, .slice ia m ic], .string nm] w (ChkPost w (some 11)) := by
  have HLK : Hid (∀ wr, Below w.heap.size w wr → (Instr.lookup 44 (.map (some mb)) (.int .i64 t.root) true).run Tryz.prog wr = .ok (.tuple #[.int .i64 0, .bool false]) wr) := fun wr hb => by
    have := (h.below hb).look t.root h.root
    rw [hu] at this; exact this
  have CO := Lib.hid CO
  obtain ⟨r, hre⟩ : ∃ z, z = t.root := ⟨_, rfl⟩
  rw [← hre] at HLK hr hbad ⊢
  have hrb : (r == -1) = false := by simpa using hr
  have hob : (o != r) = true := by simpa using hbad
  clear h hre hu hbad hr
  unfold ChkPost
  go_enter Tryz.func18, Tryz.ntmps18
  go_upto_region 1 with (fail)
  obtain ⟨w2, hw2⟩ : ∃ z, z = (w.alloc (.cells #[.int .i64 r, .map (some mb)] 46)).alloc (.cells #[.slice aa n ac, .slice ia m ic] 42) := ⟨_, rfl⟩
  have B2 : Hid (Below w.heap.size w w2) := by rw [hw2]; exact bel_alloc (bel_alloc (Below.refl _ _) _) _
  have x0 : w2.cell? ⟨w.heap.size, 0, none⟩ = some (.int .i64 r) := by rw [hw2]; simp [go_sem]
  have x1 : w2.cell? ⟨w.heap.size, 1, none⟩ = some (.map (some mb)) := by rw [hw2]; simp [go_sem]
  have y0 : w2.cell? ⟨w.heap.size + 1, 0, none⟩ = some (.slice aa n ac) := by rw [hw2]; simp [go_sem]
  have y1 : w2.cell? ⟨w.heap.size + 1, 1, none⟩ = some (.slice ia m ic) := by rw [hw2]; simp [go_sem]
  have xz : w.heap.size < w2.heap.size := by rw [hw2]; simp; omega
  have yz : w.heap.size + 1 < w2.heap.size := by rw [hw2]; simp
  have es : (w.alloc (.cells #[.int .i64 r, .map (some mb)] 46)).heap.size = w.heap.size + 1 := by simp
  try rw [← hw2]
  try rw [es]
  clear hw2 es
  have hlk := HLK.out w2 B2.out
  go_wp2_with fail
  refine wp_region_all [0, 1, 2, 3, 6, 7] (fun w' => ∃ y : Later w2, w' = y.world) (by kernel_rfl) (by kernel_rfl) ⟨⟨{ w2 with drawn := w2.drawn + 1 }, (RowKit.Below.refl _ _).drew⟩, rfl⟩ (fun d v c a w h => by cases d <;> exact h) ?_
  simp only [headOps]
  repeat (refine wpTame_step (fun K hK => ?_); go_simp; refine hK _ ?_; clear hK K)
  refine wpTame_nil ?_
  refine wpAnyC_step (f := 3) [4] (by kernel_rfl) rfl rfl (fun i hi => ?_)
  simp only [List.mem_cons, List.not_mem_nil, or_false] at hi
  subst hi
  refine ⟨_, rfl, fun R hR => ?_⟩
  go_wp2_with fail
  refine (key_any nm _ hnm).mono ?_
  rintro e wc ⟨rfl, hbc⟩
  have BC := Lib.hid ((bel_drew (RowKit.Below.refl _ _)).trans (hbc.mono (by simp)) : RowKit.Below w2.heap.size w2 wc)
  clear hbc
  go_wp2_with fail
  refine hR _ _ ⟨⟨wc, (BC).out⟩, rfl⟩ ?_
  clear hR R
  refine wpAnyC_step (f := 2) [5] (by kernel_rfl) rfl rfl (fun i hi => ?_)
  simp only [List.mem_cons, List.not_mem_nil, or_false] at hi
  subst hi
  refine ⟨_, rfl, fun R hR => ?_⟩
  go_wp2_with fail
  refine (CO.out wc (bel_below B2.out BC.out)).mono ?_
  rintro e wd ⟨rfl, hbd⟩
  have BD := Lib.hid (bel_below BC.out hbd)
  clear hbd
  go_wp2_with fail
  refine hR _ _ ⟨⟨wd, (BD).out⟩, rfl⟩ ?_
  clear hR R
  refine wpAnyC_step (f := 1) [8] (by kernel_rfl) rfl rfl (fun i hi => ?_)
  simp only [List.mem_cons, List.not_mem_nil, or_false] at hi
  subst hi
  refine ⟨_, rfl, fun R hR => ?_⟩
  go_wp2_with fail
  refine hR _ _ ⟨⟨wd, BD.out⟩, rfl⟩ ?_
  clear hR R
  refine wpAnyC_step (f := 0) [9] (by kernel_rfl) rfl rfl (fun i hi => ?_)
  simp only [List.mem_cons, List.not_mem_nil, or_false] at hi
  subst hi
  refine ⟨_, rfl, fun R hR => ?_⟩
  go_wp2_with fail
  refine hR _ _ ⟨⟨wd, BD.out⟩, rfl⟩ ?_
  clear hR R
  refine wpAnyC_done (by kernel_rfl) ?_
  have BE := Lib.hid (bel_below B2.out BD.out)
  clear x0 x1 y0 y1 hlk
  go_wp2_with fail
  refine (tfault_any _ _).mono ?_
  rintro e w6 ⟨v, rfl, hE, hb6⟩
  have HE := Lib.hid (hE.base ((BE).out.size))
  have B6 := Lib.hid (bel_below (BE).out hb6)
  clear hE hb6
  obtain ⟨bE, rfl, _⟩ := HE.out
  go_wp2_with fail
  go_ret
  exact ⟨⟨_, rfl, HE.out⟩, B6.out⟩
/-- The root tells somebody. -/
theorem check_tells (w : World) (mb : Nat) (t : TS) (h : TreeAt w mb t) (aa ia : Option Addr) (n ac m ic : Nat) (nm : ByteArray) (hr : t.root ≠ -1) (q : Int) (hu : t.up t.root = some q) :
    Calls Tryz.prog 18 #[.agg #[.int .i64 t.root, .map (some mb)], .agg #[.slice aa n ac, .slice ia m ic], .string nm] w (ChkPost w (some 11)) := by
  have HLK : Hid (∀ wr, Below w.heap.size w wr → (Instr.lookup 44 (.map (some mb)) (.int .i64 t.root) true).run Tryz.prog wr = .ok (.tuple #[.int .i64 q, .bool true]) wr) := fun wr hb => by
    have := (h.below hb).look t.root h.root
    rw [hu] at this; exact this
  obtain ⟨r, hre⟩ : ∃ z, z = t.root := ⟨_, rfl⟩
  rw [← hre] at HLK hr ⊢
  have hrb : (r == -1) = false := by simpa using hr
  clear h hre hu hr
  unfold ChkPost
  go_enter Tryz.func18, Tryz.ntmps18
  go_upto_region 1 with (fail)
  obtain ⟨w2, hw2⟩ : ∃ z, z = (w.alloc (.cells #[.int .i64 r, .map (some mb)] 46)).alloc (.cells #[.slice aa n ac, .slice ia m ic] 42) := ⟨_, rfl⟩
  have B2 : Hid (Below w.heap.size w w2) := by rw [hw2]; exact bel_alloc (bel_alloc (Below.refl _ _) _) _
  have x0 : w2.cell? ⟨w.heap.size, 0, none⟩ = some (.int .i64 r) := by rw [hw2]; simp [go_sem]
  have x1 : w2.cell? ⟨w.heap.size, 1, none⟩ = some (.map (some mb)) := by rw [hw2]; simp [go_sem]
  have y0 : w2.cell? ⟨w.heap.size + 1, 0, none⟩ = some (.slice aa n ac) := by rw [hw2]; simp [go_sem]
  have y1 : w2.cell? ⟨w.heap.size + 1, 1, none⟩ = some (.slice ia m ic) := by rw [hw2]; simp [go_sem]
  have xz : w.heap.size < w2.heap.size := by rw [hw2]; simp; omega
  have yz : w.heap.size + 1 < w2.heap.size := by rw [hw2]; simp
  have es : (w.alloc (.cells #[.int .i64 r, .map (some mb)] 46)).heap.size = w.heap.size + 1 := by simp
  try rw [← hw2]
  try rw [es]
  clear hw2 es
  have hlk := HLK.out w2 B2.out
  go_wp2_with fail
  refine wp_region_all [0, 1, 2, 3, 6, 7] (fun w' => ∃ y : Later w2, w' = y.world) (by kernel_rfl) (by kernel_rfl) ⟨⟨{ w2 with drawn := w2.drawn + 1 }, (RowKit.Below.refl _ _).drew⟩, rfl⟩ (fun d v c a w h => by cases d <;> exact h) ?_
  simp only [headOps]
  repeat (refine wpTame_step (fun K hK => ?_); go_simp; refine hK _ ?_; clear hK K)
  refine wpTame_nil ?_
  refine wpAnyC_step (f := 3) [4] (by kernel_rfl) rfl rfl (fun i hi => ?_)
  simp only [List.mem_cons, List.not_mem_nil, or_false] at hi
  subst hi
  refine ⟨_, rfl, fun R hR => ?_⟩
  go_wp2_with fail
  refine hR _ _ ⟨⟨_, (RowKit.Below.refl _ _).drew⟩, rfl⟩ ?_
  clear hR R
  refine wpAnyC_step (f := 2) [5] (by kernel_rfl) rfl rfl (fun i hi => ?_)
  simp only [List.mem_cons, List.not_mem_nil, or_false] at hi
  subst hi
  refine ⟨_, rfl, fun R hR => ?_⟩
  go_wp2_with fail
  refine hR _ _ ⟨⟨_, (RowKit.Below.refl _ _).drew⟩, rfl⟩ ?_
  clear hR R
  refine wpAnyC_step (f := 1) [8] (by kernel_rfl) rfl rfl (fun i hi => ?_)
  simp only [List.mem_cons, List.not_mem_nil, or_false] at hi
  subst hi
  refine ⟨_, rfl, fun R hR => ?_⟩
  go_wp2_with fail
  refine hR _ _ ⟨⟨_, (RowKit.Below.refl _ _).drew⟩, rfl⟩ ?_
  clear hR R
  refine wpAnyC_step (f := 0) [9] (by kernel_rfl) rfl rfl (fun i hi => ?_)
  simp only [List.mem_cons, List.not_mem_nil, or_false] at hi
  subst hi
  refine ⟨_, rfl, fun R hR => ?_⟩
  go_wp2_with fail
  refine hR _ _ ⟨⟨_, (RowKit.Below.refl _ _).drew⟩, rfl⟩ ?_
  clear hR R
  refine wpAnyC_done (by kernel_rfl) ?_
  have BE := Lib.hid (bel_drew B2.out)
  clear x0 x1 y0 y1 hlk
  go_wp2_with fail
  refine (tfault_any _ _).mono ?_
  rintro e w6 ⟨v, rfl, hE, hb6⟩
  have HE := Lib.hid (hE.base ((BE).out.size))
  have B6 := Lib.hid (bel_below (BE).out hb6)
  clear hE hb6
  obtain ⟨bE, rfl, _⟩ := HE.out
  go_wp2_with fail
  go_ret
  exact ⟨⟨_, rfl, HE.out⟩, B6.out⟩
set_option maxHeartbeats 4000000 in
/-- The root is the owner: then all depends on whether each comes to it. -/
theorem check_deep (w : World) (mb : Nat) (t : TS) (h : TreeAt w mb t) (aa ia : Option Addr) (n ac m ic : Nat) (nm : ByteArray) (hnm : nm.size ≤ 1000000) (hr : t.root ≠ -1)
    (CO : ∀ wr, Below w.heap.size w wr → Calls Tryz.prog 16 #[.agg #[.slice aa n ac, .slice ia m ic], .int .u64 (keyH nm)] wr fun e w' => e = .returned (.int .i64 t.root) ∧ Below wr.heap.size wr w') (hu : t.up t.root = none)
    (c13 : Option Int) (hok : (∀ x, (t.up x).isSome = true → 0 ≤ depthR t x) → c13 = none) (hno : (∃ x, (t.up x).isSome = true ∧ depthR t x < 0) → c13 = some 13) :
    Calls Tryz.prog 18 #[.agg #[.int .i64 t.root, .map (some mb)], .agg #[.slice aa n ac, .slice ia m ic], .string nm] w (ChkPost w c13) := by
  have HLK : Hid (∀ wr, Below w.heap.size w wr → (Instr.lookup 44 (.map (some mb)) (.int .i64 t.root) true).run Tryz.prog wr = .ok (.tuple #[.int .i64 0, .bool false]) wr) := fun wr hb => by
    have := (h.below hb).look t.root h.root
    rw [hu] at this; exact this
  have CO := Lib.hid CO
  have CD : Hid (∀ wr x, okInt x → Below w.heap.size w wr → Calls Tryz.prog 40 #[.agg #[.int .i64 t.root, .map (some mb)], .int .i64 x] wr fun e w' => e = .returned (.int .i64 (depthR t x)) ∧ Below wr.heap.size wr w') := fun wr x hx hb => depth_at wr mb t (h.below hb) x hx
  have HOK := Lib.hid hok
  have HNO := Lib.hid hno
  have hmb := h.map.lt
  obtain ⟨c, hc⟩ : ∃ c, c = t.ups.length := ⟨_, rfl⟩
  have HM : Hid (∀ wr, Below w.heap.size w wr → MapX Tryz.prog 3 wr mb c fun i => (t.up i).map (Value.int .i64)) := show ∀ wr, _ → _ from fun wr hb => by rw [hc]; exact (h.below hb).map
  obtain ⟨r, hre⟩ : ∃ z, z = t.root := ⟨_, rfl⟩
  rw [← hre] at HLK hr CO CD ⊢
  have hrb : (r == -1) = false := by simpa using hr
  have hrr : (r != r) = false := by simp
  clear h hre hu hr hok hno hc
  have HP : Hid (∀ e w', ((match c13 with
    | none => e = Ending.returned .nilIface
    | some k => ∃ v, e = .returned v ∧ IsErr w.heap.size w' v k) ∧ Below w.heap.size w w') → ChkPost w c13 e w') := fun e w' h => h
  refine (?_ : Calls Tryz.prog 18 #[.agg #[.int .i64 r, .map (some mb)], .agg #[.slice aa n ac, .slice ia m ic], .string nm] w (ChkPost w c13))
  go_enter Tryz.func18, Tryz.ntmps18
  go_upto_region 1 with (fail)
  obtain ⟨w2, hw2⟩ : ∃ z, z = (w.alloc (.cells #[.int .i64 r, .map (some mb)] 46)).alloc (.cells #[.slice aa n ac, .slice ia m ic] 42) := ⟨_, rfl⟩
  have B2 : Hid (Below w.heap.size w w2) := by rw [hw2]; exact bel_alloc (bel_alloc (Below.refl _ _) _) _
  have x0 : w2.cell? ⟨w.heap.size, 0, none⟩ = some (.int .i64 r) := by rw [hw2]; simp [go_sem]
  have x1 : w2.cell? ⟨w.heap.size, 1, none⟩ = some (.map (some mb)) := by rw [hw2]; simp [go_sem]
  have y0 : w2.cell? ⟨w.heap.size + 1, 0, none⟩ = some (.slice aa n ac) := by rw [hw2]; simp [go_sem]
  have y1 : w2.cell? ⟨w.heap.size + 1, 1, none⟩ = some (.slice ia m ic) := by rw [hw2]; simp [go_sem]
  have xz : w.heap.size < w2.heap.size := by rw [hw2]; simp; omega
  have yz : w.heap.size + 1 < w2.heap.size := by rw [hw2]; simp
  have es : (w.alloc (.cells #[.int .i64 r, .map (some mb)] 46)).heap.size = w.heap.size + 1 := by simp
  try rw [← hw2]
  try rw [es]
  clear hw2 es
  have hlk := HLK.out w2 B2.out
  go_wp2_with fail
  refine wp_region_all [0, 1, 2, 3, 6, 7] (fun w' => ∃ y : Later w2, w' = y.world) (by kernel_rfl) (by kernel_rfl) ⟨⟨{ w2 with drawn := w2.drawn + 1 }, (RowKit.Below.refl _ _).drew⟩, rfl⟩ (fun d v c a w h => by cases d <;> exact h) ?_
  simp only [headOps]
  repeat (refine wpTame_step (fun K hK => ?_); go_simp; refine hK _ ?_; clear hK K)
  refine wpTame_nil ?_
  refine wpAnyC_step (f := 3) [4] (by kernel_rfl) rfl rfl (fun i hi => ?_)
  simp only [List.mem_cons, List.not_mem_nil, or_false] at hi
  subst hi
  refine ⟨_, rfl, fun R hR => ?_⟩
  go_wp2_with fail
  refine (key_any nm _ hnm).mono ?_
  rintro e wc ⟨rfl, hbc⟩
  have BC := Lib.hid ((bel_drew (RowKit.Below.refl _ _)).trans (hbc.mono (by simp)) : RowKit.Below w2.heap.size w2 wc)
  clear hbc
  go_wp2_with fail
  refine hR _ _ ⟨⟨wc, (BC).out⟩, rfl⟩ ?_
  clear hR R
  refine wpAnyC_step (f := 2) [5] (by kernel_rfl) rfl rfl (fun i hi => ?_)
  simp only [List.mem_cons, List.not_mem_nil, or_false] at hi
  subst hi
  refine ⟨_, rfl, fun R hR => ?_⟩
  go_wp2_with fail
  refine (CO.out wc (bel_below B2.out BC.out)).mono ?_
  rintro e wd ⟨rfl, hbd⟩
  have BD := Lib.hid (bel_below BC.out hbd)
  clear hbd
  go_wp2_with fail
  refine hR _ _ ⟨⟨wd, (BD).out⟩, rfl⟩ ?_
  clear hR R
  refine wpAnyC_step (f := 1) [8] (by kernel_rfl) rfl rfl (fun i hi => ?_)
  simp only [List.mem_cons, List.not_mem_nil, or_false] at hi
  subst hi
  refine ⟨_, rfl, fun R hR => ?_⟩
  go_wp2_with fail
  refine hR _ _ ⟨⟨wd, BD.out⟩, rfl⟩ ?_
  clear hR R
  refine wpAnyC_step (f := 0) [9] (by kernel_rfl) rfl rfl (fun i hi => ?_)
  simp only [List.mem_cons, List.not_mem_nil, or_false] at hi
  subst hi
  refine ⟨_, rfl, fun R hR => ?_⟩
  go_wp2_with fail
  refine hR _ _ ⟨⟨wd, BD.out⟩, rfl⟩ ?_
  clear hR R
  refine wpAnyC_done (by kernel_rfl) ?_
  have BE := Lib.hid (bel_below B2.out BD.out)
  have x0 := (BD.out.cell (p := ⟨w.heap.size, 0, none⟩) xz).trans x0
  have x1 := (BD.out.cell (p := ⟨w.heap.size, 1, none⟩) xz).trans x1
  have xw2 := xz
  have xz := Nat.lt_of_lt_of_le xz BD.out.size
  have hXD : w.heap.size < wd.heap.size := xz
  clear y0 y1 hlk yz
  go_wp2_with (first
    | (at_range; refine wpList_range_x _ rfl _ 44 rfl 3 3 keyInt Tryz.underlying44 mb c _ rfl (HM.out _ BE.out) Tryz.underlying3 ?_; intro w0 cnt0 hrg0 hg0 hs0)
    | go_in)
  go_frame
  have B0 : Hid (Below wd.heap.size wd w0) := (Below.refl _ _).grown hg0 (Nat.le_refl _) (fun k hk => by cases hk)
  have RG0 := Lib.hid hrg0
  clear hrg0 hg0 hs0
  go_loopw [] (fun wr => ∃ (left : Int → Bool) (cnt : Nat), RangX Tryz.prog 3 wr mb wd.heap.size c (fun i => (t.up i).map (Value.int .i64)) left cnt ∧ Hid (Below wd.heap.size wd wr) ∧ Hid (∀ x, (t.up x).isSome = true → left x = false → 0 ≤ depthR t x))
    (fun wr => wr.rangeLeft mb wd.heap.size)
  case atStart =>
    refine ⟨_, _, RG0.out, B0.out, fun x h1 h2 => ?_⟩
    simp [h1] at h2
  case round =>
    obtain ⟨left, cnt, hrg, hB, hG⟩ := hrel
    have hRG := Lib.hid hrg
    have hle := hrg.left_eq
    have x0 := (hB.out.cell (p := ⟨w.heap.size, 0, none⟩) xz).trans x0
    have x1 := (hB.out.cell (p := ⟨w.heap.size, 1, none⟩) xz).trans x1
    have xz := Nat.lt_of_lt_of_le xz hB.out.size
    clear hrg
    go_wp2_with (first
      | (at_next; refine wpList_next_x _ rfl _ rfl 3 keyInt Tryz.underlying3 mb wd.heap.size _ _ _ _ rfl hRG.out ?_ ?_)
      | go_in)
    · intro _ hl0
      have hcn := Lib.hid (HOK.out (fun x hx => hG.out x hx (hl0 x)))
      have BW := Lib.hid (bel_below BE.out hB.out)
      clear hl0
      go_wp2_with fail
      go_ret
      rw [hcn.out]
      unfold ChkPost
      exact ⟨rfl, BW.out⟩
    · intro i b w1 cnt1 hoi hli m hm hbm hrg1 hlt hg1 hs1 hen
      subst hbm
      have hB1 : Below wd.heap.size wd w1 := hB.out.grown hg1 hB.out.size (fun k hk => by cases hk; exact Nat.le_refl _)
      have hne : w.heap.size ≠ wd.heap.size := by omega
      have hblk : w1.heap[w.heap.size]? = wr.heap[w.heap.size]? := hg1.block w.heap.size xz (fun e => hne (Option.some.inj (by first | exact e | exact e.symm)))
      have x0 := (show w1.cell? ⟨w.heap.size, 0, none⟩ = wr.cell? ⟨w.heap.size, 0, none⟩ from World.cell?_of_block hblk).trans x0
      have x1 := (show w1.cell? ⟨w.heap.size, 1, none⟩ = wr.cell? ⟨w.heap.size, 1, none⟩ from World.cell?_of_block hblk).trans x1
      have xz := Nat.lt_of_lt_of_le xz hg1.size
      have B1 := Lib.hid (bel_below BE.out hB1)
      have CDi := Lib.hid (CD.out w1 i hoi B1.out)
      have R1 := Lib.hid hrg1
      have HLT := Lib.hid hlt
      have his : (t.up i).isSome = true := by rw [hm]; rfl
      by_cases hd : depthR t i < 0
      · have h13 := Lib.hid (HNO.out ⟨i, his, hd⟩)
        obtain ⟨d, hde⟩ : ∃ z, z = depthR t i := ⟨_, rfl⟩
        rw [← hde] at CDi hd
        clear hde hm his hrg1 hlt hs1
        go_wp2_with fail
        refine CDi.out.mono ?_
        rintro e w5 ⟨rfl, hb5⟩
        have B5 := Lib.hid (bel_below B1.out hb5)
        clear hb5
        go_wp2_with fail
        refine (tfault_any _ _).mono ?_
        rintro e w6 ⟨v, rfl, hE, hb6⟩
        have HE := Lib.hid (hE.base (B5.out.size))
        have B6 := Lib.hid (bel_below B5.out hb6)
        clear hE hb6
        obtain ⟨bE, rfl, _⟩ := HE.out
        go_wp2_with fail
        go_ret
        rw [h13.out]
        unfold ChkPost
        exact ⟨⟨_, rfl, HE.out⟩, B6.out⟩
      · have G2 : Hid (∀ x, (t.up x).isSome = true → (left x && !(x == i)) = false → 0 ≤ depthR t x) := fun x hx hl => by
          by_cases e : x = i
          · subst e; omega
          · exact hG.out x hx (by simpa [e] using hl)
        obtain ⟨d, hde⟩ : ∃ z, z = depthR t i := ⟨_, rfl⟩
        rw [← hde] at CDi hd
        clear hde hm his hrg1 hlt hs1
        go_wp2_with fail
        refine CDi.out.mono ?_
        rintro e w5 ⟨rfl, hb5⟩
        have R5 := Lib.hid (R1.out.kept (⟨hb5.os, hb5.tape, hb5.output, hb5.size, fun i hi _ => hb5.block i hi⟩ : w1.grownBy w5 none) (by simp) (by simp))
        have B5 : Hid (Below wd.heap.size wd w5) := bel_below hB1 hb5
        clear hb5
        go_wp2_with fail
        go_roundw
        case rel => exact ⟨_, cnt1, R5.out, B5, G2⟩
        case measure => rw [R5.out.left_eq, hle]; exact HLT.out
end Go.Proofs.YtekinomnjgbgmaaGreat
