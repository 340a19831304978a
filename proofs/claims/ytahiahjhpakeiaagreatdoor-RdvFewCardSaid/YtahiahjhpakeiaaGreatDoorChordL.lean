
/-
  chord.New.
-/
import Derived.Test.YtahiahjhpakeiaaGreatDoorChordK
import Derived.Test.YtahiahjhpakeiaaGreatDoorRingF
import Derived.Test.YtahiahjhpakeiaaGreatDoorBase
import Derived.Deep.AppendLies
namespace Go.Proofs.YtahiahjhpakeiaaGreatDoor
open Go.RowKit Go.Maps Go.Sort
set_option linter.unusedVariables false
set_option linter.unusedSimpArgs false
attribute [local go_sem] later_cell later_frozen later_lt cell_set_off cell_set_block

/-- A ring of nobody. -/
theorem ring_none (w : World) (T : TypeId) (S : Nat → Prop) (hS : ∀ b, w.heap.size ≤ b → S b) :
    RAt S ((w.alloc (.map #[] 0)).alloc (.cells #[.map (some w.heap.size)] T)) (w.heap.size + 1) w.heap.size (fun _ => 0) (fun _ => none) where
  dom := fun n m e => by cases e
  up := fun b hb => hS b (by simp at hb; omega)
  rbS := hS _ (by omega)
  mbS := hS _ (Nat.le_refl _)
  ne := by omega
  rbz := by simp
  root := by simp [go_sem]
  map := by
    have h := mapAt_new (P := Tryz.prog) (k := 3) w
    have h2 := h.kept (World.grownBy_alloc (w.alloc (.map #[] 0)) (.cells #[.map (some w.heap.size)] T) none) (by simp)
    exact h2
  memS := fun n m e => by cases e
  mem := fun n m e => by cases e
  inj := fun i j m m' e => by cases e

theorem owns_below {w w' : World} {base e n : Nat} {v : Value} {xs : List Value} (h : w.ownsRow base e 1 v n xs) (hb : RowKit.Below w.heap.size w w') : w'.ownsRow base e 1 v n xs := by
  refine ⟨h.1, h.2.imp id ?_⟩
  rintro ⟨g, cap, cur, e1, h1, h2, h3⟩
  exact ⟨g, cap, cur, e1, h1, (hb.block g (Array.getElem?_eq_some_iff.1 h2).1).trans h2, h3⟩
theorem owns_blocks {w w' : World} {base e n : Nat} {v : Value} {xs : List Value} (h : w.ownsRow base e 1 v n xs) (hb : ∀ g, base ≤ g → g < w.heap.size → w'.heap[g]? = w.heap[g]?) : w'.ownsRow base e 1 v n xs := by
  refine ⟨h.1, h.2.imp id ?_⟩
  rintro ⟨g, cap, cur, e1, h1, h2, h3⟩
  exact ⟨g, cap, cur, e1, h1, (hb g h1 (Array.getElem?_eq_some_iff.1 h2).1).trans h2, h3⟩
/-- Blocks from m on that were there ahead of p, and new ones. -/
abbrev Old (m p : Nat) (w : World) (b : Nat) : Prop := (m ≤ b ∧ b < p) ∨ w.heap.size ≤ b
theorem old_blocks {w w' : World} {rb mb m p : Nat} {g : Int → Nat} {f : RS} (h : RAt (Old m p w) w rb mb g f) (hs : w.heap.size ≤ w'.heap.size) (hb : ∀ b, b < p → w'.heap[b]? = w.heap[b]?) : RAt (Old m p w') w' rb mb g f :=
  h.same hs (fun b hb' hS => hb b (by rcases hS with h | h <;> omega)) (fun b hb' hS => by rcases hS with h | h <;> first | exact Or.inl h | omega) (fun b hb' => Or.inr hb')
theorem old_wide {w : World} {rb mb m p : Nat} {g : Int → Nat} {f : RS} (h : RAt (Old m p w) w rb mb g f) (hm : m ≤ w.heap.size) : RAt (fun b => m ≤ b) w rb mb g f :=
  h.same (Nat.le_refl _) (fun _ _ _ => rfl) (fun b hb' hS => by rcases hS with h | h <;> omega) (fun b hb' => by omega)
theorem old_lt {w : World} {rb mb m p : Nat} {g : Int → Nat} {f : RS} (h : RAt (Old m p w) w rb mb g f) : rb < p ∧ mb < p ∧ ∀ j mj, f j = some mj → g j < p := by
  refine ⟨?_, ?_, fun j mj e => ?_⟩
  · have := h.rbS; have := h.rbz; simp only [Old] at *; omega
  · have := h.mbS; have := h.mbz; simp only [Old] at *; omega
  · have := h.memS j mj e; simp only [Old] at *; omega
/-- The first j behind the member of the k-th place. -/
def sucs (ids s : List Int) (k j : Nat) : List Int := (List.range j).map fun t : Nat => atI ids s ((k : Int) + (t : Int) + 1)
theorem sucs_three (ids s : List Int) (k : Nat) : sucs ids s k 3 = (memAt ids s k).succ := by
  simp [sucs, memAt, List.range_succ, Int.add_assoc]
/-- A member more: its block was made, its list is of memory of its own, the map was stored into. -/
theorem new_member {wr W w8 : World} {m p b rb mb : Nat} {g : Int → Nat} {f : RS} {n : Int} {M : Mem} {sv : Value} (h : RAt (Old m p wr) wr rb mb g f) (hm : m ≤ p) (hp : p < wr.heap.size) (hn : f n = none)
    (hB : RowKit.Below wr.heap.size wr W) (hb1 : wr.heap.size ≤ b) (hb2 : b < W.heap.size) (hd : Dom (setM f n M))
    (hfz : ∀ o, W.frozen? ⟨b, o, none⟩ = false) (c0 : W.cell? ⟨b, 0, none⟩ = some (.bool M.live)) (c1 : W.cell? ⟨b, 1, none⟩ = some (.int .u64 M.id)) (c2 : W.cell? ⟨b, 2, none⟩ = some (.int .i64 M.pred)) (c3 : W.cell? ⟨b, 3, none⟩ = some sv)
    (hsv : wr.ownsRow (p + 1) 3 1 sv M.succ.length (M.succ.map (Value.int .i64)))
    (hmap : MapAt Tryz.prog 3 w8 mb (cntM f + 1) (setF (ptrM f g) n b)) (hg : W.grownBy w8 (some mb)) : RAt (fun b => m ≤ b) w8 rb mb (fun j => if j = n then b else g j) (setM f n M) := by
  obtain ⟨l1, l2, l3⟩ := old_lt h
  have hw := old_wide h (by omega)
  have hsz : W.heap.size ≤ w8.heap.size := hg.size
  have hne : b ≠ mb := by omega
  have hfar : ∀ c, c < W.heap.size → c ≠ mb → w8.heap[c]? = W.heap[c]? := fun c hc hcm => hg.block c hc (by simpa using hcm)
  refine hw.add hn (by have := hB.size; omega) hb1 (by omega) (fun c hc hcm => ?_) hd (fun o => ?_) hmap ((World.cell?_of_block (hfar b hb2 hne)).trans c0) ((World.cell?_of_block (hfar b hb2 hne)).trans c1) ((World.cell?_of_block (hfar b hb2 hne)).trans c2) ((World.cell?_of_block (hfar b hb2 hne)).trans c3) ?_
  · rw [hfar c (by have := hB.size; omega) hcm, hB.block c hc]
  · exact (World.frozen?_of_block (hfar b hb2 hne)).trans (hfz o)
  · have h1 := own_ints hsv
    obtain ⟨a, cap, rfl, k1, k2, k3, k4⟩ := h1
    refine ⟨a, cap, rfl, k1, k2, k3, k4.imp id ?_⟩
    rintro ⟨q, off, rfl, q1, q2, q3⟩
    have hqW : q < W.heap.size := Nat.lt_of_lt_of_le q2 hB.size
    refine ⟨q, off, rfl, ⟨by omega, by omega, by omega, by omega, fun j mj e => by have := l3 j mj e; omega⟩, by omega, fun i hi => ?_⟩
    rw [World.cell?_of_block (hfar q hqW (by omega)), hB.cell (p := ⟨q, off + i, none⟩) q2]
    exact q3 i hi
def NewPost (w : World) (ids : List Int) (e : Ending) (w' : World) : Prop :=
  ∃ rb mb g, e = .returned (.tuple #[.pointer (some ⟨rb, 0, none⟩), .nilIface]) ∧ RAt (fun b => w.heap.size ≤ b) w' rb mb g (newF ids (setI ids) 4) ∧ RowKit.Below w.heap.size w w'
def NotPost (w : World) (c : Int) (e : Ending) (w' : World) : Prop := ∃ v, e = .returned (.tuple #[.pointer none, v]) ∧ IsErr w.heap.size w' v c ∧ RowKit.Below w.heap.size w w'
set_option maxRecDepth 100000 in
set_option maxHeartbeats 8000000 in
theorem new_yes (w : World) (v : Value) (ids : List Int) (hi : SlAt 0 (fun i => .int .u64 (nth ids i)) ids.length w v) (h4 : ids.length = 4) (hs4 : (setI ids).length = 4) (hF : Four ids (setI ids)) :
    Calls Tryz.prog 38 #[v] w (NewPost w ids) := by
  obtain ⟨i0, hi0, hz0, hz1, hz2⟩ : ∃ i0, Tryz.prog.info? 3 = some i0 ∧ i0.zero = some (Value.int .i64 0) ∧ i0.size = 1 ∧ i0.bytes = 8 := ⟨intI, intI_at, by kernel_rfl, by kernel_rfl, by kernel_rfl⟩
  obtain ⟨a0, q0, rfl, _, _⟩ := hi.slice
  have HI := Lib.hid hi
  have CS := Lib.hid (fun wr (hb : Below w.heap.size w wr) => sorted_any wr _ ids (hi.below hb) (by omega))
  have HP : Hid (∀ e w' rb mb g, e = .returned (.tuple #[.pointer (some ⟨rb, 0, none⟩), .nilIface]) → RAt (fun b => w.heap.size ≤ b) w' rb mb g (newF ids (setI ids) 4) → RowKit.Below w.heap.size w w' → NewPost w ids e w') :=
    fun e w' rb mb g h1 h2 h3 => ⟨rb, mb, g, h1, h2, h3⟩
  obtain ⟨s, hs⟩ : ∃ s, s = setI ids := ⟨_, rfl⟩
  rw [← hs] at CS hs4 hF HP
  have HF := Lib.hid hF
  rw [h4] at CS ⊢
  rw [hs4] at CS
  clear hi hF hs
  have hmk : ∀ (w : World), (Instr.makeMap 130 none).run Tryz.prog w = .ok (.map (some w.heap.size)) (w.alloc (.map #[] 0)) := fun w => run_makeMap 130 w
  go_enter Tryz.func38, Tryz.ntmps38
  go_wp2_with fail
  refine (CS.out _ (by (repeat (first | exact Below.refl _ _ | (with_reducible assumption) | (with_reducible refine bel_later ?_ _) | (with_reducible refine bel_alloc ?_ _) | (with_reducible refine bel_drew ?_) | (with_reducible refine bel_drewN ?_ _) | (with_reducible refine bel_set ?_ (by first | (simp; done) | (simp; omega) | (dsimp only; omega)) _))))).mono ?_
  rintro e w1 ⟨v1, rfl, hs1, hB1⟩
  obtain ⟨a1, q1, rfl, _⟩ := hs1.slice
  have k0 : w1.cell? ⟨w.heap.size, 0, none⟩ = some (.slice a0 4 q0) := by rw [hB1.cell (by simp)]; simp [go_sem]
  have zz : w.heap.size < w1.heap.size := by have := hB1.size; simp at this; omega
  have S1 := Lib.hid hs1
  have B1 : Below w.heap.size w w1 := bel_below (bel_alloc (Below.refl _ _) _) hB1
  clear hs1 hB1
  have R0 := Lib.hid (ring_none (w1.alloc (.cells #[.slice a1 4 q1] 22)) 132 (fun b => w1.heap.size + 1 ≤ b) (fun b hb => by simpa using hb))
  go_wp2_with fail
  obtain ⟨w3, hw3⟩ : ∃ w3, w3 = ((w1.alloc (.cells #[.slice a1 4 q1] 22)).alloc (.map #[] 0)).alloc (.cells #[.map (some (w1.heap.size + 1))] 132) := ⟨_, rfl⟩
  have R1 : Hid (RAt (fun b => w1.heap.size + 1 ≤ b) w3 (w1.heap.size + 1 + 1) (w1.heap.size + 1) (fun _ => 0) (newF ids s 0)) := by
    have := R0.out
    simp at this
    rw [hw3]
    exact this
  have B3 : Below w1.heap.size w1 w3 := by rw [hw3]; (repeat (first | exact Below.refl _ _ | (with_reducible assumption) | (with_reducible refine bel_later ?_ _) | (with_reducible refine bel_alloc ?_ _) | (with_reducible refine bel_drew ?_) | (with_reducible refine bel_drewN ?_ _) | (with_reducible refine bel_set ?_ (by first | (simp; done) | (simp; omega) | (dsimp only; omega)) _)))
  have kI : w3.cell? ⟨w.heap.size, 0, none⟩ = some (.slice a0 4 q0) := by rw [B3.cell (by exact zz)]; exact k0
  have kS : w3.cell? ⟨w1.heap.size, 0, none⟩ = some (.slice a1 4 q1) := by rw [hw3]; simp [go_sem]
  have z3 : w1.heap.size + 3 = w3.heap.size := by rw [hw3]; simp
  rw [← hw3]
  clear hw3 R0
  have KB := Lib.hid (fun wr (hK : RowKit.Below (w1.heap.size + 1) w3 wr) => (B3.trans (hK.mono (by omega)) : Below w1.heap.size w1 wr))
  have CAT := Lib.hid (fun wr (hK : RowKit.Below (w1.heap.size + 1) w3 wr) (i : Int) (h0 : -1 ≤ i) (h10 : i ≤ 10) => at_any wr w.heap.size w1.heap.size ids s (.slice a0 4 q0) (.slice a1 4 q1)
    ((World.cell?_of_block (hK.block w.heap.size (by omega))).trans kI) ((World.cell?_of_block (hK.block w1.heap.size (by omega))).trans kS) (by have := hK.size; omega) (by have := hK.size; omega)
    (by have := HI.out.below (bel_below B1 (KB.out wr hK)); rwa [h4] at this ⊢) (by have := (S1.out.base (Nat.zero_le _)).below (KB.out wr hK); rwa [hs4]) h4 hs4 i h0 h10)
  go_loopw [7, 8, 9, 10, 27] (fun _ _ _ _ i wr => ∃ (k : Nat) (g : Int → Nat), k ≤ 4 ∧ i = .int .i64 k ∧ Hid (RAt (fun b => w1.heap.size + 1 ≤ b) wr (w1.heap.size + 1 + 1) (w1.heap.size + 1) g (newF ids s k)) ∧ Hid (RowKit.Below (w1.heap.size + 1) w3 wr)) (fun _ _ _ _ i _ => 4 - (intOf i).toNat)
  case atStart => exact ⟨0, _, by omega, rfl, R1.out, RowKit.Below.refl _ _⟩
  case round =>
    obtain ⟨k, g, hk, rfl, hR, hK⟩ := hrel
    by_cases hlt : k < 4
    · obtain ⟨b, off, rfl, _, hb, hc⟩ := S1.out.at k (by omega) wr (KB.out wr hK.out)
      have ca := Lib.hid (CAT.out wr hK.out ((k : Int) - 1) (by omega) (by omega))
      go_wp2_with fail
      refine ca.out.mono ?_
      rintro e w4 ⟨rfl, hB4⟩
      have K4 : Hid (RowKit.Below (w1.heap.size + 1) w3 w4) := hK.out.trans (hB4.mono (by have := hK.out.size; omega))
      have R4 := Lib.hid (hR.out.below hB4)
      go_wp2_with fail
      obtain ⟨w5, hw5⟩ : ∃ w5, w5 = w4.alloc (.cells #[.int .u64 (nth s k), .int .i64 (atI ids s ((k : Int) - 1)), .slice none 0 0] 67) := ⟨_, rfl⟩
      have P5 : Hid (w5.cell? ⟨w4.heap.size, 0, none⟩ = some (.int .u64 (nth s k)) ∧ w5.cell? ⟨w4.heap.size, 1, none⟩ = some (.int .i64 (atI ids s ((k : Int) - 1))) ∧ w5.cell? ⟨w4.heap.size, 2, none⟩ = some (.slice none 0 0) ∧ (∀ o, w5.frozen? ⟨w4.heap.size, o, none⟩ = false) ∧ w4.heap.size < w5.heap.size) := by
        show _ ∧ _
        rw [hw5]
        refine ⟨by simp [go_sem], by simp [go_sem], by simp [go_sem], fun o => by simp [go_sem], by simp⟩
      have K5 : Hid (RowKit.Below (w1.heap.size + 1) w3 w5) := by rw [hw5]; exact K4.out.alloc (by have := K4.out.size; omega) _
      have R5 : Hid (RAt (Old (w1.heap.size + 1) w4.heap.size w5) w5 (w1.heap.size + 1 + 1) (w1.heap.size + 1) g (newF ids s k)) := by
        rw [hw5]
        exact R4.out.same (by simp) (fun b hb' _ => (bel_alloc (RowKit.Below.refl _ w4) _).block b hb') (fun b hb' hS => Or.inl ⟨hS, hb'⟩) (fun b hb' => Or.inr hb')
      rw [← hw5]
      clear hw5
      obtain ⟨p, hp⟩ : ∃ p, p = w4.heap.size := ⟨_, rfl⟩
      rw [← hp] at P5 R5 ⊢
      have hpz : w1.heap.size + 3 ≤ p := by have := K4.out.size; omega
      clear hp
      go_loopw [10, 38] (fun _ i wr => ∃ (j : Nat) (sv : Value), j ≤ 3 ∧ i = .int .i64 j ∧ Hid (wr.cell? ⟨p, 0, none⟩ = some (.int .u64 (nth s k)) ∧ wr.cell? ⟨p, 1, none⟩ = some (.int .i64 (atI ids s ((k : Int) - 1))) ∧ wr.cell? ⟨p, 2, none⟩ = some sv ∧ (∀ o, wr.frozen? ⟨p, o, none⟩ = false) ∧ p < wr.heap.size) ∧
          Hid (wr.ownsRow (p + 1) 3 1 sv j ((sucs ids s k j).map (Value.int .i64))) ∧ Hid (RAt (Old (w1.heap.size + 1) p wr) wr (w1.heap.size + 1 + 1) (w1.heap.size + 1) g (newF ids s k)) ∧ Hid (RowKit.Below (w1.heap.size + 1) w3 wr)) (fun _ i _ => 3 - (intOf i).toNat)
      case atStart => exact ⟨0, _, by omega, rfl, P5.out, World.ownsRow_nil _ _ _ _, R5.out, K5.out⟩
      case round =>
        obtain ⟨j, sv, hj, rfl, hP, hO, hR2, hK2⟩ := hrel
        by_cases hj3 : j < 3
        · obtain ⟨c0, c1, c2, fz, hpw⟩ := hP.out
          have ca2 := Lib.hid (fun wr' (hK' : RowKit.Below (w1.heap.size + 1) w3 wr') => CAT.out wr' hK' ((k : Int) + (j : Int) + 1) (by omega) (by omega))
          go_wp2_with fail
          refine wp_region_tame 7 9 (fun w' => ∃ x : Later wr, w' = x.world) (by kernel_rfl) (by kernel_rfl) ⟨⟨{ wr with drawn := wr.drawn + 1 }, (RowKit.Below.refl _ _).drew⟩, rfl⟩ ?_ ?_
          · intro d v c a w h
            cases d <;> exact h
          · simp only [List.take_succ_cons, List.take_zero, List.drop_succ_cons, List.drop_zero]
            repeat (refine wpTame_step (fun K hK => ?_); go_simp; refine hK _ ?_; clear hK K)
            refine wpTame_nil ?_
            refine wpSeqC_step (by decide) (fun R hR => ?_)
            go_wp2_with fail
            refine (ca2.out _ hK2.out.drew).mono ?_
            rintro e w6 ⟨rfl, hB6⟩
            have B6 : RowKit.Below wr.heap.size wr w6 := (bel_drew (RowKit.Below.refl _ _)).trans (hB6.mono (by simp))
            go_wp2_with fail
            refine hR _ _ ⟨⟨w6, B6⟩, rfl⟩ ?_
            clear hR R
            refine wpSeqC_step (by decide) (fun R hR => ?_)
            go_wp2_with fail
            refine hR _ _ ⟨⟨_, bel_alloc B6 _⟩, rfl⟩ ?_
            clear hR R
            refine wpSeqC_list (by decide) ?_
            have O6 := Lib.hid (owns_below hO.out B6)
            have hp6 : p < w6.heap.size := Nat.lt_of_lt_of_le hpw B6.size
            go_wp2_with (at_builtin; refine wpList_app rfl _ _ 36 rfl (p + 1) 3 i0 (.int .i64 0) 8 Tryz.underlying36 hi0 hz0 hz1 hz2 rfl _ j _ rfl (O6.out.alloc _) 0 _ 1 _ rfl (sl_new _ .i64 [atI ids s ((k : Int) + (j : Int) + 1)] 3 _ 1 rfl rfl (by simp [maxLen])) (fun _ => rfl) ?qc1 ?qc2 ?qc3 ?_)
            case qc1 => simp only [maxLen]; omega
            case qc2 => omega
            case qc3 => simp; omega
            intro v7 w7 ho7 hg7
            have hown : ∀ q, sv.ownBlock = some q → p + 1 ≤ q := fun q hq => (O6.out.lt q hq).1
            have B6a := bel_alloc B6 (.cells [Value.int IntKind.i64 (atI ids s ((k : Int) + (j : Int) + 1))].toArray 3)
            have hfar : ∀ b, b ≤ p → w7.heap[b]? = wr.heap[b]? := fun b hb' => by
              rw [hg7.block b (by simp; omega) (fun e => by have := hown b e.symm; omega)]
              exact B6a.block b (by omega)
            have hp7 : p < w7.heap.size := by have := hg7.size; simp at this; omega
            have d0 := (World.cell?_of_block (a := ⟨p, 0, none⟩) (hfar p (Nat.le_refl _))).trans c0
            have d1 := (World.cell?_of_block (a := ⟨p, 1, none⟩) (hfar p (Nat.le_refl _))).trans c1
            have d2 := (World.cell?_of_block (a := ⟨p, 2, none⟩) (hfar p (Nat.le_refl _))).trans c2
            have dz : ∀ o, w7.frozen? ⟨p, o, none⟩ = false := fun o => (World.frozen?_of_block (hfar p (Nat.le_refl _))).trans (fz o)
            have dz2 := dz 2
            have DZ := Lib.hid dz
            have hs7 := own_slAt ho7
            obtain ⟨a7, q7, rfl, _⟩ := hs7.slice
            have O7 := Lib.hid ho7
            have R7 := Lib.hid (old_blocks hR2.out (w' := w7) (by have := hg7.size; have := B6a.size; omega) (fun b hb' => hfar b (by omega)))
            have K7 : Hid (RowKit.Below (w1.heap.size + 1) w3 w7) := (hK2.out.trans (B6a.mono (by have := hK2.out.size; omega))).grown hg7 (by have := hK2.out.size; have := B6a.size; omega) (fun q hq => by have := hown q hq; omega)
            clear ho7 hg7 hs7 c0 c1 c2 hfar dz B6a fz
            go_wp2_with fail
            go_roundw
            case rel =>
              refine ⟨j + 1, _, by omega, by go_num, ⟨?_, ?_, set_at d2, fun o => by rw [World.frozen?_setCell]; exact DZ.out o, by rw [size_set]; exact hp7⟩, ?_, ?_, ?_⟩
              · rw [cell_set_off _ _ _ _ _ (by decide)]; exact d0
              · rw [cell_set_off _ _ _ _ _ (by decide)]; exact d1
              · refine owns_blocks (w := w7) ?_ (fun g hg _ => Below.heap_setCell _ _ _ _ (by dsimp only; omega))
                have := O7.out
                simpa [sucs, List.range_succ, nth] using this
              · exact old_blocks R7.out (by rw [size_set]; exact Nat.le_refl _) (fun b hb' => Below.heap_setCell _ _ _ _ (by dsimp only; omega))
              · exact K7.out.setCell (by dsimp only; omega) _
            case measure => go_light; simp [intOf]; omega
        · obtain rfl : j = 3 := by omega
          obtain ⟨c0, c1, c2, fz, hpw⟩ := hP.out
          have hold := Lib.hid (newF_old HF.out k hk k (Nat.le_refl _) hlt)
          have hdom : Hid (Dom (setM (newF ids s k) (atI ids s k) (memAt ids s k))) := newF_dom HF.out (k + 1) (by omega)
          have hat := HF.out.at (k : Int)
          have oka : okInt (atI ids s k) := okInt_dom (by omega) (by omega)
          have R2w := Lib.hid (old_wide hR2.out (by omega))
          have r0 := hR2.out.root
          have rz := hR2.out.rbz
          have ca2 := Lib.hid (fun wr' (hK' : RowKit.Below (w1.heap.size + 1) w3 wr') => CAT.out wr' hK' (k : Int) (by omega) (by omega))
          obtain ⟨la, lc, rfl, _⟩ := (own_slAt hO.out).slice
          clear hat
          go_wp2_with fail
          refine wp_region_heads [0, 1, 2, 3, 4, 5, 7, 8] 10 (fun w' => ∃ x : Later wr, w' = x.world) (by kernel_rfl) (by kernel_rfl) ⟨⟨{ wr with drawn := wr.drawn + 1 }, (RowKit.Below.refl _ _).drew⟩, rfl⟩ ?_ ?_
          · intro d v c a w h
            cases d <;> exact h
          · simp only [headOps]
            repeat (refine wpTame_step (fun K hK => ?_); go_simp; refine hK _ ?_; clear hK K)
            refine wpTame_nil ?_
            refine wpAnyC_step (f := 2) [6, 9] (by kernel_rfl) rfl rfl (fun i hi => ?_)
            simp only [List.mem_cons, List.not_mem_nil, or_false] at hi
            rcases hi with rfl | rfl
            · refine ⟨_, rfl, fun R hR => ?_⟩
              go_wp2_with fail
              refine (ca2.out _ hK2.out.drew).mono ?_
              rintro e w6 ⟨rfl, hB6⟩
              have B6 : RowKit.Below wr.heap.size wr w6 := (bel_drew (RowKit.Below.refl _ _)).trans (hB6.mono (by simp))
              go_wp2_with fail
              refine hR _ _ ⟨⟨w6, B6⟩, rfl⟩ ?_
              clear hR R
              refine wpAnyC_step (f := 1) [9] (by kernel_rfl) rfl rfl (fun i hi => ?_)
              simp only [List.mem_cons, List.not_mem_nil, or_false] at hi
              subst hi
              refine ⟨_, rfl, fun R hR => ?_⟩
              go_wp2_with fail
              obtain ⟨W8, hW8⟩ : ∃ x, x = ((w6).alloc (.cells #[.bool true, .int .u64 (nth s k), .int .i64 (atI ids s ((k : Int) - 1)), .slice la 3 lc] 134)) := ⟨_, rfl⟩
              have b0 : W8.cell? ⟨(w6).heap.size, 0, none⟩ = some (.bool true) := by rw [hW8]; simp [go_sem]
              have b1 : W8.cell? ⟨(w6).heap.size, 1, none⟩ = some (.int .u64 (nth s k)) := by rw [hW8]; simp [go_sem]
              have b2 : W8.cell? ⟨(w6).heap.size, 2, none⟩ = some (.int .i64 (atI ids s ((k : Int) - 1))) := by rw [hW8]; simp [go_sem]
              have b3 : W8.cell? ⟨(w6).heap.size, 3, none⟩ = some (.slice la 3 lc) := by rw [hW8]; simp [go_sem]
              have bfz : ∀ o, W8.frozen? ⟨(w6).heap.size, o, none⟩ = false := fun o => by rw [hW8]; simp [go_sem]
              have hbb2 : (w6).heap.size < W8.heap.size := by rw [hW8]; simp
              rw [← hW8]
              have B8 : RowKit.Below wr.heap.size wr W8 := by rw [hW8]; exact bel_alloc B6 _
              have hbb1 := B6.size
              obtain ⟨bb, hbb⟩ : ∃ x, x = w6.heap.size := ⟨_, rfl⟩
              rw [← hbb] at b0 b1 b2 b3 bfz hbb1 hbb2 ⊢
              refine hR _ _ ⟨⟨W8, B8⟩, rfl⟩ ?_
              clear hW8 hbb hB6 B6
              clear hR R
              have hst := (R2w.out.below B8).map.store keyInt Tryz.underlying3 Tryz.underlying130 (by have := cntM_le (newF ids s k); simp only [maxLen]; omega) (atI ids s k) oka bb
              obtain ⟨w9, hrun, hmp, hg9⟩ := hst
              have hrun' : (Instr.mapUpdate 130 (.map (some (w1.heap.size + 1))) (.int .i64 (atI ids s k)) (.pointer (some ⟨bb, 0, none⟩))).run Tryz.prog W8 = .ok () w9 := hrun
              have RN := Lib.hid (new_member (M := memAt ids s k) hR2.out (by omega) hpw hold.out B8 hbb1 hbb2 hdom.out bfz b0 b1 b2 b3 (by have := hO.out; rw [sucs_three] at this; exact this) hmp hg9)
              have B9 : Hid (RowKit.Below (w1.heap.size + 1) w3 w9) := (hK2.out.trans (B8.mono (by have := hK2.out.size; omega))).grown hg9 (by have := hK2.out.size; have := B8.size; omega) (fun q hq => by cases hq; omega)
              clear hmp hg9 hrun
              refine wpAnyC_end (k := 10) (by decide) rfl rfl (by kernel_rfl) ?_
              go_wp2_with fail
              go_roundw
              case rel => go_light; exact ⟨k + 1, _, by omega, by go_num, RN.out, B9.out⟩
              case measure => go_light; simp [intOf]; omega
            · refine ⟨_, rfl, fun R hR => ?_⟩
              go_wp2_with fail
              obtain ⟨W8, hW8⟩ : ∃ x, x = ((wr).alloc (.cells #[.bool true, .int .u64 (nth s k), .int .i64 (atI ids s ((k : Int) - 1)), .slice la 3 lc] 134)).drew := ⟨_, rfl⟩
              have b0 : W8.cell? ⟨(wr).heap.size, 0, none⟩ = some (.bool true) := by rw [hW8]; simp [go_sem]
              have b1 : W8.cell? ⟨(wr).heap.size, 1, none⟩ = some (.int .u64 (nth s k)) := by rw [hW8]; simp [go_sem]
              have b2 : W8.cell? ⟨(wr).heap.size, 2, none⟩ = some (.int .i64 (atI ids s ((k : Int) - 1))) := by rw [hW8]; simp [go_sem]
              have b3 : W8.cell? ⟨(wr).heap.size, 3, none⟩ = some (.slice la 3 lc) := by rw [hW8]; simp [go_sem]
              have bfz : ∀ o, W8.frozen? ⟨(wr).heap.size, o, none⟩ = false := fun o => by rw [hW8]; simp [go_sem]
              have hbb2 : (wr).heap.size < W8.heap.size := by rw [hW8]; simp
              rw [← hW8]
              have B7 : RowKit.Below wr.heap.size wr W8 := by rw [hW8]; exact bel_drew (bel_alloc (RowKit.Below.refl _ _) _)
              obtain ⟨bb, hbb⟩ : ∃ x, x = wr.heap.size := ⟨_, rfl⟩
              have hbb1 : wr.heap.size ≤ bb := by omega
              rw [← hbb] at b0 b1 b2 b3 bfz hbb2
              rw [← hbb]
              refine hR _ _ ⟨⟨W8, B7⟩, rfl⟩ ?_
              clear hR R hW8 hbb
              refine wpAnyC_step (f := 1) [6] (by kernel_rfl) rfl rfl (fun i hi => ?_)
              simp only [List.mem_cons, List.not_mem_nil, or_false] at hi
              subst hi
              refine ⟨_, rfl, fun R hR => ?_⟩
              go_wp2_with fail
              refine (ca2.out _ (hK2.out.trans (B7.mono (by have := hK2.out.size; omega)))).mono ?_
              rintro e w6 ⟨rfl, hB6⟩
              have c0' := (hB6.cell (p := ⟨bb, 0, none⟩) hbb2).trans b0
              have c1' := (hB6.cell (p := ⟨bb, 1, none⟩) hbb2).trans b1
              have c2' := (hB6.cell (p := ⟨bb, 2, none⟩) hbb2).trans b2
              have c3' := (hB6.cell (p := ⟨bb, 3, none⟩) hbb2).trans b3
              have cfz : ∀ o, w6.frozen? ⟨bb, o, none⟩ = false := fun o => (hB6.frozen (p := ⟨bb, o, none⟩) hbb2).trans (bfz o)
              have hbb3 : bb < w6.heap.size := Nat.lt_of_lt_of_le hbb2 hB6.size
              have B8' : RowKit.Below wr.heap.size wr w6 := B7.trans (hB6.mono B7.size)
              clear b0 b1 b2 b3 bfz hbb2 B7 hB6
              go_wp2_with fail
              refine hR _ _ ⟨⟨w6, B8'⟩, rfl⟩ ?_
              obtain ⟨W8, hW8, b0, b1, b2, b3, bfz, hbb2, B8⟩ : ∃ W8, W8 = w6 ∧ W8.cell? ⟨bb, 0, none⟩ = some (.bool true) ∧ W8.cell? ⟨bb, 1, none⟩ = some (.int .u64 (nth s k)) ∧ W8.cell? ⟨bb, 2, none⟩ = some (.int .i64 (atI ids s ((k : Int) - 1))) ∧ W8.cell? ⟨bb, 3, none⟩ = some (.slice la 3 lc) ∧ (∀ o, W8.frozen? ⟨bb, o, none⟩ = false) ∧ bb < W8.heap.size ∧ RowKit.Below wr.heap.size wr W8 := ⟨w6, rfl, c0', c1', c2', c3', cfz, hbb3, B8'⟩
              rw [← hW8]
              clear hW8 c0' c1' c2' c3' cfz hbb3 B8'
              clear hR R
              have hst := (R2w.out.below B8).map.store keyInt Tryz.underlying3 Tryz.underlying130 (by have := cntM_le (newF ids s k); simp only [maxLen]; omega) (atI ids s k) oka bb
              obtain ⟨w9, hrun, hmp, hg9⟩ := hst
              have hrun' : (Instr.mapUpdate 130 (.map (some (w1.heap.size + 1))) (.int .i64 (atI ids s k)) (.pointer (some ⟨bb, 0, none⟩))).run Tryz.prog W8 = .ok () w9 := hrun
              have RN := Lib.hid (new_member (M := memAt ids s k) hR2.out (by omega) hpw hold.out B8 hbb1 hbb2 hdom.out bfz b0 b1 b2 b3 (by have := hO.out; rw [sucs_three] at this; exact this) hmp hg9)
              have B9 : Hid (RowKit.Below (w1.heap.size + 1) w3 w9) := (hK2.out.trans (B8.mono (by have := hK2.out.size; omega))).grown hg9 (by have := hK2.out.size; have := B8.size; omega) (fun q hq => by cases hq; omega)
              clear hmp hg9 hrun
              refine wpAnyC_end (k := 10) (by decide) rfl rfl (by kernel_rfl) ?_
              go_wp2_with fail
              go_roundw
              case rel => go_light; exact ⟨k + 1, _, by omega, by go_num, RN.out, B9.out⟩
              case measure => go_light; simp [intOf]; omega
    · obtain rfl : k = 4 := by omega
      go_wp2_with fail
      go_ret2
      exact HP.out _ _ _ _ _ rfl (hR.out.same (Nat.le_refl _) (fun _ _ _ => rfl) (fun b _ hS => by omega) (fun b hb' => by have := hK.out.size; omega)) (B1.trans ((B3.trans (hK.out.mono (by omega))).mono (by omega)))

/-! ### What New refuses -/
theorem new_no1 (w : World) (v : Value) (ids : List Int) (hi : SlAt 0 (fun i => .int .u64 (nth ids i)) ids.length w v) (h4 : ids.length ≠ 4) : Calls Tryz.prog 38 #[v] w (NotPost w 1) := by
  obtain ⟨a0, q0, rfl, h1, h2⟩ := hi.slice
  have hne : (((ids.length : Int) != 4) : Bool) = true := by simp; omega
  have hm : ids.length ≤ 9223372036854775807 := by unfold maxLen at h2; omega
  clear hi
  go_enter Tryz.func38, Tryz.ntmps38
  go_wp2_with fail
  refine (fault_any _ _).mono ?_
  rintro e w' ⟨v, rfl, hE, hB⟩
  go_wp2_with fail
  go_ret2
  obtain ⟨b, rfl, e1, e2, e3⟩ := hE
  exact ⟨_, rfl, ⟨b, rfl, by simp at e1; omega, e2, e3⟩, bel_below (bel_alloc (RowKit.Below.refl _ _) _) hB⟩
theorem new_no2 (w : World) (v : Value) (ids : List Int) (hi : SlAt 0 (fun i => .int .u64 (nth ids i)) ids.length w v) (h4 : ids.length = 4) (hs4 : (setI ids).length ≠ 4) : Calls Tryz.prog 38 #[v] w (NotPost w 8) := by
  obtain ⟨a0, q0, rfl, h1, h2⟩ := hi.slice
  have CS := Lib.hid (fun wr (hb : Below w.heap.size w wr) => sorted_any wr _ ids (hi.below hb) (by omega))
  obtain ⟨s, hs⟩ : ∃ s, s = setI ids := ⟨_, rfl⟩
  have hle := setI_len ids
  rw [← hs] at CS hs4 hle
  rw [h4] at CS hle ⊢
  have hne : (((s.length : Int) != 4) : Bool) = true := by simp; omega
  clear hi hs
  go_enter Tryz.func38, Tryz.ntmps38
  go_wp2_with fail
  refine (CS.out _ (by (repeat (first | exact Below.refl _ _ | (with_reducible assumption) | (with_reducible refine bel_later ?_ _) | (with_reducible refine bel_alloc ?_ _) | (with_reducible refine bel_drew ?_) | (with_reducible refine bel_drewN ?_ _) | (with_reducible refine bel_set ?_ (by first | (simp; done) | (simp; omega) | (dsimp only; omega)) _))))).mono ?_
  rintro e w1 ⟨v1, rfl, hs1, hB1⟩
  obtain ⟨a1, q1, rfl, _⟩ := hs1.slice
  have B1 : Below w.heap.size w w1 := bel_below (bel_alloc (Below.refl _ _) _) hB1
  clear hs1 hB1
  go_wp2_with fail
  refine (fault_any _ _).mono ?_
  rintro e w' ⟨v, rfl, hE, hB⟩
  go_wp2_with fail
  go_ret2
  obtain ⟨b, rfl, e1, e2, e3⟩ := hE
  have hB1 := B1.size
  exact ⟨_, rfl, ⟨b, rfl, by simp at e1; omega, e2, e3⟩, bel_below (bel_alloc B1 _) hB⟩
theorem setI_nodup {l : List Int} (h : (setI l).length = l.length) : l.Nodup := by
  refine List.pairwise_iff_getElem.2 fun i j hi hj hij e => ?_
  have h1 : setI (l.eraseIdx i) = setI l := up_uniq (setI_up _) (setI_up _) fun x => by
    rw [mem_setI, mem_setI, List.mem_eraseIdx_iff_getElem]
    constructor
    · rintro ⟨k, hk, _, rfl⟩; exact List.getElem_mem hk
    · intro hx
      obtain ⟨k, hk, rfl⟩ := List.getElem_of_mem hx
      by_cases hki : k = i
      · subst hki; exact ⟨j, hj, by omega, e.symm⟩
      · exact ⟨k, hk, hki, rfl⟩
  have h2 := setI_len (l.eraseIdx i)
  rw [h1, List.length_eraseIdx_of_lt hi] at h2
  omega
theorem four_of {ids : List Int} (h4 : ids.length = 4) (hs : (setI ids).length = 4) (hp : ∀ x ∈ ids, isPlace x) : Four ids (setI ids) :=
  ⟨h4, hs, setI_nodup (by omega), setI_up ids, fun x => mem_setI, hp⟩
/-- What the places are asked: four, of which none is another's. -/
def fourB (ids : List Int) : Bool := ids.length == 4 && (setI ids).length == 4
def AskPost (w : World) (ids : List Int) (e : Ending) (w' : World) : Prop := if fourB ids = true then NewPost w ids e w' else NotPost w (if ids.length = 4 then 8 else 1) e w'
theorem new_any (w : World) (v : Value) (ids : List Int) (hi : SlAt 0 (fun i => .int .u64 (nth ids i)) ids.length w v) (hp : ∀ x ∈ ids, isPlace x) : Calls Tryz.prog 38 #[v] w (AskPost w ids) := by
  by_cases h4 : ids.length = 4
  · by_cases hs : (setI ids).length = 4
    · exact (new_yes w v ids hi h4 hs (four_of h4 hs hp)).mono fun e w' h => by unfold AskPost fourB; simpa [h4, hs] using h
    · exact (new_no2 w v ids hi h4 hs).mono fun e w' h => by unfold AskPost fourB; simpa [h4, hs] using h
  · exact (new_no1 w v ids hi h4).mono fun e w' h => by unfold AskPost fourB; simpa [h4] using h
end Go.Proofs.YtahiahjhpakeiaaGreatDoor
