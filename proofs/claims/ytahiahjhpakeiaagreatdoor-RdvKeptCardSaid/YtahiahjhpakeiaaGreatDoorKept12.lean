/-
  chord.New. chord.Join. chord.Fail. The laws' own answers that the document fixes (awake). Arguments opened; a ring on which all is as it should be. Calls on a ring: what each leaves, as one step; a list of calls, opened. Each call on a ring as one step: the code that it answers, the ring that it leaves.
-/
import Derived.Test.YtahiahjhpakeiaaGreatDoorKept1
import Derived.Test.YtahiahjhpakeiaaGreatDoorKept11
import Derived.Test.YtahiahjhpakeiaaGreatDoorKept2
import Derived.Test.YtahiahjhpakeiaaGreatDoorKept6
import Derived.Deep.AppendLies
import Derived.WideShapes
import Derived.OpenShut
import Derived.Deep.Fields
import Derived.ChangeSame
section
namespace Go.Proofs.YtahiahjhpakeiaaGreatDoor
open Go.RowKit Go.Maps Go.Sort
set_option linter.unusedVariables false
set_option linter.unusedSimpArgs false
attribute [local go_sem] later_cell later_frozen later_lt cell_set_off cell_set_block

/-- A ring of nobody. -/
theorem ring_none (w : World) (T : TypeId) (S : Nat → Prop) (hS : ∀ b, w.heap.size ≤ b → S b) :
    RAt S ((w.alloc (.map #[] 0)).alloc (.cells #[.map (some w.heap.size)] T)) (w.heap.size + 1) w.heap.size (fun _ => 0) (fun _ => none) where
  dom := fun n m e => by cases e
  up := fun b hb => hS b (by simp at hb; omega)
  rbS := hS _ (by omega)
  mbS := hS _ (Nat.le_refl _)
  ne := by omega
  rbz := by simp
  root := by simp [go_sem]
  map := by
    have h := mapAt_new (P := Tryz.prog) (k := 3) w
    have h2 := h.kept (World.grownBy_alloc (w.alloc (.map #[] 0)) (.cells #[.map (some w.heap.size)] T) none) (by simp)
    exact h2
  memS := fun n m e => by cases e
  mem := fun n m e => by cases e
  inj := fun i j m m' e => by cases e

theorem owns_below {w w' : World} {base e n : Nat} {v : Value} {xs : List Value} (h : w.ownsRow base e 1 v n xs) (hb : RowKit.Below w.heap.size w w') : w'.ownsRow base e 1 v n xs := by
  refine ⟨h.1, h.2.imp id ?_⟩
  rintro ⟨g, cap, cur, e1, h1, h2, h3⟩
  exact ⟨g, cap, cur, e1, h1, (hb.block g (Array.getElem?_eq_some_iff.1 h2).1).trans h2, h3⟩
theorem owns_blocks {w w' : World} {base e n : Nat} {v : Value} {xs : List Value} (h : w.ownsRow base e 1 v n xs) (hb : ∀ g, base ≤ g → g < w.heap.size → w'.heap[g]? = w.heap[g]?) : w'.ownsRow base e 1 v n xs := by
  refine ⟨h.1, h.2.imp id ?_⟩
  rintro ⟨g, cap, cur, e1, h1, h2, h3⟩
  exact ⟨g, cap, cur, e1, h1, (hb g h1 (Array.getElem?_eq_some_iff.1 h2).1).trans h2, h3⟩
/-- Blocks from m on that were there ahead of p, and new ones. -/
abbrev Old (m p : Nat) (w : World) (b : Nat) : Prop := (m ≤ b ∧ b < p) ∨ w.heap.size ≤ b
theorem old_blocks {w w' : World} {rb mb m p : Nat} {g : Int → Nat} {f : RS} (h : RAt (Old m p w) w rb mb g f) (hs : w.heap.size ≤ w'.heap.size) (hb : ∀ b, b < p → w'.heap[b]? = w.heap[b]?) : RAt (Old m p w') w' rb mb g f :=
  h.same hs (fun b hb' hS => hb b (by rcases hS with h | h <;> omega)) (fun b hb' hS => by rcases hS with h | h <;> first | exact Or.inl h | omega) (fun b hb' => Or.inr hb')
theorem old_wide {w : World} {rb mb m p : Nat} {g : Int → Nat} {f : RS} (h : RAt (Old m p w) w rb mb g f) (hm : m ≤ w.heap.size) : RAt (fun b => m ≤ b) w rb mb g f :=
  h.same (Nat.le_refl _) (fun _ _ _ => rfl) (fun b hb' hS => by rcases hS with h | h <;> omega) (fun b hb' => by omega)
theorem old_lt {w : World} {rb mb m p : Nat} {g : Int → Nat} {f : RS} (h : RAt (Old m p w) w rb mb g f) : rb < p ∧ mb < p ∧ ∀ j mj, f j = some mj → g j < p := by
  refine ⟨?_, ?_, fun j mj e => ?_⟩
  · have := h.rbS; have := h.rbz; simp only [Old] at *; omega
  · have := h.mbS; have := h.mbz; simp only [Old] at *; omega
  · have := h.memS j mj e; simp only [Old] at *; omega
/-- The first j behind the member of the k-th place. -/
def sucs (ids s : List Int) (k j : Nat) : List Int := (List.range j).map fun t : Nat => atI ids s ((k : Int) + (t : Int) + 1)
theorem sucs_three (ids s : List Int) (k : Nat) : sucs ids s k 3 = (memAt ids s k).succ := by
  simp [sucs, memAt, List.range_succ, Int.add_assoc]
/-- A member more: its block was made, its list is of memory of its own, the map was stored into. -/
theorem new_member {wr W w8 : World} {m p b rb mb : Nat} {g : Int → Nat} {f : RS} {n : Int} {M : Mem} {sv : Value} (h : RAt (Old m p wr) wr rb mb g f) (hm : m ≤ p) (hp : p < wr.heap.size) (hn : f n = none)
    (hB : RowKit.Below wr.heap.size wr W) (hb1 : wr.heap.size ≤ b) (hb2 : b < W.heap.size) (hd : Dom (setM f n M))
    (hfz : ∀ o, W.frozen? ⟨b, o, none⟩ = false) (c0 : W.cell? ⟨b, 0, none⟩ = some (.bool M.live)) (c1 : W.cell? ⟨b, 1, none⟩ = some (.int .u64 M.id)) (c2 : W.cell? ⟨b, 2, none⟩ = some (.int .i64 M.pred)) (c3 : W.cell? ⟨b, 3, none⟩ = some sv)
    (hsv : wr.ownsRow (p + 1) 3 1 sv M.succ.length (M.succ.map (Value.int .i64)))
    (hmap : MapAt Tryz.prog 3 w8 mb (cntM f + 1) (setF (ptrM f g) n b)) (hg : W.grownBy w8 (some mb)) : RAt (fun b => m ≤ b) w8 rb mb (fun j => if j = n then b else g j) (setM f n M) := by
  obtain ⟨l1, l2, l3⟩ := old_lt h
  have hw := old_wide h (by omega)
  have hsz : W.heap.size ≤ w8.heap.size := hg.size
  have hne : b ≠ mb := by omega
  have hfar : ∀ c, c < W.heap.size → c ≠ mb → w8.heap[c]? = W.heap[c]? := fun c hc hcm => hg.block c hc (by simpa using hcm)
  refine hw.add hn (by have := hB.size; omega) hb1 (by omega) (fun c hc hcm => ?_) hd (fun o => ?_) hmap ((World.cell?_of_block (hfar b hb2 hne)).trans c0) ((World.cell?_of_block (hfar b hb2 hne)).trans c1) ((World.cell?_of_block (hfar b hb2 hne)).trans c2) ((World.cell?_of_block (hfar b hb2 hne)).trans c3) ?_
  · rw [hfar c (by have := hB.size; omega) hcm, hB.block c hc]
  · exact (World.frozen?_of_block (hfar b hb2 hne)).trans (hfz o)
  · have h1 := own_ints hsv
    obtain ⟨a, cap, rfl, k1, k2, k3, k4⟩ := h1
    refine ⟨a, cap, rfl, k1, k2, k3, k4.imp id ?_⟩
    rintro ⟨q, off, rfl, q1, q2, q3⟩
    have hqW : q < W.heap.size := Nat.lt_of_lt_of_le q2 hB.size
    refine ⟨q, off, rfl, ⟨by omega, by omega, by omega, by omega, fun j mj e => by have := l3 j mj e; omega⟩, by omega, fun i hi => ?_⟩
    rw [World.cell?_of_block (hfar q hqW (by omega)), hB.cell (p := ⟨q, off + i, none⟩) q2]
    exact q3 i hi
def NewPost (w : World) (ids : List Int) (e : Ending) (w' : World) : Prop :=
  ∃ rb mb g, e = .returned (.tuple #[.pointer (some ⟨rb, 0, none⟩), .nilIface]) ∧ RAt (fun b => w.heap.size ≤ b) w' rb mb g (newF ids (setI ids) 4) ∧ RowKit.Below w.heap.size w w'
def NotPost (w : World) (c : Int) (e : Ending) (w' : World) : Prop := ∃ v, e = .returned (.tuple #[.pointer none, v]) ∧ IsErr w.heap.size w' v c ∧ RowKit.Below w.heap.size w w'
set_option maxRecDepth 100000 in
set_option maxHeartbeats 8000000 in
theorem new_yes (w : World) (v : Value) (ids : List Int) (hi : SlAt 0 (fun i => .int .u64 (nth ids i)) ids.length w v) (h4 : ids.length = 4) (hs4 : (setI ids).length = 4) (hF : Four ids (setI ids)) :
    Calls Tryz.prog 38 #[v] w (NewPost w ids) := by
  obtain ⟨i0, hi0, hz0, hz1, hz2⟩ : ∃ i0, Tryz.prog.info? 3 = some i0 ∧ i0.zero = some (Value.int .i64 0) ∧ i0.size = 1 ∧ i0.bytes = 8 := ⟨intI, intI_at, by kernel_rfl, by kernel_rfl, by kernel_rfl⟩
  obtain ⟨a0, q0, rfl, _, _⟩ := hi.slice
  have HI := Lib.hid hi
  have CS := Lib.hid (fun wr (hb : Below w.heap.size w wr) => sorted_any wr _ ids (hi.below hb) (by omega))
  have HP : Hid (∀ e w' rb mb g, e = .returned (.tuple #[.pointer (some ⟨rb, 0, none⟩), .nilIface]) → RAt (fun b => w.heap.size ≤ b) w' rb mb g (newF ids (setI ids) 4) → RowKit.Below w.heap.size w w' → NewPost w ids e w') :=
    fun e w' rb mb g h1 h2 h3 => ⟨rb, mb, g, h1, h2, h3⟩
  obtain ⟨s, hs⟩ : ∃ s, s = setI ids := ⟨_, rfl⟩
  rw [← hs] at CS hs4 hF HP
  have HF := Lib.hid hF
  rw [h4] at CS ⊢
  rw [hs4] at CS
  clear hi hF hs
  have hmk : ∀ (w : World), (Instr.makeMap 130 none).run Tryz.prog w = .ok (.map (some w.heap.size)) (w.alloc (.map #[] 0)) := fun w => run_makeMap 130 w
  go_enter Tryz.func38, Tryz.ntmps38
  go_wp2_with fail
  refine (CS.out _ (by (repeat (first | exact Below.refl _ _ | (with_reducible assumption) | (with_reducible refine bel_later ?_ _) | (with_reducible refine bel_alloc ?_ _) | (with_reducible refine bel_drew ?_) | (with_reducible refine bel_drewN ?_ _) | (with_reducible refine bel_set ?_ (by first | (simp; done) | (simp; omega) | (dsimp only; omega)) _))))).mono ?_
  rintro e w1 ⟨v1, rfl, hs1, hB1⟩
  obtain ⟨a1, q1, rfl, _⟩ := hs1.slice
  have k0 : w1.cell? ⟨w.heap.size, 0, none⟩ = some (.slice a0 4 q0) := by rw [hB1.cell (by simp)]; simp [go_sem]
  have zz : w.heap.size < w1.heap.size := by have := hB1.size; simp at this; omega
  have S1 := Lib.hid hs1
  have B1 : Below w.heap.size w w1 := bel_below (bel_alloc (Below.refl _ _) _) hB1
  clear hs1 hB1
  have R0 := Lib.hid (ring_none (w1.alloc (.cells #[.slice a1 4 q1] 22)) 132 (fun b => w1.heap.size + 1 ≤ b) (fun b hb => by simpa using hb))
  go_wp2_with fail
  obtain ⟨w3, hw3⟩ : ∃ w3, w3 = ((w1.alloc (.cells #[.slice a1 4 q1] 22)).alloc (.map #[] 0)).alloc (.cells #[.map (some (w1.heap.size + 1))] 132) := ⟨_, rfl⟩
  have R1 : Hid (RAt (fun b => w1.heap.size + 1 ≤ b) w3 (w1.heap.size + 1 + 1) (w1.heap.size + 1) (fun _ => 0) (newF ids s 0)) := by
    have := R0.out
    simp at this
    rw [hw3]
    exact this
  have B3 : Below w1.heap.size w1 w3 := by rw [hw3]; (repeat (first | exact Below.refl _ _ | (with_reducible assumption) | (with_reducible refine bel_later ?_ _) | (with_reducible refine bel_alloc ?_ _) | (with_reducible refine bel_drew ?_) | (with_reducible refine bel_drewN ?_ _) | (with_reducible refine bel_set ?_ (by first | (simp; done) | (simp; omega) | (dsimp only; omega)) _)))
  have kI : w3.cell? ⟨w.heap.size, 0, none⟩ = some (.slice a0 4 q0) := by rw [B3.cell (by exact zz)]; exact k0
  have kS : w3.cell? ⟨w1.heap.size, 0, none⟩ = some (.slice a1 4 q1) := by rw [hw3]; simp [go_sem]
  have z3 : w1.heap.size + 3 = w3.heap.size := by rw [hw3]; simp
  rw [← hw3]
  clear hw3 R0
  have KB := Lib.hid (fun wr (hK : RowKit.Below (w1.heap.size + 1) w3 wr) => (B3.trans (hK.mono (by omega)) : Below w1.heap.size w1 wr))
  have CAT := Lib.hid (fun wr (hK : RowKit.Below (w1.heap.size + 1) w3 wr) (i : Int) (h0 : -1 ≤ i) (h10 : i ≤ 10) => at_any wr w.heap.size w1.heap.size ids s (.slice a0 4 q0) (.slice a1 4 q1)
    ((World.cell?_of_block (hK.block w.heap.size (by omega))).trans kI) ((World.cell?_of_block (hK.block w1.heap.size (by omega))).trans kS) (by have := hK.size; omega) (by have := hK.size; omega)
    (by have := HI.out.below (bel_below B1 (KB.out wr hK)); rwa [h4] at this ⊢) (by have := (S1.out.base (Nat.zero_le _)).below (KB.out wr hK); rwa [hs4]) h4 hs4 i h0 h10)
  go_loopw [7, 8, 9, 10, 27] (fun _ _ _ _ i wr => ∃ (k : Nat) (g : Int → Nat), k ≤ 4 ∧ i = .int .i64 k ∧ Hid (RAt (fun b => w1.heap.size + 1 ≤ b) wr (w1.heap.size + 1 + 1) (w1.heap.size + 1) g (newF ids s k)) ∧ Hid (RowKit.Below (w1.heap.size + 1) w3 wr)) (fun _ _ _ _ i _ => 4 - (intOf i).toNat)
  case atStart => exact ⟨0, _, by omega, rfl, R1.out, RowKit.Below.refl _ _⟩
  case round =>
    obtain ⟨k, g, hk, rfl, hR, hK⟩ := hrel
    by_cases hlt : k < 4
    · obtain ⟨b, off, rfl, _, hb, hc⟩ := S1.out.at k (by omega) wr (KB.out wr hK.out)
      have ca := Lib.hid (CAT.out wr hK.out ((k : Int) - 1) (by omega) (by omega))
      go_wp2_with fail
      refine ca.out.mono ?_
      rintro e w4 ⟨rfl, hB4⟩
      have K4 : Hid (RowKit.Below (w1.heap.size + 1) w3 w4) := hK.out.trans (hB4.mono (by have := hK.out.size; omega))
      have R4 := Lib.hid (hR.out.below hB4)
      go_wp2_with fail
      obtain ⟨w5, hw5⟩ : ∃ w5, w5 = w4.alloc (.cells #[.int .u64 (nth s k), .int .i64 (atI ids s ((k : Int) - 1)), .slice none 0 0] 67) := ⟨_, rfl⟩
      have P5 : Hid (w5.cell? ⟨w4.heap.size, 0, none⟩ = some (.int .u64 (nth s k)) ∧ w5.cell? ⟨w4.heap.size, 1, none⟩ = some (.int .i64 (atI ids s ((k : Int) - 1))) ∧ w5.cell? ⟨w4.heap.size, 2, none⟩ = some (.slice none 0 0) ∧ (∀ o, w5.frozen? ⟨w4.heap.size, o, none⟩ = false) ∧ w4.heap.size < w5.heap.size) := by
        show _ ∧ _
        rw [hw5]
        refine ⟨by simp [go_sem], by simp [go_sem], by simp [go_sem], fun o => by simp [go_sem], by simp⟩
      have K5 : Hid (RowKit.Below (w1.heap.size + 1) w3 w5) := by rw [hw5]; exact K4.out.alloc (by have := K4.out.size; omega) _
      have R5 : Hid (RAt (Old (w1.heap.size + 1) w4.heap.size w5) w5 (w1.heap.size + 1 + 1) (w1.heap.size + 1) g (newF ids s k)) := by
        rw [hw5]
        exact R4.out.same (by simp) (fun b hb' _ => (bel_alloc (RowKit.Below.refl _ w4) _).block b hb') (fun b hb' hS => Or.inl ⟨hS, hb'⟩) (fun b hb' => Or.inr hb')
      rw [← hw5]
      clear hw5
      obtain ⟨p, hp⟩ : ∃ p, p = w4.heap.size := ⟨_, rfl⟩
      rw [← hp] at P5 R5 ⊢
      have hpz : w1.heap.size + 3 ≤ p := by have := K4.out.size; omega
      clear hp
      go_loopw [10, 38] (fun _ i wr => ∃ (j : Nat) (sv : Value), j ≤ 3 ∧ i = .int .i64 j ∧ Hid (wr.cell? ⟨p, 0, none⟩ = some (.int .u64 (nth s k)) ∧ wr.cell? ⟨p, 1, none⟩ = some (.int .i64 (atI ids s ((k : Int) - 1))) ∧ wr.cell? ⟨p, 2, none⟩ = some sv ∧ (∀ o, wr.frozen? ⟨p, o, none⟩ = false) ∧ p < wr.heap.size) ∧
          Hid (wr.ownsRow (p + 1) 3 1 sv j ((sucs ids s k j).map (Value.int .i64))) ∧ Hid (RAt (Old (w1.heap.size + 1) p wr) wr (w1.heap.size + 1 + 1) (w1.heap.size + 1) g (newF ids s k)) ∧ Hid (RowKit.Below (w1.heap.size + 1) w3 wr)) (fun _ i _ => 3 - (intOf i).toNat)
      case atStart => exact ⟨0, _, by omega, rfl, P5.out, World.ownsRow_nil _ _ _ _, R5.out, K5.out⟩
      case round =>
        obtain ⟨j, sv, hj, rfl, hP, hO, hR2, hK2⟩ := hrel
        by_cases hj3 : j < 3
        · obtain ⟨c0, c1, c2, fz, hpw⟩ := hP.out
          have ca2 := Lib.hid (fun wr' (hK' : RowKit.Below (w1.heap.size + 1) w3 wr') => CAT.out wr' hK' ((k : Int) + (j : Int) + 1) (by omega) (by omega))
          go_wp2_with fail
          refine wp_region_tame 7 9 (fun w' => ∃ x : Later wr, w' = x.world) (by kernel_rfl) (by kernel_rfl) ⟨⟨{ wr with drawn := wr.drawn + 1 }, (RowKit.Below.refl _ _).drew⟩, rfl⟩ ?_ ?_
          · intro d v c a w h
            cases d <;> exact h
          · simp only [List.take_succ_cons, List.take_zero, List.drop_succ_cons, List.drop_zero]
            repeat (refine wpTame_step (fun K hK => ?_); go_simp; refine hK _ ?_; clear hK K)
            refine wpTame_nil ?_
            refine wpSeqC_step (by decide) (fun R hR => ?_)
            go_wp2_with fail
            refine (ca2.out _ hK2.out.drew).mono ?_
            rintro e w6 ⟨rfl, hB6⟩
            have B6 : RowKit.Below wr.heap.size wr w6 := (bel_drew (RowKit.Below.refl _ _)).trans (hB6.mono (by simp))
            go_wp2_with fail
            refine hR _ _ ⟨⟨w6, B6⟩, rfl⟩ ?_
            clear hR R
            refine wpSeqC_step (by decide) (fun R hR => ?_)
            go_wp2_with fail
            refine hR _ _ ⟨⟨_, bel_alloc B6 _⟩, rfl⟩ ?_
            clear hR R
            refine wpSeqC_list (by decide) ?_
            have O6 := Lib.hid (owns_below hO.out B6)
            have hp6 : p < w6.heap.size := Nat.lt_of_lt_of_le hpw B6.size
            go_wp2_with (at_builtin; refine wpList_app rfl _ _ 36 rfl (p + 1) 3 i0 (.int .i64 0) 8 Tryz.underlying36 hi0 hz0 hz1 hz2 rfl _ j _ rfl (O6.out.alloc _) 0 _ 1 _ rfl (sl_new _ .i64 [atI ids s ((k : Int) + (j : Int) + 1)] 3 _ 1 rfl rfl (by simp [maxLen])) (fun _ => rfl) ?qc1 ?qc2 ?qc3 ?_)
            case qc1 => simp only [maxLen]; omega
            case qc2 => omega
            case qc3 => simp; omega
            intro v7 w7 ho7 hg7
            have hown : ∀ q, sv.ownBlock = some q → p + 1 ≤ q := fun q hq => (O6.out.lt q hq).1
            have B6a := bel_alloc B6 (.cells [Value.int IntKind.i64 (atI ids s ((k : Int) + (j : Int) + 1))].toArray 3)
            have hfar : ∀ b, b ≤ p → w7.heap[b]? = wr.heap[b]? := fun b hb' => by
              rw [hg7.block b (by simp; omega) (fun e => by have := hown b e.symm; omega)]
              exact B6a.block b (by omega)
            have hp7 : p < w7.heap.size := by have := hg7.size; simp at this; omega
            have d0 := (World.cell?_of_block (a := ⟨p, 0, none⟩) (hfar p (Nat.le_refl _))).trans c0
            have d1 := (World.cell?_of_block (a := ⟨p, 1, none⟩) (hfar p (Nat.le_refl _))).trans c1
            have d2 := (World.cell?_of_block (a := ⟨p, 2, none⟩) (hfar p (Nat.le_refl _))).trans c2
            have dz : ∀ o, w7.frozen? ⟨p, o, none⟩ = false := fun o => (World.frozen?_of_block (hfar p (Nat.le_refl _))).trans (fz o)
            have dz2 := dz 2
            have DZ := Lib.hid dz
            have hs7 := own_slAt ho7
            obtain ⟨a7, q7, rfl, _⟩ := hs7.slice
            have O7 := Lib.hid ho7
            have R7 := Lib.hid (old_blocks hR2.out (w' := w7) (by have := hg7.size; have := B6a.size; omega) (fun b hb' => hfar b (by omega)))
            have K7 : Hid (RowKit.Below (w1.heap.size + 1) w3 w7) := (hK2.out.trans (B6a.mono (by have := hK2.out.size; omega))).grown hg7 (by have := hK2.out.size; have := B6a.size; omega) (fun q hq => by have := hown q hq; omega)
            clear ho7 hg7 hs7 c0 c1 c2 hfar dz B6a fz
            go_wp2_with fail
            go_roundw
            case rel =>
              refine ⟨j + 1, _, by omega, by go_num, ⟨?_, ?_, set_at d2, fun o => by rw [World.frozen?_setCell]; exact DZ.out o, by rw [size_set]; exact hp7⟩, ?_, ?_, ?_⟩
              · rw [cell_set_off _ _ _ _ _ (by decide)]; exact d0
              · rw [cell_set_off _ _ _ _ _ (by decide)]; exact d1
              · refine owns_blocks (w := w7) ?_ (fun g hg _ => Below.heap_setCell _ _ _ _ (by dsimp only; omega))
                have := O7.out
                simpa [sucs, List.range_succ, nth] using this
              · exact old_blocks R7.out (by rw [size_set]; exact Nat.le_refl _) (fun b hb' => Below.heap_setCell _ _ _ _ (by dsimp only; omega))
              · exact K7.out.setCell (by dsimp only; omega) _
            case measure => go_light; simp [intOf]; omega
        · obtain rfl : j = 3 := by omega
          obtain ⟨c0, c1, c2, fz, hpw⟩ := hP.out
          have hold := Lib.hid (newF_old HF.out k hk k (Nat.le_refl _) hlt)
          have hdom : Hid (Dom (setM (newF ids s k) (atI ids s k) (memAt ids s k))) := newF_dom HF.out (k + 1) (by omega)
          have hat := HF.out.at (k : Int)
          have oka : okInt (atI ids s k) := okInt_dom (by omega) (by omega)
          have R2w := Lib.hid (old_wide hR2.out (by omega))
          have r0 := hR2.out.root
          have rz := hR2.out.rbz
          have ca2 := Lib.hid (fun wr' (hK' : RowKit.Below (w1.heap.size + 1) w3 wr') => CAT.out wr' hK' (k : Int) (by omega) (by omega))
          obtain ⟨la, lc, rfl, _⟩ := (own_slAt hO.out).slice
          clear hat
          go_wp2_with fail
          refine wp_region_heads [0, 1, 2, 3, 4, 5, 7, 8] 10 (fun w' => ∃ x : Later wr, w' = x.world) (by kernel_rfl) (by kernel_rfl) ⟨⟨{ wr with drawn := wr.drawn + 1 }, (RowKit.Below.refl _ _).drew⟩, rfl⟩ ?_ ?_
          · intro d v c a w h
            cases d <;> exact h
          · simp only [headOps]
            repeat (refine wpTame_step (fun K hK => ?_); go_simp; refine hK _ ?_; clear hK K)
            refine wpTame_nil ?_
            refine wpAnyC_step (f := 2) [6, 9] (by kernel_rfl) rfl rfl (fun i hi => ?_)
            simp only [List.mem_cons, List.not_mem_nil, or_false] at hi
            rcases hi with rfl | rfl
            · refine ⟨_, rfl, fun R hR => ?_⟩
              go_wp2_with fail
              refine (ca2.out _ hK2.out.drew).mono ?_
              rintro e w6 ⟨rfl, hB6⟩
              have B6 : RowKit.Below wr.heap.size wr w6 := (bel_drew (RowKit.Below.refl _ _)).trans (hB6.mono (by simp))
              go_wp2_with fail
              refine hR _ _ ⟨⟨w6, B6⟩, rfl⟩ ?_
              clear hR R
              refine wpAnyC_step (f := 1) [9] (by kernel_rfl) rfl rfl (fun i hi => ?_)
              simp only [List.mem_cons, List.not_mem_nil, or_false] at hi
              subst hi
              refine ⟨_, rfl, fun R hR => ?_⟩
              go_wp2_with fail
              obtain ⟨W8, hW8⟩ : ∃ x, x = ((w6).alloc (.cells #[.bool true, .int .u64 (nth s k), .int .i64 (atI ids s ((k : Int) - 1)), .slice la 3 lc] 134)) := ⟨_, rfl⟩
              have b0 : W8.cell? ⟨(w6).heap.size, 0, none⟩ = some (.bool true) := by rw [hW8]; simp [go_sem]
              have b1 : W8.cell? ⟨(w6).heap.size, 1, none⟩ = some (.int .u64 (nth s k)) := by rw [hW8]; simp [go_sem]
              have b2 : W8.cell? ⟨(w6).heap.size, 2, none⟩ = some (.int .i64 (atI ids s ((k : Int) - 1))) := by rw [hW8]; simp [go_sem]
              have b3 : W8.cell? ⟨(w6).heap.size, 3, none⟩ = some (.slice la 3 lc) := by rw [hW8]; simp [go_sem]
              have bfz : ∀ o, W8.frozen? ⟨(w6).heap.size, o, none⟩ = false := fun o => by rw [hW8]; simp [go_sem]
              have hbb2 : (w6).heap.size < W8.heap.size := by rw [hW8]; simp
              rw [← hW8]
              have B8 : RowKit.Below wr.heap.size wr W8 := by rw [hW8]; exact bel_alloc B6 _
              have hbb1 := B6.size
              obtain ⟨bb, hbb⟩ : ∃ x, x = w6.heap.size := ⟨_, rfl⟩
              rw [← hbb] at b0 b1 b2 b3 bfz hbb1 hbb2 ⊢
              refine hR _ _ ⟨⟨W8, B8⟩, rfl⟩ ?_
              clear hW8 hbb hB6 B6
              clear hR R
              have hst := (R2w.out.below B8).map.store keyInt Tryz.underlying3 Tryz.underlying130 (by have := cntM_le (newF ids s k); simp only [maxLen]; omega) (atI ids s k) oka bb
              obtain ⟨w9, hrun, hmp, hg9⟩ := hst
              have hrun' : (Instr.mapUpdate 130 (.map (some (w1.heap.size + 1))) (.int .i64 (atI ids s k)) (.pointer (some ⟨bb, 0, none⟩))).run Tryz.prog W8 = .ok () w9 := hrun
              have RN := Lib.hid (new_member (M := memAt ids s k) hR2.out (by omega) hpw hold.out B8 hbb1 hbb2 hdom.out bfz b0 b1 b2 b3 (by have := hO.out; rw [sucs_three] at this; exact this) hmp hg9)
              have B9 : Hid (RowKit.Below (w1.heap.size + 1) w3 w9) := (hK2.out.trans (B8.mono (by have := hK2.out.size; omega))).grown hg9 (by have := hK2.out.size; have := B8.size; omega) (fun q hq => by cases hq; omega)
              clear hmp hg9 hrun
              refine wpAnyC_end (k := 10) (by decide) rfl rfl (by kernel_rfl) ?_
              go_wp2_with fail
              go_roundw
              case rel => go_light; exact ⟨k + 1, _, by omega, by go_num, RN.out, B9.out⟩
              case measure => go_light; simp [intOf]; omega
            · refine ⟨_, rfl, fun R hR => ?_⟩
              go_wp2_with fail
              obtain ⟨W8, hW8⟩ : ∃ x, x = ((wr).alloc (.cells #[.bool true, .int .u64 (nth s k), .int .i64 (atI ids s ((k : Int) - 1)), .slice la 3 lc] 134)).drew := ⟨_, rfl⟩
              have b0 : W8.cell? ⟨(wr).heap.size, 0, none⟩ = some (.bool true) := by rw [hW8]; simp [go_sem]
              have b1 : W8.cell? ⟨(wr).heap.size, 1, none⟩ = some (.int .u64 (nth s k)) := by rw [hW8]; simp [go_sem]
              have b2 : W8.cell? ⟨(wr).heap.size, 2, none⟩ = some (.int .i64 (atI ids s ((k : Int) - 1))) := by rw [hW8]; simp [go_sem]
              have b3 : W8.cell? ⟨(wr).heap.size, 3, none⟩ = some (.slice la 3 lc) := by rw [hW8]; simp [go_sem]
              have bfz : ∀ o, W8.frozen? ⟨(wr).heap.size, o, none⟩ = false := fun o => by rw [hW8]; simp [go_sem]
              have hbb2 : (wr).heap.size < W8.heap.size := by rw [hW8]; simp
              rw [← hW8]
              have B7 : RowKit.Below wr.heap.size wr W8 := by rw [hW8]; exact bel_drew (bel_alloc (RowKit.Below.refl _ _) _)
              obtain ⟨bb, hbb⟩ : ∃ x, x = wr.heap.size := ⟨_, rfl⟩
              have hbb1 : wr.heap.size ≤ bb := by omega
              rw [← hbb] at b0 b1 b2 b3 bfz hbb2
              rw [← hbb]
              refine hR _ _ ⟨⟨W8, B7⟩, rfl⟩ ?_
              clear hR R hW8 hbb
              refine wpAnyC_step (f := 1) [6] (by kernel_rfl) rfl rfl (fun i hi => ?_)
              simp only [List.mem_cons, List.not_mem_nil, or_false] at hi
              subst hi
              refine ⟨_, rfl, fun R hR => ?_⟩
              go_wp2_with fail
              refine (ca2.out _ (hK2.out.trans (B7.mono (by have := hK2.out.size; omega)))).mono ?_
              rintro e w6 ⟨rfl, hB6⟩
              have c0' := (hB6.cell (p := ⟨bb, 0, none⟩) hbb2).trans b0
              have c1' := (hB6.cell (p := ⟨bb, 1, none⟩) hbb2).trans b1
              have c2' := (hB6.cell (p := ⟨bb, 2, none⟩) hbb2).trans b2
              have c3' := (hB6.cell (p := ⟨bb, 3, none⟩) hbb2).trans b3
              have cfz : ∀ o, w6.frozen? ⟨bb, o, none⟩ = false := fun o => (hB6.frozen (p := ⟨bb, o, none⟩) hbb2).trans (bfz o)
              have hbb3 : bb < w6.heap.size := Nat.lt_of_lt_of_le hbb2 hB6.size
              have B8' : RowKit.Below wr.heap.size wr w6 := B7.trans (hB6.mono B7.size)
              clear b0 b1 b2 b3 bfz hbb2 B7 hB6
              go_wp2_with fail
              refine hR _ _ ⟨⟨w6, B8'⟩, rfl⟩ ?_
              obtain ⟨W8, hW8, b0, b1, b2, b3, bfz, hbb2, B8⟩ : ∃ W8, W8 = w6 ∧ W8.cell? ⟨bb, 0, none⟩ = some (.bool true) ∧ W8.cell? ⟨bb, 1, none⟩ = some (.int .u64 (nth s k)) ∧ W8.cell? ⟨bb, 2, none⟩ = some (.int .i64 (atI ids s ((k : Int) - 1))) ∧ W8.cell? ⟨bb, 3, none⟩ = some (.slice la 3 lc) ∧ (∀ o, W8.frozen? ⟨bb, o, none⟩ = false) ∧ bb < W8.heap.size ∧ RowKit.Below wr.heap.size wr W8 := ⟨w6, rfl, c0', c1', c2', c3', cfz, hbb3, B8'⟩
              rw [← hW8]
              clear hW8 c0' c1' c2' c3' cfz hbb3 B8'
              clear hR R
              have hst := (R2w.out.below B8).map.store keyInt Tryz.underlying3 Tryz.underlying130 (by have := cntM_le (newF ids s k); simp only [maxLen]; omega) (atI ids s k) oka bb
              obtain ⟨w9, hrun, hmp, hg9⟩ := hst
              have hrun' : (Instr.mapUpdate 130 (.map (some (w1.heap.size + 1))) (.int .i64 (atI ids s k)) (.pointer (some ⟨bb, 0, none⟩))).run Tryz.prog W8 = .ok () w9 := hrun
              have RN := Lib.hid (new_member (M := memAt ids s k) hR2.out (by omega) hpw hold.out B8 hbb1 hbb2 hdom.out bfz b0 b1 b2 b3 (by have := hO.out; rw [sucs_three] at this; exact this) hmp hg9)
              have B9 : Hid (RowKit.Below (w1.heap.size + 1) w3 w9) := (hK2.out.trans (B8.mono (by have := hK2.out.size; omega))).grown hg9 (by have := hK2.out.size; have := B8.size; omega) (fun q hq => by cases hq; omega)
              clear hmp hg9 hrun
              refine wpAnyC_end (k := 10) (by decide) rfl rfl (by kernel_rfl) ?_
              go_wp2_with fail
              go_roundw
              case rel => go_light; exact ⟨k + 1, _, by omega, by go_num, RN.out, B9.out⟩
              case measure => go_light; simp [intOf]; omega
    · obtain rfl : k = 4 := by omega
      go_wp2_with fail
      go_ret2
      exact HP.out _ _ _ _ _ rfl (hR.out.same (Nat.le_refl _) (fun _ _ _ => rfl) (fun b _ hS => by omega) (fun b hb' => by have := hK.out.size; omega)) (B1.trans ((B3.trans (hK.out.mono (by omega))).mono (by omega)))

/-! ### What New refuses -/
theorem new_no1 (w : World) (v : Value) (ids : List Int) (hi : SlAt 0 (fun i => .int .u64 (nth ids i)) ids.length w v) (h4 : ids.length ≠ 4) : Calls Tryz.prog 38 #[v] w (NotPost w 1) := by
  obtain ⟨a0, q0, rfl, h1, h2⟩ := hi.slice
  have hne : (((ids.length : Int) != 4) : Bool) = true := by simp; omega
  have hm : ids.length ≤ 9223372036854775807 := by unfold maxLen at h2; omega
  clear hi
  go_enter Tryz.func38, Tryz.ntmps38
  go_wp2_with fail
  refine (fault_any _ _).mono ?_
  rintro e w' ⟨v, rfl, hE, hB⟩
  go_wp2_with fail
  go_ret2
  obtain ⟨b, rfl, e1, e2, e3⟩ := hE
  exact ⟨_, rfl, ⟨b, rfl, by simp at e1; omega, e2, e3⟩, bel_below (bel_alloc (RowKit.Below.refl _ _) _) hB⟩
theorem new_no2 (w : World) (v : Value) (ids : List Int) (hi : SlAt 0 (fun i => .int .u64 (nth ids i)) ids.length w v) (h4 : ids.length = 4) (hs4 : (setI ids).length ≠ 4) : Calls Tryz.prog 38 #[v] w (NotPost w 8) := by
  obtain ⟨a0, q0, rfl, h1, h2⟩ := hi.slice
  have CS := Lib.hid (fun wr (hb : Below w.heap.size w wr) => sorted_any wr _ ids (hi.below hb) (by omega))
  obtain ⟨s, hs⟩ : ∃ s, s = setI ids := ⟨_, rfl⟩
  have hle := setI_len ids
  rw [← hs] at CS hs4 hle
  rw [h4] at CS hle ⊢
  have hne : (((s.length : Int) != 4) : Bool) = true := by simp; omega
  clear hi hs
  go_enter Tryz.func38, Tryz.ntmps38
  go_wp2_with fail
  refine (CS.out _ (by (repeat (first | exact Below.refl _ _ | (with_reducible assumption) | (with_reducible refine bel_later ?_ _) | (with_reducible refine bel_alloc ?_ _) | (with_reducible refine bel_drew ?_) | (with_reducible refine bel_drewN ?_ _) | (with_reducible refine bel_set ?_ (by first | (simp; done) | (simp; omega) | (dsimp only; omega)) _))))).mono ?_
  rintro e w1 ⟨v1, rfl, hs1, hB1⟩
  obtain ⟨a1, q1, rfl, _⟩ := hs1.slice
  have B1 : Below w.heap.size w w1 := bel_below (bel_alloc (Below.refl _ _) _) hB1
  clear hs1 hB1
  go_wp2_with fail
  refine (fault_any _ _).mono ?_
  rintro e w' ⟨v, rfl, hE, hB⟩
  go_wp2_with fail
  go_ret2
  obtain ⟨b, rfl, e1, e2, e3⟩ := hE
  have hB1 := B1.size
  exact ⟨_, rfl, ⟨b, rfl, by simp at e1; omega, e2, e3⟩, bel_below (bel_alloc B1 _) hB⟩
theorem setI_nodup {l : List Int} (h : (setI l).length = l.length) : l.Nodup := by
  refine List.pairwise_iff_getElem.2 fun i j hi hj hij e => ?_
  have h1 : setI (l.eraseIdx i) = setI l := up_uniq (setI_up _) (setI_up _) fun x => by
    rw [mem_setI, mem_setI, List.mem_eraseIdx_iff_getElem]
    constructor
    · rintro ⟨k, hk, _, rfl⟩; exact List.getElem_mem hk
    · intro hx
      obtain ⟨k, hk, rfl⟩ := List.getElem_of_mem hx
      by_cases hki : k = i
      · subst hki; exact ⟨j, hj, by omega, e.symm⟩
      · exact ⟨k, hk, hki, rfl⟩
  have h2 := setI_len (l.eraseIdx i)
  rw [h1, List.length_eraseIdx_of_lt hi] at h2
  omega
theorem four_of {ids : List Int} (h4 : ids.length = 4) (hs : (setI ids).length = 4) (hp : ∀ x ∈ ids, isPlace x) : Four ids (setI ids) :=
  ⟨h4, hs, setI_nodup (by omega), setI_up ids, fun x => mem_setI, hp⟩
/-- What the places are asked: four, of which none is another's. -/
def fourB (ids : List Int) : Bool := ids.length == 4 && (setI ids).length == 4
def AskPost (w : World) (ids : List Int) (e : Ending) (w' : World) : Prop := if fourB ids = true then NewPost w ids e w' else NotPost w (if ids.length = 4 then 8 else 1) e w'
theorem new_any (w : World) (v : Value) (ids : List Int) (hi : SlAt 0 (fun i => .int .u64 (nth ids i)) ids.length w v) (hp : ∀ x ∈ ids, isPlace x) : Calls Tryz.prog 38 #[v] w (AskPost w ids) := by
  by_cases h4 : ids.length = 4
  · by_cases hs : (setI ids).length = 4
    · exact (new_yes w v ids hi h4 hs (four_of h4 hs hp)).mono fun e w' h => by unfold AskPost fourB; simpa [h4, hs] using h
    · exact (new_no2 w v ids hi h4 hs).mono fun e w' h => by unfold AskPost fourB; simpa [h4, hs] using h
  · exact (new_no1 w v ids hi h4).mono fun e w' h => by unfold AskPost fourB; simpa [h4] using h
end Go.Proofs.YtahiahjhpakeiaaGreatDoor
end
section
namespace Go.Proofs.YtahiahjhpakeiaaGreatDoor
open Go.RowKit Go.Maps Go.Sort
set_option linter.unusedVariables false
set_option linter.unusedSimpArgs false
attribute [local go_sem] later_cell later_frozen later_lt cell_set_off cell_set_block

/-- A member more: its block was made, its list is a new one, the map was stored into. -/
theorem join_member {S : Nat → Prop} {wr w6 W w8 : World} {b rb mb : Nat} {g : Int → Nat} {f : RS} {n : Int} {M : Mem} {sv : Value} (h : RAt S wr rb mb g f) (hn : f n = none)
    (hB : RowKit.Below wr.heap.size wr w6) (hB6 : RowKit.Below w6.heap.size w6 W) (hb1 : w6.heap.size ≤ b) (hb2 : b < W.heap.size) (hd : Dom (setM f n M))
    (hfz : ∀ o, W.frozen? ⟨b, o, none⟩ = false) (c0 : W.cell? ⟨b, 0, none⟩ = some (.bool M.live)) (c1 : W.cell? ⟨b, 1, none⟩ = some (.int .u64 M.id)) (c2 : W.cell? ⟨b, 2, none⟩ = some (.int .i64 M.pred)) (c3 : W.cell? ⟨b, 3, none⟩ = some sv)
    (hsv : SlAt wr.heap.size (fun i => .int .i64 (nth M.succ i)) M.succ.length w6 sv)
    (hmap : MapAt Tryz.prog 3 w8 mb (cntM f + 1) (setF (ptrM f g) n b)) (hg : W.grownBy w8 (some mb)) : RAt S w8 rb mb (fun j => if j = n then b else g j) (setM f n M) := by
  have hBW := bel_below hB hB6
  have hsz : W.heap.size ≤ w8.heap.size := hg.size
  have s1 := hB.size
  have s2 := hB6.size
  have hz := h.rbz
  have hmz := h.mbz
  have hne : b ≠ mb := by omega
  have hfar : ∀ c, c < W.heap.size → c ≠ mb → w8.heap[c]? = W.heap[c]? := fun c hc hcm => hg.block c hc (by simpa using hcm)
  refine h.add hn (by omega) (by omega) (by omega) (fun c hc hcm => ?_) hd (fun o => ?_) hmap ((World.cell?_of_block (hfar b hb2 hne)).trans c0) ((World.cell?_of_block (hfar b hb2 hne)).trans c1) ((World.cell?_of_block (hfar b hb2 hne)).trans c2) ((World.cell?_of_block (hfar b hb2 hne)).trans c3) ?_
  · rw [hfar c (by omega) hcm, hBW.block c hc]
  · exact (World.frozen?_of_block (hfar b hb2 hne)).trans (hfz o)
  · obtain ⟨a, cap, rfl, k1, k2, k3, k4⟩ := hsv
    refine ⟨a, cap, rfl, k1, k2, k3, k4.imp id ?_⟩
    rintro ⟨q, off, rfl, q1, q2, q3⟩
    have hqW : q < W.heap.size := by omega
    obtain ⟨f1, f2, f3, f4⟩ := h.fresh q1
    refine ⟨q, off, rfl, ⟨f1, f2, f3, by omega, f4⟩, by omega, fun i hi => ?_⟩
    rw [World.cell?_of_block (hfar q hqW f3), hB6.cell (p := ⟨q, off + i, none⟩) q2]
    exact q3 i hi

variable {S : Nat → Prop} {w : World} {rb mb : Nat} {g : Int → Nat} {f : RS}
def JoinPost (S : Nat → Prop) (w : World) (rb mb : Nat) (f : RS) (n id via : Int) (e : Ending) (w' : World) : Prop :=
  if joinC f n id via = 0 then e = .returned .nilIface ∧ Kept S w w' ∧ ∃ g', RAt S w' rb mb g' (joinR f n id via) else ∃ v, e = .returned v ∧ IsErr w.heap.size w' v (joinC f n id via) ∧ RowKit.Below w.heap.size w w'
theorem IsErr.base {B B' : Nat} {w : World} {v : Value} {c : Int} (h : IsErr B w v c) (hb : B' ≤ B) : IsErr B' w v c := by
  obtain ⟨b, rfl, h1, h2⟩ := h
  exact ⟨b, rfl, by omega, h2⟩
set_option maxRecDepth 100000 in
set_option maxHeartbeats 8000000 in
theorem join_at (h : RAt S w rb mb g f) (hh : Heads f) (n id via : Int) (hn : okInt n) (hv : okInt via) (hid : isPlace id) :
    Calls Tryz.prog 19 #[.pointer (some ⟨rb, 0, none⟩), .int .i64 n, .int .u64 id, .int .i64 via] w (JoinPost S w rb mb f n id via) := by
  have HNo : Hid (∀ (c : Int) e w', joinC f n id via = c → c ≠ 0 → (∃ v, e = .returned v ∧ IsErr w.heap.size w' v c ∧ RowKit.Below w.heap.size w w') → JoinPost S w rb mb f n id via e w') := fun c e w' h1 h2 h3 => by
    unfold JoinPost; rw [h1, if_neg h2]; exact h3
  have HYes : Hid (∀ e w', joinC f n id via = 0 → e = .returned .nilIface → Kept S w w' → (∃ g', RAt S w' rb mb g' (joinR f n id via)) → JoinPost S w rb mb f n id via e w') := fun e w' h1 h2 h3 h4 => by
    unfold JoinPost; rw [if_pos h1]; exact ⟨h2, h3, h4⟩
  have r0 := h.root
  have z0 := h.rbz
  by_cases hr : n < 0 ∨ 32 ≤ n
  · have hc : Hid (joinC f n id via = 1) := show joinC f n id via = 1 by unfold joinC; rw [if_pos hr]
    clear h
    rcases hr with hr | hr
    all_goals
      go_enter Tryz.func19, Tryz.ntmps19
      go_wp2_with fail
      refine (fault_any _ _).mono ?_
      rintro e w' ⟨v, rfl, hE, hB⟩
      go_wp2_with fail
      go_ret
      exact HNo.out 1 _ _ hc.out (by decide) ⟨_, rfl, hE, hB⟩
  have hr0 : 0 ≤ n := by omega
  have hr1 : n < 32 := by omega
  have HR := Lib.hid hr
  clear hr
  cases hfn : f n with
  | some m =>
    have hc : Hid (joinC f n id via = 7) := show joinC f n id via = 7 by unfold joinC; rw [if_neg HR.out, hfn]; rfl
    obtain ⟨_, _, _, zn, ln⟩ := h.at hfn hn
    clear h hfn
    go_enter Tryz.func19, Tryz.ntmps19
    go_wp2_with fail
    refine (fault_any _ _).mono ?_
    rintro e w' ⟨v, rfl, hE, hB⟩
    go_wp2_with fail
    go_ret
    exact HNo.out 7 _ _ hc.out (by decide) ⟨_, rfl, hE, hB⟩
  | none =>
    have ln := h.out hfn hn
    have cl := Lib.hid (lives_at h via hv)
    cases hlv : livesR f via with
    | false =>
      have hc : Hid (joinC f n id via = 6) := show joinC f n id via = 6 by unfold joinC; rw [if_neg HR.out, hfn, hlv]; rfl
      rw [hlv] at cl
      clear h hfn
      go_enter Tryz.func19, Tryz.ntmps19
      go_wp2_with (go_at_call 20; refine cl.out.mono ?_; rintro e w' ⟨rfl, rfl⟩)
      refine (fault_any _ _).mono ?_
      rintro e w' ⟨v, rfl, hE, hB⟩
      go_wp2_with fail
      go_ret
      exact HNo.out 6 _ _ hc.out (by decide) ⟨_, rfl, hE, hB⟩
    | true =>
      rw [hlv] at cl
      have H := Lib.hid h
      have HH := Lib.hid hh
      have HF := Lib.hid hfn
      have HV := Lib.hid hlv
      have CL := Lib.hid (live_at h)
      have hdm := Lib.hid (fun x (hx : x ∈ liveL f) => (mem_liveL h.dom).1 hx)
      have hlen := length_liveL f
      have hC4 : Hid (joinC f n id via = if (liveL f).any (fun k => idR f k == id) then 8 else match joinAt f id 33 via with | some _ => 0 | none => 5) :=
        show joinC f n id via = _ by unfold joinC; rw [if_neg HR.out, hfn, hlv]; rfl
      obtain ⟨L, hL⟩ : ∃ L, L = liveL f := ⟨_, rfl⟩
      rw [← hL] at CL hdm hlen hC4
      clear h hh hfn hlv hL
      go_enter Tryz.func19, Tryz.ntmps19
      go_wp2_with (go_at_call 20; refine cl.out.mono ?_; rintro e w' ⟨rfl, rfl⟩)
      refine CL.out.mono ?_
      rintro e w1 ⟨v, rfl, hs, hB⟩
      obtain ⟨a, q, rfl, _⟩ := hs.slice
      have HS := Lib.hid hs
      have HB := Lib.hid hB
      clear hs hB
      go_wp2_with fail
      go_loopw [10, 37] (fun _ i wr => ∃ k : Nat, k ≤ L.length ∧ i = .int .i64 k ∧ wr = w1 ∧ Hid (∀ j, j < k → idR f (nth L j) ≠ id)) (fun _ i _ => L.length - (intOf i).toNat)
      case atStart => exact ⟨0, Nat.zero_le _, rfl, rfl, fun j hj => absurd hj (by omega)⟩
      case round =>
        obtain ⟨k, hk, rfl, rfl, hno⟩ := hrel
        by_cases hlt : k < L.length
        · obtain ⟨b, off, rfl, _, hb, hc⟩ := HS.out.at k hlt wr (RowKit.Below.refl _ _)
          have hin : nth L k ∈ L := nth_mem.2 ⟨k, hlt, rfl⟩
          have hdk := livesR_dom H.out.dom (hdm.out _ hin)
          have ci := Lib.hid (id_at (H.out.below HB.out) (nth L k) (okInt_dom (by omega) (by omega)))
          by_cases he : idR f (nth L k) = id
          · have hC : Hid (joinC f n id via = 8) := show joinC f n id via = 8 by rw [hC4.out, if_pos (List.any_eq_true.2 ⟨_, hin, by simpa using he⟩)]
            rw [he] at ci
            clear hdk hin he
            go_wp2_with fail
            refine ci.out.mono ?_
            rintro e w' ⟨rfl, rfl⟩
            go_wp2_with fail
            refine (fault_any _ _).mono ?_
            rintro e w' ⟨v, rfl, hE, hB⟩
            go_wp2_with fail
            go_ret
            exact HNo.out 8 _ _ hC.out (by decide) ⟨_, rfl, hE.base HB.out.size, bel_below HB.out hB⟩
          · have heb : (idR f (nth L k) == id) = false := by simpa using he
            have HE := Lib.hid he
            clear hdk hin he
            go_wp2_with fail
            refine ci.out.mono ?_
            rintro e w' ⟨rfl, rfl⟩
            go_wp2_with fail
            go_roundw
            case rel =>
              go_light
              refine ⟨k + 1, by omega, by go_num, trivial, fun j hj => ?_⟩
              by_cases e : j = k
              · subst e; exact HE.out
              · exact hno.out j (by omega)
            case measure => go_light; simp [intOf]; omega
        · obtain rfl : k = L.length := by omega
          have hC5 : Hid (joinC f n id via = match joinAt f id 33 via with | some _ => 0 | none => 5) := show joinC f n id via = _ by
            rw [hC4.out, if_neg]
            intro h
            obtain ⟨x, hx, e⟩ := List.any_eq_true.1 h
            obtain ⟨j, hj, rfl⟩ := nth_mem.1 hx
            exact hno.out j hj (by simpa using e)
          clear hlt
          go_wp2_with fail
          have hB0 := HB.out
          go_loopw [11, 12, 13, 49] (fun at_ _ _ i wr2 => ∃ (k : Nat) (x : Int), k ≤ 33 ∧ i = .int .i64 k ∧ at_ = .int .i64 x ∧ Hid (livesR f x = true ∧ joinAt f id 33 via = joinAt f id (33 - k) x) ∧ Hid (RowKit.Below w.heap.size w wr2)) (fun _ _ _ i _ => 33 - (intOf i).toNat)
          case atStart => exact ⟨0, via, by omega, rfl, rfl, ⟨HV.out, rfl⟩, hB0⟩
          case round =>
            obtain ⟨k, x, hk, rfl, rfl, hx, hB2⟩ := hrel
            by_cases hlt : k < 33
            · have h2 := H.out.below hB2.out
              have hxd := livesR_dom H.out.dom hx.out.1
              have okx : okInt x := okInt_dom (by omega) (by omega)
              obtain ⟨m, hm, hml⟩ := livesR_some hx.out.1
              obtain ⟨c0, c1, c2, zn, lx⟩ := h2.at hm okx
              obtain ⟨_, _, _, v3, c3, hv3⟩ := h2.mem x m hm
              obtain ⟨a3, q3, rfl, _⟩ : ∃ a c, v3 = .slice a m.succ.length c ∧ True := by obtain ⟨a, c, rfl, _⟩ := hv3; exact ⟨a, c, rfl, trivial⟩
              have r2 := h2.root
              have z2 := h2.rbz
              have hd := h2.dom x m hm
              have HV3 := Lib.hid hv3.slAt
              have hl3 : m.succ.length ≤ 3 := hd.2.2.2.1
              have hidx : Hid (idR f x = m.id) := show idR f x = m.id by unfold idR; rw [hm]
              have hsx : Hid (succR f x = m.succ) := show succR f x = m.succ by unfold succR; rw [hm]
              have hhx : Hid (headR f x = headL f m.succ) := show headR f x = headL f m.succ by unfold headR; rw [hsx.out]
              have hnx := Lib.hid (HH.out x hx.out.1)
              have hwB : Hid (RowKit.Below w.heap.size w (wr.alloc (.cells #[.int .u64 m.id, .int .i64 m.pred, .slice a3 m.succ.length q3] 67))) := bel_alloc hB2.out _
              have ch := Lib.hid (head_at (H.out.below hwB.out) m.succ (by omega) (fun y hy => okInt_dom (by have := hd.2.2.2.2.2 y hy; omega) (by have := hd.2.2.2.2.2 y hy; omega)) (.slice a3 m.succ.length q3) (HV3.out.below (bel_alloc (RowKit.Below.refl _ _) _)) m.id m.pred)
              have HM := Lib.hid hm
              clear h2 hm hml hv3 hd hxd
              go_wp2_with fail
              refine ch.out.mono ?_
              rintro e w5 ⟨rfl, hB5⟩
              obtain ⟨y, hy⟩ : ∃ y, y = headL f m.succ := ⟨_, rfl⟩
              rw [← hy] at hhx ⊢
              have hyl : Hid (livesR f y = true) := show livesR f y = true by rw [← hhx.out]; exact hnx.out
              have hyd := livesR_dom H.out.dom hyl.out
              have oky : okInt y := okInt_dom (by omega) (by omega)
              have p0 : w5.cell? ⟨wr.heap.size, 0, none⟩ = some (.int .u64 m.id) := by rw [hB5.cell (by simp)]; simp [go_sem]
              have p2 : w5.cell? ⟨wr.heap.size, 2, none⟩ = some (.slice a3 m.succ.length q3) := by rw [hB5.cell (by simp)]; simp [go_sem]
              have hp5 : wr.heap.size < w5.heap.size := by have := hB5.size; simp at this; omega
              have B5 := Lib.hid (bel_below hwB.out hB5)
              have V5 := Lib.hid ((HV3.out.below (bel_alloc (RowKit.Below.refl _ _) _)).below hB5)
              have cd := Lib.hid (fun wr' (hb : RowKit.Below w5.heap.size w5 wr') => id_at (H.out.below (bel_below B5.out hb)) y oky)
              have hx' := Lib.hid hx.out.2
              have hxl := Lib.hid hx.out.1
              clear hy hyd c0 c1 c2 c3 zn lx r2 z2 hB5
              cases hw : withinB id m.id (idR f y) with
              | false =>
                have CW : Hid (∀ w', Calls Tryz.prog 72 #[.int .u64 id, .int .u64 m.id, .int .u64 (idR f y)] w' fun e w'' => e = .returned (.bool false) ∧ w' = w'') := fun w' => hw ▸ within_any _ _ _ _
                have hj : Hid (joinAt f id 33 via = joinAt f id (33 - (k + 1)) y) := show joinAt f id 33 via = _ by
                  rw [hx'.out, show 33 - k = (33 - (k + 1)) + 1 by omega]
                  show (if _ then _ else _) = _
                  rw [hhx.out, hidx.out, hw]
                  rfl
                clear hw
                go_wp2_with fail
                refine wp_region_calm (by kernel_rfl) (by kernel_rfl) ?_
                repeat (first | (go_big_quiet_step ((first | (go_at_call 43; exact calls_calm_same (cd.out _ (by (repeat (first | exact Below.refl _ _ | (with_reducible assumption) | (with_reducible refine bel_later ?_ _) | (with_reducible refine bel_alloc ?_ _) | (with_reducible refine bel_drew ?_) | (with_reducible refine bel_drewN ?_ _) | (with_reducible refine bel_set ?_ (by first | (simp; done) | (simp; omega) | (dsimp only; omega)) _)))))) | (go_at_call 72; exact calls_calm_same (CW.out _))))) | (refine wpQuiet_step (fun K hK => ?_); go_simp; first | (refine hK _ ?_; clear hK K) | (apply Exists.intro; refine ⟨fun _ => ?_, hK _ ?_⟩; (first | (go_at_call 43; exact calls_calm_same (cd.out _ (by (repeat (first | exact Below.refl _ _ | (with_reducible assumption) | (with_reducible refine bel_later ?_ _) | (with_reducible refine bel_alloc ?_ _) | (with_reducible refine bel_drew ?_) | (with_reducible refine bel_drewN ?_ _) | (with_reducible refine bel_set ?_ (by first | (simp; done) | (simp; omega) | (dsimp only; omega)) _)))))) | (go_at_call 72; exact calls_calm_same (CW.out _))); clear hK K)))
                refine wpQuiet_nil ?_
                intro _ hw'
                obtain ⟨xq, hw''⟩ := hw'
                subst hw''
                go_wp2_with fail
                go_roundw
                case rel => go_light; exact ⟨k + 1, y, by omega, by go_num, rfl, ⟨hyl.out, hj.out⟩, bel_later B5.out xq⟩
                case measure => go_light; simp [intOf]; omega
              | true =>
                have CW : Hid (∀ w', Calls Tryz.prog 72 #[.int .u64 id, .int .u64 m.id, .int .u64 (idR f y)] w' fun e w'' => e = .returned (.bool true) ∧ w' = w'') := fun w' => hw ▸ within_any _ _ _ _
                have hj : Hid (joinAt f id 33 via = some x) := show joinAt f id 33 via = _ by
                  rw [hx'.out, show 33 - k = (33 - (k + 1)) + 1 by omega]
                  show (if _ then _ else _) = _
                  rw [hhx.out, hidx.out, hw]
                  rfl
                have hC : Hid (joinC f n id via = 0) := show joinC f n id via = 0 by rw [hC5.out, hj.out]
                have hR : Hid (joinR f n id via = setM f n ⟨true, id, x, m.succ⟩) := show joinR f n id via = _ by unfold joinR; rw [if_pos hC.out, hj.out, ← hsx.out]
                have hdm2 : Hid (Dom (setM f n ⟨true, id, x, m.succ⟩)) := show Dom _ by rw [← hsx.out]; exact dom_join H.out.dom hr0 hr1 hid hxl.out
                clear hw
                go_wp2_with fail
                refine wp_region_calm (by kernel_rfl) (by kernel_rfl) ?_
                repeat (first | (go_big_quiet_step ((first | (go_at_call 43; exact calls_calm_same (cd.out _ (by (repeat (first | exact Below.refl _ _ | (with_reducible assumption) | (with_reducible refine bel_later ?_ _) | (with_reducible refine bel_alloc ?_ _) | (with_reducible refine bel_drew ?_) | (with_reducible refine bel_drewN ?_ _) | (with_reducible refine bel_set ?_ (by first | (simp; done) | (simp; omega) | (dsimp only; omega)) _)))))) | (go_at_call 72; exact calls_calm_same (CW.out _))))) | (refine wpQuiet_step (fun K hK => ?_); go_simp; first | (refine hK _ ?_; clear hK K) | (apply Exists.intro; refine ⟨fun _ => ?_, hK _ ?_⟩; (first | (go_at_call 43; exact calls_calm_same (cd.out _ (by (repeat (first | exact Below.refl _ _ | (with_reducible assumption) | (with_reducible refine bel_later ?_ _) | (with_reducible refine bel_alloc ?_ _) | (with_reducible refine bel_drew ?_) | (with_reducible refine bel_drewN ?_ _) | (with_reducible refine bel_set ?_ (by first | (simp; done) | (simp; omega) | (dsimp only; omega)) _)))))) | (go_at_call 72; exact calls_calm_same (CW.out _))); clear hK K)))
                refine wpQuiet_nil ?_
                intro _ hw'
                obtain ⟨xq, hw''⟩ := hw'
                subst hw''
                obtain ⟨wq, hwq⟩ : ∃ wq, wq = xq.world := ⟨_, rfl⟩
                have Bq : Hid (RowKit.Below w.heap.size w wq) := by rw [hwq]; exact bel_later B5.out xq
                have p2q : wq.cell? ⟨wr.heap.size, 2, none⟩ = some (.slice a3 m.succ.length q3) := by rw [hwq, later_cell xq _ _ hp5]; exact p2
                have hpq : wr.heap.size < wq.heap.size := by rw [hwq]; exact Nat.lt_of_lt_of_le hp5 xq.below.size
                have Vq := Lib.hid (V5.out.below xq.below)
                rw [← hwq] at Vq ⊢
                have Hq := Lib.hid (H.out.below Bq.out)
                have rq := Hq.out.root
                have rz := Hq.out.rbz
                clear hwq xq p0 p2 hp5 V5 B5
                go_wp2_with fail
                refine wp_region_tame 9 13 (fun w' => ∃ x : Later wq, w' = x.world) (by kernel_rfl) (by kernel_rfl) ⟨⟨{ wq with drawn := wq.drawn + 1 }, (RowKit.Below.refl _ _).drew⟩, rfl⟩ ?_ ?_
                · intro d v c a w h
                  cases d <;> exact h
                · simp only [List.take_succ_cons, List.take_zero, List.drop_succ_cons, List.drop_zero]
                  repeat (refine wpTame_step (fun K hK => ?_); go_simp; refine hK _ ?_; clear hK K)
                  refine wpTame_nil ?_
                  refine wpSeqC_step (by decide) (fun R hR => ?_)
                  go_wp2_with fail
                  refine (clonei_any _ _ m.succ (Vq.out.below (bel_drew (RowKit.Below.refl _ _))) (by omega)).mono ?_
                  rintro e w6 ⟨v6, rfl, ho6, hB6⟩
                  have B6 : RowKit.Below wq.heap.size wq w6 := (bel_drew (RowKit.Below.refl _ _)).trans (hB6.mono (by simp))
                  have hs6 := own_ints ho6
                  obtain ⟨a6, q6, rfl, _⟩ := hs6.slice
                  have S6 : Hid (SlAt wq.heap.size (fun i => .int .i64 (nth m.succ i)) m.succ.length w6 (.slice a6 m.succ.length q6)) := hs6.base (by simp)
                  clear ho6 hs6 hB6
                  go_wp2_with fail
                  refine hR _ _ ⟨⟨w6, B6⟩, rfl⟩ ?_
                  clear hR R
                  refine wpSeqC_step (by decide) (fun R hR => ?_)
                  go_wp2_with fail
                  refine hR _ _ ⟨⟨w6, B6⟩, rfl⟩ ?_
                  clear hR R
                  refine wpSeqC_step (by decide) (fun R hR => ?_)
                  go_wp2_with fail
                  refine hR _ _ ⟨⟨w6, B6⟩, rfl⟩ ?_
                  clear hR R
                  refine wpSeqC_step (by decide) (fun R hR => ?_)
                  go_wp2_with fail
                  obtain ⟨W8, hW8⟩ : ∃ z, z = w6.alloc (.cells #[.bool true, .int .u64 id, .int .i64 x, .slice a6 m.succ.length q6] 134) := ⟨_, rfl⟩
                  have b0 : W8.cell? ⟨w6.heap.size, 0, none⟩ = some (.bool true) := by rw [hW8]; simp [go_sem]
                  have b1 : W8.cell? ⟨w6.heap.size, 1, none⟩ = some (.int .u64 id) := by rw [hW8]; simp [go_sem]
                  have b2 : W8.cell? ⟨w6.heap.size, 2, none⟩ = some (.int .i64 x) := by rw [hW8]; simp [go_sem]
                  have b3 : W8.cell? ⟨w6.heap.size, 3, none⟩ = some (.slice a6 m.succ.length q6) := by rw [hW8]; simp [go_sem]
                  have bfz : ∀ o, W8.frozen? ⟨w6.heap.size, o, none⟩ = false := fun o => by rw [hW8]; simp [go_sem]
                  have hbb2 : w6.heap.size < W8.heap.size := by rw [hW8]; simp
                  have B68 : RowKit.Below w6.heap.size w6 W8 := by rw [hW8]; exact bel_alloc (RowKit.Below.refl _ _) _
                  rw [← hW8]
                  refine hR _ _ ⟨⟨W8, bel_below B6 B68⟩, rfl⟩ ?_
                  clear hR R hW8
                  refine wpSeqC_list (by decide) ?_
                  obtain ⟨w9, hrun, hmp, hg9⟩ := (Hq.out.below (bel_below B6 B68)).map.store keyInt Tryz.underlying3 Tryz.underlying130 (by have := cntM_le f; simp only [maxLen]; omega) n hn w6.heap.size
                  have hrun' : (Instr.mapUpdate 130 (.map (some mb)) (.int .i64 n) (.pointer (some ⟨w6.heap.size, 0, none⟩))).run Tryz.prog W8 = .ok () w9 := hrun
                  have RN := Lib.hid (join_member (M := ⟨true, id, x, m.succ⟩) Hq.out HF.out B6 B68 (Nat.le_refl _) hbb2 hdm2.out bfz b0 b1 b2 b3 S6.out hmp hg9)
                  have K9 : Hid (Kept S w w9) := (((Kept.refl S w).below Bq.out).below (bel_below B6 B68)).trans ⟨hg9.os, hg9.tape, hg9.output, hg9.size, fun b hb hS => hg9.block b hb (fun e => by cases e; exact hS H.out.mbS)⟩
                  clear hmp hg9 hrun b0 b1 b2 b3 bfz hbb2 B68 B6
                  go_wp2_with fail
                  go_ret
                  exact HYes.out _ _ hC.out rfl K9.out ⟨_, by rw [hR.out]; exact RN.out⟩
            · obtain rfl : k = 33 := by omega
              have hC : Hid (joinC f n id via = 5) := show joinC f n id via = 5 by rw [hC5.out, hx.out.2]; rfl
              go_wp2_with fail
              refine (fault_any _ _).mono ?_
              rintro e w' ⟨v, rfl, hE, hB⟩
              go_wp2_with fail
              go_ret
              exact HNo.out 5 _ _ hC.out (by decide) ⟨_, rfl, hE.base hB2.out.size, bel_below hB2.out hB⟩
end Go.Proofs.YtahiahjhpakeiaaGreatDoor
namespace Go.Proofs.YtahiahjhpakeiaaGreatDoor
open Go.RowKit Go.Maps Go.Sort
set_option linter.unusedVariables false
set_option linter.unusedSimpArgs false
attribute [local go_sem] later_cell later_frozen later_lt cell_set_off cell_set_block

variable {S : Nat → Prop} {w : World} {rb mb : Nat} {g : Int → Nat} {f : RS}
/-- A member lives, or doesn't. -/
theorem RingIs.setLive (h : RAt S w rb mb g f) {n : Int} {m : Mem} (hn : f n = some m) (b : Bool) :
    RAt S (w.setCell ⟨g n, 0, none⟩ (.bool b)) rb mb g (setM f n ⟨b, m.id, m.pred, m.succ⟩) := by
  obtain ⟨c0, c1, c2, u, c3, hu⟩ := h.mem n m hn
  have hd : Dom (setM f n ⟨b, m.id, m.pred, m.succ⟩) := fun j mj e => by
    by_cases ej : j = n
    · subst ej; rw [setM_same] at e; cases e; exact h.dom j m hn
    · rw [setM_ne f _ ej] at e; exact h.dom j mj e
  refine h.write hn (size_set _ _ _) (fun b' hb => Below.heap_setCell _ _ _ _ hb) (fun o => by rw [World.frozen?_setCell]; exact (h.memS n m hn).2.2.2.2 o) hd (v := u) (set_at c0) ?_ ?_ ?_ hu
  · rw [cell_set_off _ _ _ _ _ (by decide)]; exact c1
  · rw [cell_set_off _ _ _ _ _ (by decide)]; exact c2
  · rw [cell_set_off _ _ _ _ _ (by decide)]; exact c3
def FailPost (S : Nat → Prop) (w : World) (rb mb : Nat) (g : Int → Nat) (f : RS) (n : Int) (e : Ending) (w' : World) : Prop :=
  (if failC f n = 0 then e = .returned .nilIface else ∃ v, e = .returned v ∧ IsErr w.heap.size w' v (failC f n)) ∧ RAt S w' rb mb g (failR f n) ∧ Kept S w w'
set_option maxRecDepth 100000 in
set_option maxHeartbeats 8000000 in
theorem fail_at (h : RAt S w rb mb g f) (n : Int) (hi : okInt n) : Calls Tryz.prog 35 #[.pointer (some ⟨rb, 0, none⟩), .int .i64 n] w (FailPost S w rb mb g f n) := by
  have HNo : Hid (∀ (c : Int) v w', failC f n = c → c ≠ 0 → IsErr w.heap.size w' v c → RAt S w' rb mb g f → Kept S w w' → FailPost S w rb mb g f n (.returned v) w') := fun c v w' h1 h2 h3 h4 h5 => by
    unfold FailPost failR; rw [h1, if_neg h2, if_neg h2]; exact ⟨⟨v, rfl, h3⟩, h4, h5⟩
  have HYes : Hid (∀ w', failC f n = 0 → RAt S w' rb mb g (diesR f n) → Kept S w w' → FailPost S w rb mb g f n (.returned .nilIface) w') := fun w' h1 h2 h3 => by
    unfold FailPost failR; rw [if_pos h1, if_pos h1]; exact ⟨rfl, h2, h3⟩
  have r0 := h.root
  have z0 := h.rbz
  have cl := Lib.hid (lives_at h n hi)
  have H := Lib.hid h
  cases hlv : livesR f n with
  | false =>
    have hc : Hid (failC f n = 6) := show failC f n = 6 by unfold failC; rw [if_pos hlv]
    rw [hlv] at cl
    clear h
    go_enter Tryz.func35, Tryz.ntmps35
    go_wp2_with (go_at_call 20; refine cl.out.mono ?_; rintro e w' ⟨rfl, rfl⟩)
    refine (fault_any _ _).mono ?_
    rintro e w' ⟨v, rfl, hE, hB⟩
    go_wp2_with fail
    go_ret
    exact HNo.out 6 _ _ hc.out (by decide) hE (H.out.below hB) ((Kept.refl S w).below hB)
  | true =>
    rw [hlv] at cl
    by_cases h4 : n < 4
    · have hc : Hid (failC f n = 5) := show failC f n = 5 by unfold failC; rw [if_neg (by simp [hlv]), if_pos h4]
      clear h hlv
      go_enter Tryz.func35, Tryz.ntmps35
      go_wp2_with (go_at_call 20; refine cl.out.mono ?_; rintro e w' ⟨rfl, rfl⟩)
      refine (fault_any _ _).mono ?_
      rintro e w' ⟨v, rfl, hE, hB⟩
      go_wp2_with fail
      go_ret
      exact HNo.out 5 _ _ hc.out (by decide) hE (H.out.below hB) ((Kept.refl S w).below hB)
    · obtain ⟨m, hm, hml⟩ := livesR_some hlv
      obtain ⟨c0, c1, c2, zn, ln⟩ := h.at hm hi
      have fz := (h.memS n m hm).2.2.2.2 0
      have hS := (h.memS n m hm).1
      have hdf : Hid (diesR f n = setM f n ⟨false, m.id, m.pred, m.succ⟩) := show diesR f n = _ by unfold diesR idR predR succR; rw [hm]
      have h2 := h.setLive hm false
      rw [← hdf.out] at h2
      obtain ⟨w2, hw2⟩ : ∃ w2, w2 = w.setCell ⟨g n, 0, none⟩ (.bool false) := ⟨_, rfl⟩
      have hz2 : w2.heap.size = w.heap.size := by rw [hw2]; exact size_set _ _ _
      have K2 : Hid (Kept S w w2) := by rw [hw2]; exact (Kept.refl S w).set (p := ⟨g n, 0, none⟩) hS _
      rw [← hw2] at h2
      have H2 := Lib.hid h2
      have CL := Lib.hid (live_at h2)
      have hdm := Lib.hid (fun x (hx : x ∈ liveL (diesR f n)) => (mem_liveL h2.dom).1 hx)
      have hlen := length_liveL (diesR f n)
      have hC4 : Hid (failC f n = if (liveL (diesR f n)).any (fun k => headR (diesR f n) k == -1) then 5 else 0) := show failC f n = _ by unfold failC; rw [if_neg (by simp [hlv]), if_neg h4]
      have HM : Hid (diesR f n n = some ⟨false, m.id, m.pred, m.succ⟩) := show _ = _ by rw [hdf.out, setM_same]
      have hback : Hid (setM (diesR f n) n ⟨true, m.id, m.pred, m.succ⟩ = f) := show _ = _ by
        rw [hdf.out, setM_setM]
        funext j
        unfold setM
        split
        · rename_i e; rw [e, hm, ← hml]
        · rfl
      obtain ⟨f2, hf2⟩ : ∃ f2, f2 = diesR f n := ⟨_, rfl⟩
      rw [← hf2] at CL hdm hlen hC4 HM hback H2 HYes
      obtain ⟨L, hL⟩ : ∃ L, L = liveL f2 := ⟨_, rfl⟩
      rw [← hL] at CL hdm hlen hC4
      have HW2 := Lib.hid hw2
      clear h h2 hm hml hlv hL hdf hf2 hw2 c1 c2
      go_enter Tryz.func35, Tryz.ntmps35
      go_wp2_with (go_at_call 20; refine cl.out.mono ?_; rintro e w' ⟨rfl, rfl⟩)
      rw [← HW2.out]
      refine CL.out.mono ?_
      rintro e w3 ⟨v, rfl, hs, hB⟩
      obtain ⟨a, q, rfl, _⟩ := hs.slice
      have HS := Lib.hid hs
      have HB := Lib.hid hB
      clear hs hB HW2 c0 fz r0 z0 zn ln
      go_wp2_with fail
      go_loopw [6, 26] (fun _ i wr => ∃ k : Nat, k ≤ L.length ∧ i = .int .i64 k ∧ Hid (RowKit.Below w3.heap.size w3 wr) ∧ Hid (∀ j, j < k → headR f2 (nth L j) ≠ -1)) (fun _ i _ => L.length - (intOf i).toNat)
      case atStart => exact ⟨0, Nat.zero_le _, rfl, RowKit.Below.refl _ _, fun j hj => absurd hj (by omega)⟩
      case round =>
        obtain ⟨k, hk, rfl, hB3, hno⟩ := hrel
        have B2 := Lib.hid (bel_below HB.out hB3.out)
        have h3 := H2.out.below B2.out
        by_cases hlt : k < L.length
        · obtain ⟨b, off, rfl, _, hb, hc⟩ := HS.out.at k hlt wr hB3.out
          have hin : nth L k ∈ L := nth_mem.2 ⟨k, hlt, rfl⟩
          have hlx := hdm.out _ hin
          have hxd := livesR_dom H2.out.dom hlx
          have okx : okInt (nth L k) := okInt_dom (by omega) (by omega)
          obtain ⟨mx, hmx, _⟩ := livesR_some hlx
          obtain ⟨d0, d1, d2, zx, lx⟩ := h3.at hmx okx
          obtain ⟨_, _, _, v3, d3, hv3⟩ := h3.mem _ mx hmx
          obtain ⟨a3, q3, rfl, _⟩ : ∃ a c, v3 = .slice a mx.succ.length c ∧ True := by obtain ⟨a, c, rfl, _⟩ := hv3; exact ⟨a, c, rfl, trivial⟩
          have r3 := h3.root
          have z3 := h3.rbz
          have hd := h3.dom _ mx hmx
          have ch := Lib.hid (head_at h3 mx.succ (by omega) (fun y hy => okInt_dom (by have := hd.2.2.2.2.2 y hy; omega) (by have := hd.2.2.2.2.2 y hy; omega)) _ hv3.slAt mx.id mx.pred)
          have hhx : headR f2 (nth L k) = headL f2 mx.succ := by unfold headR succR; rw [hmx]
          by_cases he : headL f2 mx.succ = -1
          · have hC : Hid (failC f n = 5) := show failC f n = 5 by rw [hC4.out, if_pos (List.any_eq_true.2 ⟨_, hin, by simp [hhx, he]⟩)]
            rw [he] at ch
            clear hhx he hd hv3 hmx hlx hxd hin
            go_wp2_with fail
            refine ch.out.mono ?_
            rintro e w5 ⟨rfl, hB5⟩
            have h5 := H2.out.below (bel_below B2.out hB5)
            obtain ⟨e0, _, _, zn, ln⟩ := h5.at HM.out hi
            have fz := (h5.memS n _ HM.out).2.2.2.2 0
            have r5 := h5.root
            have z5 := h5.rbz
            have h6 := h5.setLive HM.out true
            rw [hback.out] at h6
            have K6 := Lib.hid (((K2.out.below B2.out).below hB5).set (p := ⟨g n, 0, none⟩) hS (.bool true))
            have H6 := Lib.hid h6
            have hz6 : w.heap.size ≤ (w5.setCell ⟨g n, 0, none⟩ (.bool true)).heap.size := K6.out.size
            clear h5 h6 h3 d0 d1 d2 d3 zx lx r3 z3
            go_wp2_with fail
            refine (fault_any _ _).mono ?_
            rintro e w' ⟨v, rfl, hE, hB⟩
            go_wp2_with fail
            go_ret
            exact HNo.out 5 _ _ hC.out (by decide) (hE.base hz6) (H6.out.below hB) (K6.out.below hB)
          · have heb : (headL f2 mx.succ == -1) = false := by simpa using he
            have HE := Lib.hid (show headR f2 (nth L k) ≠ -1 by rw [hhx]; exact he)
            clear hhx he hd hv3 hmx hlx hxd hin h3
            go_wp2_with fail
            refine ch.out.mono ?_
            rintro e w5 ⟨rfl, hB5⟩
            have B5 := Lib.hid (bel_below hB3.out hB5)
            clear hB5
            go_wp2_with fail
            go_roundw
            case rel =>
              go_light
              refine ⟨k + 1, by omega, by go_num, B5.out, fun j hj => ?_⟩
              by_cases e : j = k
              · subst e; exact HE.out
              · exact hno.out j (by omega)
            case measure => go_light; simp [intOf]; omega
        · obtain rfl : k = L.length := by omega
          have hC : Hid (failC f n = 0) := show failC f n = _ by
            rw [hC4.out, if_neg]
            intro h
            obtain ⟨x, hx, e⟩ := List.any_eq_true.1 h
            obtain ⟨j, hj, rfl⟩ := nth_mem.1 hx
            exact hno.out j hj (by simpa using e)
          clear hlt h3
          go_wp2_with fail
          go_ret
          exact HYes.out _ hC.out (H2.out.below B2.out) (K2.out.below B2.out)
end Go.Proofs.YtahiahjhpakeiaaGreatDoor
namespace Go.Proofs.YtahiahjhpakeiaaGreatDoor
open Go.RowKit Go.Maps Go.Sort
set_option linter.unusedVariables false
set_option linter.unusedSimpArgs false
attribute [local go_sem] later_cell later_frozen later_lt cell_set_off cell_set_block

def ids0 : List Int := [10, 20, 30, 40]
theorem up0 : Up ids0 := by unfold Up ids0; decide
theorem set0 : setI ids0 = ids0 := setI_of_up up0
theorem four0 : Four ids0 ids0 := by
  have := four_of (ids := ids0) rfl (by rw [set0]; rfl) (by unfold ids0 isPlace; simp)
  rwa [set0] at this
def F0 : RS := newF ids0 ids0 4
def F1 : RS := setM F0 4 ⟨true, 25, 1, [2, 3, 0]⟩
def F2 : RS := stabR F1 4
def F3 : RS := stabR F2 1
theorem inv0 : Inv F0 := inv_new four0
attribute [irreducible] F0 F1 F2 F3
theorem base_any (w : World) : Calls Tryz.prog 18 #[] w fun e w' => ∃ v, e = .returned v ∧ SlAt w.heap.size (fun i => .int .u64 (nth ids0 i)) 4 w' v ∧ Below w.heap.size w w' := by
  go_enter Tryz.func18, Tryz.ntmps18
  go_wp2
  go_ret
  exact ⟨_, rfl, own_ints (own_lit w (ids0.map (Value.int .u64)) 43 w.heap.size _ 4 rfl rfl (Nat.le_refl _) (by simp [maxLen])), by (repeat (first | exact Below.refl _ _ | (with_reducible assumption) | (with_reducible refine bel_later ?_ _) | (with_reducible refine bel_alloc ?_ _) | (with_reducible refine bel_drew ?_) | (with_reducible refine bel_drewN ?_ _) | (with_reducible refine bel_set ?_ (by first | (simp; done) | (simp; omega) | (dsimp only; omega)) _)))⟩

end Go.Proofs.YtahiahjhpakeiaaGreatDoor
end
section
namespace Go.Proofs.YtahiahjhpakeiaaGreatDoor
open Go.RowKit Go.Maps Go.Sort Go.WideShapes Go.ChangeShapes
set_option linter.unusedVariables false
set_option linter.unusedSimpArgs false
attribute [local go_sem] later_cell later_frozen later_lt cell_set_off cell_set_block

end Go.Proofs.YtahiahjhpakeiaaGreatDoor
namespace Go.Proofs.YtahiahjhpakeiaaGreatDoor
open Go.RowKit Go.Maps Go.Sort Go.WideShapes Go.ChangeShapes Go.Deep
set_option linter.unusedVariables false
set_option linter.unusedSimpArgs false
attribute [local go_sem] later_cell later_frozen later_lt cell_set_off cell_set_block

/-! ### A list of calls -/
structure ActD where
  kind : Int
  n : Int
  via : Int
  id : Int
deriving Inhabited
structure ActD.ok (a : ActD) : Prop where
  n : okInt a.n
  via : okInt a.via
  id : isPlace a.id
  kind : okInt a.kind
section
variable {H : Type} {enc : TypeId × Value → H} {P : Program} {w : World} {base : Nat} {spare : Nat → Bool} {held : Bool}
end
end Go.Proofs.YtahiahjhpakeiaaGreatDoor
namespace Go.Proofs.YtahiahjhpakeiaaGreatDoor
open Go.RowKit Go.Maps Go.Sort Go.WideShapes Go.ChangeShapes Go.Deep
set_option linter.unusedVariables false
set_option linter.unusedSimpArgs false

/-- A call's answer: no error, or the fault of a code. -/
def CodeIs (B : Nat) (w : World) (v : Value) (c : Int) : Prop := (c = 0 ∧ v = .nilIface) ∨ (c ≠ 0 ∧ IsErr B w v c)
def ActPost (S : Nat → Prop) (w : World) (rb mb : Nat) (f : RS) (c : Int) (e : Ending) (w' : World) : Prop := ∃ v, e = .returned v ∧ CodeIs w.heap.size w' v c ∧ (∃ g, RAt S w' rb mb g f) ∧ Kept S w w'
variable {S : Nat → Prop} {w : World} {rb mb : Nat} {g : Int → Nat} {f : RS}
theorem join_act (h : RAt S w rb mb g f) (hh : Heads f) (n id via : Int) (hn : okInt n) (hv : okInt via) (hid : isPlace id) :
    Calls Tryz.prog 19 #[.pointer (some ⟨rb, 0, none⟩), .int .i64 n, .int .u64 id, .int .i64 via] w (ActPost S w rb mb (joinR f n id via) (joinC f n id via)) :=
  (join_at h hh n id via hn hv hid).mono fun e w' hp => by
    unfold JoinPost at hp
    split at hp
    · rename_i hc
      obtain ⟨rfl, hk, hg⟩ := hp
      exact ⟨_, rfl, Or.inl ⟨hc, rfl⟩, hg, hk⟩
    · rename_i hc
      obtain ⟨v, rfl, hE, hb⟩ := hp
      rw [joinR_not hc]
      exact ⟨_, rfl, Or.inr ⟨hc, hE⟩, ⟨g, h.below hb⟩, (Kept.refl S w).below hb⟩
theorem fail_act (h : RAt S w rb mb g f) (n : Int) (hn : okInt n) :
    Calls Tryz.prog 35 #[.pointer (some ⟨rb, 0, none⟩), .int .i64 n] w (ActPost S w rb mb (failR f n) (failC f n)) :=
  (fail_at h n hn).mono fun e w' hp => by
    obtain ⟨h1, h2, h3⟩ := hp
    split at h1
    · rename_i hc
      exact ⟨_, h1, Or.inl ⟨hc, rfl⟩, ⟨g, h2⟩, h3⟩
    · rename_i hc
      obtain ⟨v, rfl, hE⟩ := h1
      exact ⟨_, rfl, Or.inr ⟨hc, hE⟩, ⟨g, h2⟩, h3⟩
/-- A ring of a call's own: it is in memory, and all that always holds of it holds. -/
structure RingOk (B : Nat) (w0 w : World) (rb mb : Nat) (f : RS) : Prop where
  ring : ∃ g, RAt (fun b => B ≤ b) w rb mb g f
  inv : Inv f
  below : RowKit.Below B w0 w
theorem RingOk.later {W wr w' : World} (h : RingOk W.heap.size W wr rb mb f) (hb : RowKit.Below wr.heap.size wr w') : RingOk W.heap.size W w' rb mb f := by
  obtain ⟨g, hg⟩ := h.ring
  exact ⟨⟨g, hg.below hb⟩, h.inv, h.below.trans (hb.mono h.below.size)⟩
/-- New, as the laws use it: a ring of four, or an error. -/
def Born (W : World) (ids : List Int) (e : Ending) (w' : World) : Prop :=
  if fourB ids = true then ∃ rb mb, e = .returned (.tuple #[.pointer (some ⟨rb, 0, none⟩), .nilIface]) ∧ RingOk W.heap.size W w' rb mb (newF ids (setI ids) 4)
  else ∃ b, e = .returned (.tuple #[.pointer none, .iface 146 (.pointer (some ⟨b, 0, none⟩))]) ∧ RowKit.Below W.heap.size W w'
theorem fourB_four {ids : List Int} (h : fourB ids = true) (hp : ∀ x ∈ ids, isPlace x) : Four ids (setI ids) := by
  unfold fourB at h
  simp at h
  exact four_of h.1 h.2 hp
theorem born_any (W wr : World) (hb : RowKit.Below W.heap.size W wr) (v : Value) (ids : List Int) (hi : SlAt 0 (fun i => .int .u64 (nth ids i)) ids.length wr v) (hp : ∀ x ∈ ids, isPlace x) :
    Calls Tryz.prog 38 #[v] wr (Born W ids) := (new_any wr v ids hi hp).mono fun e w' h => by
  unfold AskPost at h
  unfold Born
  split at h
  · rename_i hf
    obtain ⟨rb, mb, g, rfl, R, hB⟩ := h
    rw [if_pos hf]
    exact ⟨rb, mb, rfl, ⟨g, R.same (Nat.le_refl _) (fun _ _ _ => rfl) (fun b _ hS => by have := hb.size; omega) (fun b hb' => by have := hb.size; have := hB.size; omega)⟩, inv_new (fourB_four hf hp), bel_below hb hB⟩
  · rename_i hf
    obtain ⟨v, rfl, ⟨b, rfl, _⟩, hB⟩ := h
    rw [if_neg hf]
    exact ⟨b, rfl, bel_below hb hB⟩
end Go.Proofs.YtahiahjhpakeiaaGreatDoor
end
