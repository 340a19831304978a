
/-
  slices.Clone at []int; what a member tells.
-/
import Derived.Test.YthbijjpaljjapaaDoorChordG
namespace Go.Proofs.YthbijjpaljjapaaDoor
open Go.RowKit Go.Maps Go.Sort
set_option linter.unusedVariables false
set_option linter.unusedSimpArgs false
attribute [local go_sem] later_cell later_frozen later_lt cell_set_off cell_set_block

theorem clonei_any (w : World) (v : Value) (l : List Int) (h : SlAt 0 (fun i => .int .i64 (nth l i)) l.length w v) (hl : l.length ≤ 4000000000) :
    Calls Tryd.prog 26 #[v] w fun e w' => ∃ v', e = .returned v' ∧ w'.ownsRow w.heap.size 3 1 v' l.length (l.map (Value.int .i64)) ∧ Below w.heap.size w w' := by
  obtain ⟨i0, hi, hz0, hz1, hz2⟩ : ∃ i0, Tryd.prog.info? 3 = some i0 ∧ i0.zero = some (Value.int .i64 0) ∧ i0.size = 1 ∧ i0.bytes = 8 := ⟨intI, intI_at, by kernel_rfl, by kernel_rfl, by kernel_rfl⟩
  have hm := map_range_nth .i64 l
  have hA := Lib.hid h
  obtain ⟨a, cap, rfl, h1, h2, h6, h3⟩ := h
  have q22 : ∀ (w : World) (a : Option Addr) (n c n' c' : Nat), (binOp .eql 38 (.slice a n c) (.slice none n' c')).run Tryd.prog w = .ok (.bool a.isNone) w := fun w a n c n' c' => Lib.run_eql_slice_nil w _ _ a n c n' c' Tryd.underlying38
  clear h3
  cases a with
  | none =>
    have hc0 := h6 rfl
    have hl0 : l = [] := List.length_eq_zero_iff.1 (by omega)
    subst hl0
    clear hA h6 h1 h2 hl hm
    go_enter Tryd.func26, Tryd.ntmps26
    go_wp2
    go_ret
    exact ⟨_, rfl, ⟨rfl, Or.inl ⟨rfl, rfl⟩⟩, Below.refl _ _⟩
  | some a =>
    clear h6
    go_enter Tryd.func26, Tryd.ntmps26
    go_wp2_with (at_builtin; refine wpList_app rfl _ _ 38 rfl w.heap.size 3 i0 (.int .i64 0) 8 Tryd.underlying38 hi hz0 hz1 hz2 rfl _ 0 [] rfl (World.ownsRow_made w #[] 0 (Nat.le_refl _) (Nat.zero_le _) (by simp)) 0 _ _ _ rfl (hA.out.below (bel_alloc (Below.refl _ _) _)) (fun _ => rfl) ?qc1 ?qc2 ?qc3 ?_)
    case qc1 => simp [maxLen]; omega
    case qc2 => omega
    case qc3 => simp
    intro v' w1 ho hg
    go_wp2
    go_ret
    refine ⟨_, rfl, ?_, ((Below.refl _ w).alloc (Nat.le_refl _) _).grown hg (by simp) (by intro k hk; simp [Value.ownBlock] at hk; omega)⟩
    simpa [hm] using ho

variable {S : Nat → Prop} {w : World} {rb mb : Nat} {g : Int → Nat} {f : RS}
def TellPost (w : World) (f : RS) (n : Int) (e : Ending) (w' : World) : Prop :=
  if livesR f n = true then ∃ v, e = .returned (.tuple #[.agg #[.int .u64 (idR f n), .int .i64 (predR f n), v], .nilIface]) ∧ SlAt w.heap.size (fun i => .int .i64 (nth (succR f n) i)) (succR f n).length w' v ∧ Below w.heap.size w w'
  else ∃ v, e = .returned (.tuple #[.agg #[.int .u64 0, .int .i64 0, .slice none 0 0], v]) ∧ IsErr w.heap.size w' v 6 ∧ Below w.heap.size w w'
set_option maxRecDepth 100000 in
set_option maxHeartbeats 1000000 in
theorem peer_at (h : RAt S w rb mb g f) (n : Int) (hi : okInt n) : Calls Tryd.prog 19 #[.pointer (some ⟨rb, 0, none⟩), .int .i64 n] w (TellPost w f n) := by
  have r0 := h.root
  have z0 := h.rbz
  have cl := Lib.hid (fun wr (hb : Below w.heap.size w wr) => lives_at (h.below hb) n hi)
  cases hlv : livesR f n with
  | false =>
    rw [hlv] at cl
    have HP : Hid (∀ e w', (∃ v, e = .returned (.tuple #[.agg #[.int .u64 0, .int .i64 0, .slice none 0 0], v]) ∧ IsErr w.heap.size w' v 6 ∧ Below w.heap.size w w') → TellPost w f n e w') := fun e w' hx => by unfold TellPost; rw [hlv]; exact hx
    clear h hlv
    go_enter Tryd.func19, Tryd.ntmps19
    go_wp2_with fail
    refine (cl.out _ (by (repeat (first | exact Below.refl _ _ | (with_reducible assumption) | (with_reducible refine bel_later ?_ _) | (with_reducible refine bel_alloc ?_ _) | (with_reducible refine bel_drew ?_) | (with_reducible refine bel_drewN ?_ _) | (with_reducible refine bel_set ?_ (by first | (simp; done) | (simp; omega) | (dsimp only; omega)) _))))).mono ?_
    rintro e w1 ⟨rfl, rfl⟩
    go_wp2_with fail
    refine (fault_any _ _).mono ?_
    rintro e w2 ⟨v, rfl, hE, hB⟩
    have k0 : w2.cell? ⟨w.heap.size, 0, none⟩ = some (.int .u64 0) := by rw [hB.cell (by simp)]; simp [go_sem]
    have k1 : w2.cell? ⟨w.heap.size, 1, none⟩ = some (.int .i64 0) := by rw [hB.cell (by simp)]; simp [go_sem]
    have k2 : w2.cell? ⟨w.heap.size, 2, none⟩ = some (.slice none 0 0) := by rw [hB.cell (by simp)]; simp [go_sem]
    have zz : w.heap.size < w2.heap.size := by have := hB.size; simp at this; omega
    have fz : ∀ o, w2.frozen? ⟨w.heap.size, o, none⟩ = false := fun o => by rw [hB.frozen (by simp)]; simp [go_sem]
    obtain ⟨b, rfl, hb1, hb2, hb3⟩ := hE
    simp at hb1
    have hB2 : Below w.heap.size w w2 := bel_below (bel_alloc (Below.refl _ _) _) hB
    clear hB
    go_wp2_with fail
    refine bodyPost_ret (v := .tuple #[.agg #[.int .u64 0, .int .i64 0, .slice none 0 0], .iface 72 (.pointer (some ⟨b, 0, none⟩))]) ?_ rfl (HP.out _ _ ⟨_, rfl, ⟨b, rfl, by omega, ?_, ?_⟩, ?_⟩)
    · simp [results, Tryd.results19, go_sem, k0, k1, k2]
    · simpa using hb2
    · have hne : w.heap.size ≠ b := by omega
      rw [cell_set_block _ _ _ _ _ _ hne, cell_set_block _ _ _ _ _ _ hne, cell_set_block _ _ _ _ _ _ hne]; exact hb3
    · (repeat (first | exact Below.refl _ _ | (with_reducible assumption) | (with_reducible refine bel_later ?_ _) | (with_reducible refine bel_alloc ?_ _) | (with_reducible refine bel_drew ?_) | (with_reducible refine bel_drewN ?_ _) | (with_reducible refine bel_set ?_ (by first | (simp; done) | (simp; omega) | (dsimp only; omega)) _)))
  | true =>
    obtain ⟨m, hn, hml⟩ := livesR_some hlv
    rw [hlv] at cl
    obtain ⟨c0, c1, c2, zn, ln⟩ := h.at hn hi
    obtain ⟨_, _, _, v3, c3, hv3⟩ := h.mem n m hn
    obtain ⟨a3, q3, rfl, _⟩ : ∃ a c, v3 = .slice a m.succ.length c ∧ True := by obtain ⟨a, c, rfl, _⟩ := hv3; exact ⟨a, c, rfl, trivial⟩
    have hd := h.dom n m hn
    have HV := Lib.hid hv3.slAt
    have hl3 : m.succ.length ≤ 4000000000 := by omega
    have HP : Hid (∀ e w', (∃ v, e = .returned (.tuple #[.agg #[.int .u64 m.id, .int .i64 m.pred, v], .nilIface]) ∧ SlAt w.heap.size (fun i => .int .i64 (nth m.succ i)) m.succ.length w' v ∧ Below w.heap.size w w') → TellPost w f n e w') := fun e w' hx => by
      unfold TellPost; rw [if_pos hlv, show idR f n = m.id from by unfold idR; rw [hn], show predR f n = m.pred from by unfold predR; rw [hn], show succR f n = m.succ from by unfold succR; rw [hn]]; exact hx
    have lnA : ∀ o, (Instr.lookup 45 (.map (some mb)) (.int .i64 n) false).run Tryd.prog (w.alloc o) = .ok (.pointer (some ⟨g n, 0, none⟩)) (w.alloc o) := fun o => ((h.below (bel_alloc (Below.refl _ w) o)).at hn hi).2.2.2.2
    clear h hlv hv3 hd hn
    go_enter Tryd.func19, Tryd.ntmps19
    go_wp2_with fail
    refine (cl.out _ (by (repeat (first | exact Below.refl _ _ | (with_reducible assumption) | (with_reducible refine bel_later ?_ _) | (with_reducible refine bel_alloc ?_ _) | (with_reducible refine bel_drew ?_) | (with_reducible refine bel_drewN ?_ _) | (with_reducible refine bel_set ?_ (by first | (simp; done) | (simp; omega) | (dsimp only; omega)) _))))).mono ?_
    rintro e w1 ⟨rfl, rfl⟩
    go_wp2_with fail
    refine (clonei_any _ _ m.succ (HV.out.below (by (repeat (first | exact Below.refl _ _ | (with_reducible assumption) | (with_reducible refine bel_later ?_ _) | (with_reducible refine bel_alloc ?_ _) | (with_reducible refine bel_drew ?_) | (with_reducible refine bel_drewN ?_ _) | (with_reducible refine bel_set ?_ (by first | (simp; done) | (simp; omega) | (dsimp only; omega)) _))))) hl3).mono ?_
    rintro e w2 ⟨v2, rfl, ho, hB⟩
    have hsl := own_ints ho
    obtain ⟨a2, q2, rfl, _⟩ := hsl.slice
    have HS := Lib.hid hsl
    have k0 : w2.cell? ⟨w.heap.size, 0, none⟩ = some (.int .u64 0) := by rw [hB.cell (by simp; omega)]; simp [go_sem]
    have k1 : w2.cell? ⟨w.heap.size, 1, none⟩ = some (.int .i64 0) := by rw [hB.cell (by simp; omega)]; simp [go_sem]
    have k2 : w2.cell? ⟨w.heap.size, 2, none⟩ = some (.slice none 0 0) := by rw [hB.cell (by simp; omega)]; simp [go_sem]
    have j0 : w2.cell? ⟨w.heap.size + 1, 0, none⟩ = some (.int .u64 m.id) := by rw [hB.cell (by simp)]; simp [go_sem]
    have j1 : w2.cell? ⟨w.heap.size + 1, 1, none⟩ = some (.int .i64 m.pred) := by rw [hB.cell (by simp)]; simp [go_sem]
    have j2 : w2.cell? ⟨w.heap.size + 1, 2, none⟩ = some (.slice a3 m.succ.length q3) := by rw [hB.cell (by simp)]; simp [go_sem]
    have zz : w.heap.size + 1 < w2.heap.size := by have := hB.size; simp at this; omega
    have zz0 : w.heap.size < w2.heap.size := by omega
    have fz : ∀ o, w2.frozen? ⟨w.heap.size, o, none⟩ = false := fun o => by rw [hB.frozen (by simp; omega)]; simp [go_sem]
    have fz1 : ∀ o, w2.frozen? ⟨w.heap.size + 1, o, none⟩ = false := fun o => by rw [hB.frozen (by simp)]; simp [go_sem]
    have hB2 : Below w.heap.size w w2 := bel_below (bel_alloc (bel_alloc (Below.refl _ _) _) _) hB
    clear hB ho hsl
    go_wp2_with fail
    refine bodyPost_ret (v := .tuple #[.agg #[.int .u64 m.id, .int .i64 m.pred, .slice a2 m.succ.length q2], .nilIface]) ?_ rfl (HP.out _ _ ⟨_, rfl, ?_, ?_⟩)
    · simp [results, Tryd.results19, go_sem, k0, k1, k2, j0, j1, j2]
    · have H2 : SlAt (w.heap.size + 2) (fun i => .int .i64 (nth m.succ i)) m.succ.length w2 (.slice a2 m.succ.length q2) := by simpa using HS.out
      refine SlAt.base (B := w.heap.size + 2) ?_ (by omega)
      repeat (refine SlAt.set ?_ (by dsimp only; omega) _)
      exact H2
    · (repeat (first | exact Below.refl _ _ | (with_reducible assumption) | (with_reducible refine bel_later ?_ _) | (with_reducible refine bel_alloc ?_ _) | (with_reducible refine bel_drew ?_) | (with_reducible refine bel_drewN ?_ _) | (with_reducible refine bel_set ?_ (by first | (simp; done) | (simp; omega) | (dsimp only; omega)) _)))
end Go.Proofs.YthbijjpaljjapaaDoor
