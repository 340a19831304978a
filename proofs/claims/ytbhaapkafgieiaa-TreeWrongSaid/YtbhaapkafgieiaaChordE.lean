
/-
  What Lives and Id of a ring answer.
  peer.Head, Nearer, Rectify, Follow over a ring.
  peer.Follow: whoever is followed, and whom it knows, three at most.
  What a fault is; what Stabilize leaves of a ring.
  What Stabilize leaves of a ring.
-/
import Derived.Test.YtbhaapkafgieiaaRows
import Derived.Test.YtbhaapkafgieiaaChordH
import Derived.LoopTactic
import Derived.Outline
import Derived.BigQuiet
import Derived.Test.YtbhaapkafgieiaaRingA
import Derived.Deep.RegionWith
import Derived.Test.YtbhaapkafgieiaaCalmTail
import Derived.Test.YtbhaapkafgieiaaSetP
import Derived.Deep.Cut
namespace Go.Proofs.Ytbhaapkafgieiaa
open Go.RowKit Go.Maps
set_option linter.unusedVariables false
set_option linter.unusedSimpArgs false
attribute [local go_sem] later_cell later_frozen later_lt

theorem keyInt : Keyed Try.prog 3 := int_keyed Try.underlying3
abbrev RAt := RingIs Try.prog 3
variable {S : Nat → Prop} {w : World} {rb mb : Nat} {g : Int → Nat} {f : RS}

/-- A member's cells, and its entry in the map. -/
theorem RingIs.at (h : RAt S w rb mb g f) {n : Int} {m : Mem} (hn : f n = some m) (hi : okInt n) :
    w.cell? ⟨g n, 0, none⟩ = some (.bool m.live) ∧ w.cell? ⟨g n, 1, none⟩ = some (.int .u64 m.id) ∧ w.cell? ⟨g n, 2, none⟩ = some (.int .i64 m.pred) ∧ g n < w.heap.size ∧
    (Instr.lookup 66 (.map (some mb)) (.int .i64 n) false).run Try.prog w = .ok (.pointer (some ⟨g n, 0, none⟩)) w := by
  obtain ⟨c0, c1, c2, _⟩ := h.mem n m hn
  have := h.look keyInt Try.underlying3 Try.underlying66 (Try.zeroValue72 w) n hi
  rw [show ptrM f g n = some (g n) from by unfold ptrM; rw [hn]; rfl] at this
  exact ⟨c0, c1, c2, (h.memS n m hn).2.1, this⟩
theorem RingIs.out (h : RAt S w rb mb g f) {n : Int} (hn : f n = none) (hi : okInt n) :
    (Instr.lookup 66 (.map (some mb)) (.int .i64 n) false).run Try.prog w = .ok (.pointer none) w := by
  have := h.look keyInt Try.underlying3 Try.underlying66 (Try.zeroValue72 w) n hi
  rwa [show ptrM f g n = none from by unfold ptrM; rw [hn]; rfl] at this

theorem lives_at (h : RAt S w rb mb g f) (n : Int) (hi : okInt n) :
    Calls Try.prog 14 #[.pointer (some ⟨rb, 0, none⟩), .int .i64 n] w fun e w' => e = .returned (.bool (livesR f n)) ∧ w = w' := by
  have r0 := h.root
  have z0 := h.rbz
  cases hn : f n with
  | none =>
    have e : livesR f n = false := by unfold livesR; rw [hn]
    have hl := h.out hn hi
    have E := Lib.hid e
    clear h hn e
    go_enter Try.func14, Try.ntmps14
    go_wp2
    go_ret
    exact ⟨by rw [E.out]; first | done | rfl, rfl⟩
  | some m =>
    have e : livesR f n = m.live := by unfold livesR; rw [hn]
    obtain ⟨c0, _, _, hz, hl⟩ := h.at hn hi
    have E := Lib.hid e
    clear h hn e
    go_enter Try.func14, Try.ntmps14
    go_wp2
    go_ret
    exact ⟨by rw [E.out]; first | done | rfl, rfl⟩
theorem id_at (h : RAt S w rb mb g f) (n : Int) (hi : okInt n) :
    Calls Try.prog 36 #[.pointer (some ⟨rb, 0, none⟩), .int .i64 n] w fun e w' => e = .returned (.int .u64 (idR f n)) ∧ w = w' := by
  have r0 := h.root
  have z0 := h.rbz
  cases hn : f n with
  | none =>
    have e : idR f n = 0 := by unfold idR; rw [hn]
    have hl := h.out hn hi
    have E := Lib.hid e
    clear h hn e
    go_enter Try.func36, Try.ntmps36
    go_wp2
    go_ret
    exact ⟨by rw [E.out]; first | done | rfl, rfl⟩
  | some m =>
    have e : idR f n = m.id := by unfold idR; rw [hn]
    obtain ⟨_, c1, _, hz, hl⟩ := h.at hn hi
    have E := Lib.hid e
    clear h hn e
    go_enter Try.func36, Try.ntmps36
    go_wp2
    go_ret
    exact ⟨by rw [E.out]; first | done | rfl, rfl⟩
end Go.Proofs.Ytbhaapkafgieiaa
namespace Go.Proofs.Ytbhaapkafgieiaa
open Go.RowKit Go.Maps
set_option linter.unusedVariables false
set_option linter.unusedSimpArgs false
attribute [local go_sem] later_cell later_frozen later_lt cell_set_off cell_set_block

theorem method_lives (k : Nat) (a : Option Addr) (w : World) : (method (k + 1) 35 (.pointer a) "Lives").run Try.prog w = .ok (14, .pointer a) w := by kernel_rfl
theorem method_id (k : Nat) (a : Option Addr) (w : World) : (method (k + 1) 35 (.pointer a) "Id").run Try.prog w = .ok (36, .pointer a) w := by kernel_rfl
theorem ahead_lives (k : Nat) (b o : Nat) (w : World) : (nilAhead (k + 1) 35 (.pointer (some ⟨b, o, none⟩)) "Lives").run Try.prog w = .ok (some false) w := by kernel_rfl
theorem ahead_id (k : Nat) (b o : Nat) (w : World) : (nilAhead (k + 1) 35 (.pointer (some ⟨b, o, none⟩)) "Id").run Try.prog w = .ok (some false) w := by kernel_rfl
variable {S : Nat → Prop} {w : World} {rb mb : Nat} {g : Int → Nat} {f : RS}

theorem indexf_at (h : RAt S w rb mb g f) (l : List Int) (hlm : l.length ≤ 4000000000) (hok : ∀ x ∈ l, okInt x) (lv : Value) (hl : SlAt 0 (fun i => .int .i64 (nth l i)) l.length w lv) :
    Calls Try.prog 116 #[lv, .func (.method "Lives") #[.iface 35 (.pointer (some ⟨rb, 0, none⟩))] #[]] w fun e w' => e = .returned (.int .i64 (firstR f l)) ∧ Below w.heap.size w w' := by
  have hlv := Lib.hid fun (wr : World) (hb : Below w.heap.size w wr) (k : Nat) (hk : k < l.length) => lives_at (h.below hb) (nth l k) (hok _ (by rw [nth_eq hk]; exact List.getElem_mem hk))
  have hmm := method_lives
  obtain ⟨a, cap, rfl, _, _, _, hl⟩ := hl
  have hcell := Lib.hid fun (k : Nat) (h : k < l.length) (wr : World) (hB : Below w.heap.size w wr) => (by
    obtain ⟨b, off, rfl, _, hb, hc⟩ := hl.resolve_left (by omega)
    exact ⟨b, off, rfl, (hB.cell (p := ⟨b, off + k, none⟩) hb).trans (hc k h)⟩ : ∃ b off : Nat, a = some ⟨b, off, none⟩ ∧ wr.cell? ⟨b, off + k, none⟩ = some (.int .i64 (nth l k)))
  clear hl h hok
  go_enter Try.func116, Try.ntmps116
  go_wp2
  go_loopw [5, 8] (fun _ i wr => ∃ k : Nat, k ≤ l.length ∧ i = .int .i64 k ∧ Below w.heap.size w wr ∧ Hid (∀ j, j < k → livesR f (nth l j) = false)) (fun _ i _ => l.length - (intOf i).toNat)
  case atStart => exact ⟨0, Nat.zero_le _, rfl, Below.refl _ _, fun j hj => absurd hj (by omega)⟩
  case round =>
    obtain ⟨k, hk, rfl, hB, hno⟩ := hrel
    by_cases hlt : k < l.length
    · obtain ⟨b, off, rfl, ck⟩ := hcell.out k hlt wr hB
      go_wp2_with (go_at_call 14; refine (hlv.out _ hB k hlt).mono ?_; rintro e w' ⟨rfl, rfl⟩)
      · have h1 : livesR f (nth l k) = true := by assumption
        go_ret
        exact ⟨by rw [firstR_some hlt hno.out h1]; first | done | rfl, hB⟩
      · have h1 : livesR f (nth l k) = false := by assumption
        go_roundw
        case rel =>
          go_light
          refine ⟨k + 1, by omega, by go_num, hB, fun j hj => ?_⟩
          by_cases e : j = k
          · subst e; exact h1
          · exact hno.out j (by omega)
        case measure => go_light; simp [intOf]; omega
    · go_wp2
      go_ret
      obtain rfl : k = l.length := by omega
      exact ⟨by rw [firstR_none hno.out]; first | done | rfl, hB⟩

theorem head_at (h : RAt S w rb mb g f) (l : List Int) (hlm : l.length ≤ 4000000000) (hok : ∀ x ∈ l, okInt x) (lv : Value) (hl : SlAt 0 (fun i => .int .i64 (nth l i)) l.length w lv) (id pred : Int) :
    Calls Try.prog 111 #[.agg #[.int .u64 id, .int .i64 pred, lv], .iface 35 (.pointer (some ⟨rb, 0, none⟩))] w fun e w' => e = .returned (.int .i64 (headL f l)) ∧ Below w.heap.size w w' := by
  have hix := Lib.hid fun (wr : World) (hb : Below w.heap.size w wr) => indexf_at (h.below hb) l hlm hok lv (hl.below hb)
  have hmm := ahead_lives
  obtain ⟨a, cap, rfl, _, _, _, hl⟩ := hl
  clear h hok
  rcases headL_at f l with ⟨e1, e2⟩ | ⟨k, hk, e1, e2⟩
  · rw [e1] at hix
    have E := Lib.hid e2
    clear e1 e2
    go_enter Try.func111, Try.ntmps111
    go_wp2
    refine wp_region_calm (by kernel_rfl) (by kernel_rfl) ?_
    repeat (first | (go_big_quiet_step ((go_at_call 116; exact calls_calm (hix.out _ (by (repeat (first | exact Below.refl _ _ | (with_reducible assumption) | (with_reducible refine bel_later ?_ _) | (with_reducible refine bel_alloc ?_ _) | (with_reducible refine bel_drew ?_) | (with_reducible refine bel_drewN ?_ _) | (with_reducible refine bel_set ?_ (by first | (simp; done) | (simp; omega) | (dsimp only; omega)) _)))))))) | (refine wpQuiet_step (fun K hK => ?_); go_simp; first | (refine hK _ ?_; clear hK K) | (apply Exists.intro; refine ⟨fun _ => ?_, hK _ ?_⟩; (go_at_call 116; exact calls_calm (hix.out _ (by (repeat (first | exact Below.refl _ _ | (with_reducible assumption) | (with_reducible refine bel_later ?_ _) | (with_reducible refine bel_alloc ?_ _) | (with_reducible refine bel_drew ?_) | (with_reducible refine bel_drewN ?_ _) | (with_reducible refine bel_set ?_ (by first | (simp; done) | (simp; omega) | (dsimp only; omega)) _)))))); clear hK K)))
    refine wpQuiet_nil ?_
    intro _ hw'
    obtain ⟨xq, hw''⟩ := hw'
    subst hw''
    go_wp2
    go_ret
    exact ⟨by rw [E.out]; first | done | rfl, by (repeat (first | exact Below.refl _ _ | (with_reducible assumption) | (with_reducible refine bel_later ?_ _) | (with_reducible refine bel_alloc ?_ _) | (with_reducible refine bel_drew ?_) | (with_reducible refine bel_drewN ?_ _) | (with_reducible refine bel_set ?_ (by first | (simp; done) | (simp; omega) | (dsimp only; omega)) _)))⟩
  · rw [e1] at hix
    have E := Lib.hid e2
    obtain ⟨b, off, rfl, _, hb, hc⟩ := hl.resolve_left (by omega)
    have ck := hc k hk
    clear e1 e2 hl hc
    go_enter Try.func111, Try.ntmps111
    go_wp2
    refine wp_region_calm (by kernel_rfl) (by kernel_rfl) ?_
    repeat (first | (go_big_quiet_step ((go_at_call 116; exact calls_calm (hix.out _ (by (repeat (first | exact Below.refl _ _ | (with_reducible assumption) | (with_reducible refine bel_later ?_ _) | (with_reducible refine bel_alloc ?_ _) | (with_reducible refine bel_drew ?_) | (with_reducible refine bel_drewN ?_ _) | (with_reducible refine bel_set ?_ (by first | (simp; done) | (simp; omega) | (dsimp only; omega)) _)))))))) | (refine wpQuiet_step (fun K hK => ?_); go_simp; first | (refine hK _ ?_; clear hK K) | (apply Exists.intro; refine ⟨fun _ => ?_, hK _ ?_⟩; (go_at_call 116; exact calls_calm (hix.out _ (by (repeat (first | exact Below.refl _ _ | (with_reducible assumption) | (with_reducible refine bel_later ?_ _) | (with_reducible refine bel_alloc ?_ _) | (with_reducible refine bel_drew ?_) | (with_reducible refine bel_drewN ?_ _) | (with_reducible refine bel_set ?_ (by first | (simp; done) | (simp; omega) | (dsimp only; omega)) _)))))); clear hK K)))
    refine wpQuiet_nil ?_
    intro _ hw'
    obtain ⟨xq, hw''⟩ := hw'
    subst hw''
    go_wp2
    go_ret
    exact ⟨by rw [E.out]; first | done | rfl, by (repeat (first | exact Below.refl _ _ | (with_reducible assumption) | (with_reducible refine bel_later ?_ _) | (with_reducible refine bel_alloc ?_ _) | (with_reducible refine bel_drew ?_) | (with_reducible refine bel_drewN ?_ _) | (with_reducible refine bel_set ?_ (by first | (simp; done) | (simp; omega) | (dsimp only; omega)) _)))⟩

theorem near_at (h : RAt S w rb mb g f) (q fr to : Int) (hq : okInt q) (ht : okInt to) :
    Calls Try.prog 113 #[.int .i64 q, .int .u64 fr, .int .i64 to, .iface 35 (.pointer (some ⟨rb, 0, none⟩))] w fun e w' => e = .returned (.bool (nearR f q fr to)) ∧ Below w.heap.size w w' := by
  have hl := Lib.hid (lives_at h q hq)
  have hd := Lib.hid (id_at h q hq)
  have hd2 := Lib.hid (id_at h to ht)
  have hm1 := method_lives
  have hm2 := method_id
  have hm3 := ahead_lives
  have hm4 := ahead_id
  have hc : (q != -1) = false ∧ nearR f q fr to = false ∨ (q != -1) = true ∧ (livesR f q = false ∧ nearR f q fr to = false ∨ livesR f q = true ∧ nearR f q fr to = withinB (idR f q) fr (idR f to)) := by
    unfold nearR
    cases h1 : q != -1 <;> cases h2 : livesR f q <;> simp
  clear h hq ht
  rcases hc with ⟨c1, E⟩ | ⟨c1, ⟨c2, E⟩ | ⟨c2, E⟩⟩
  all_goals
    have EE := Lib.hid E
    clear E
    go_enter Try.func113, Try.ntmps113
    go_wp2_with (first | (go_at_call 14; refine hl.out.mono ?_; rintro e w' ⟨rfl, rfl⟩) | (go_at_call_of 36 (Value.int .i64 q); refine hd.out.mono ?_; rintro e w' ⟨rfl, rfl⟩) | (go_at_call_of 36 (Value.int .i64 to); refine hd2.out.mono ?_; rintro e w' ⟨rfl, rfl⟩) | (go_at_call 114; refine (within_any _ _ _ _).mono ?_; rintro e w' ⟨rfl, rfl⟩))
    go_ret
    exact ⟨by rw [EE.out]; first | done | rfl, Below.refl _ _⟩
end Go.Proofs.Ytbhaapkafgieiaa
namespace Go.Proofs.Ytbhaapkafgieiaa
open Go.RowKit Go.Maps
set_option linter.unusedVariables false
set_option linter.unusedSimpArgs false
attribute [local go_sem] later_cell later_frozen later_lt

noncomputable def intI : TypeInfo := (Try.prog.info? 3).get (by kernel_rfl)
theorem intI_at : Try.prog.info? 3 = some intI := by kernel_rfl

end Go.Proofs.Ytbhaapkafgieiaa
namespace Go.Proofs.Ytbhaapkafgieiaa
open Go.RowKit Go.Maps
set_option linter.unusedVariables false
set_option linter.unusedSimpArgs false
attribute [local go_sem] later_cell later_frozen later_lt

/-- An error of this layer: a fault of a code. -/
def IsErr (B : Nat) (w : World) (v : Value) (c : Int) : Prop :=
  ∃ b : Nat, v = .iface 91 (.pointer (some ⟨b, 0, none⟩)) ∧ B ≤ b ∧ b < w.heap.size ∧ w.cell? ⟨b, 2, none⟩ = some (.iface 44 (.int .i64 c))
theorem IsErr.below {B : Nat} {w w' : World} {v : Value} {c : Int} (h : IsErr B w v c) (hb : Below w.heap.size w w') : IsErr B w' v c := by
  obtain ⟨b, rfl, h1, h2, h3⟩ := h
  exact ⟨b, rfl, h1, Nat.lt_of_lt_of_le h2 hb.size, (hb.cell (p := ⟨b, 2, none⟩) h2).trans h3⟩
theorem fault_any (w : World) (c : Int) : Calls Try.prog 25 #[.int .i64 c] w fun e w' => ∃ v, e = .returned v ∧ IsErr w.heap.size w' v c ∧ Below w.heap.size w w' := by
  go_enter Try.func25, Try.ntmps25
  go_wp2
  go_ret
  refine ⟨_, rfl, ⟨w.heap.size, rfl, Nat.le_refl _, by simp, by simp [go_sem]⟩, bel_alloc (Below.refl _ _) _⟩

theorem set_at {w : World} {b o : Nat} {u v : Value} (h : w.cell? ⟨b, o, none⟩ = some u) : (w.setCell ⟨b, o, none⟩ v).cell? ⟨b, o, none⟩ = some v := World.cell?_setCell_same _ _ _ h
section
variable {S : Nat → Prop} {w w1 w2 : World} {rb mb : Nat} {g : Int → Nat} {f : RS}
/-- Blocks that are not the ring's own. -/
abbrev Off (S : Nat → Prop) (rb mb : Nat) (g : Int → Nat) (f : RS) (b : Nat) : Prop := S b ∧ b ≠ rb ∧ b ≠ mb ∧ ∀ j m, f j = some m → b ≠ g j
theorem RingIs.fresh (h : RAt S w rb mb g f) {b : Nat} (hb : w.heap.size ≤ b) : Off S rb mb g f b :=
  ⟨h.up b hb, by have := h.rbz; omega, by have := h.mbz; omega, fun j m e => by have := (h.memS j m e).2.1; omega⟩
theorem RingIs.newSl (h : RAt S w rb mb g f) {l : List Int} {w' : World} {v : Value} (hv : SlAt w.heap.size (fun i => .int .i64 (nth l i)) l.length w' v) : SlIn (Off S rb mb g f) l w' v :=
  SlIn.of_slAt hv fun b hb => h.fresh hb
/-- A member's list is another one. -/
theorem RingIs.setSucc (h : RAt S w rb mb g f) {n : Int} {m : Mem} (hn : f n = some m) {l : List Int} {v : Value} (hv : SlIn (Off S rb mb g f) l w v) (hd : Dom (setM f n ⟨m.live, m.id, m.pred, l⟩)) :
    RAt S (w.setCell ⟨g n, 3, none⟩ v) rb mb g (setM f n ⟨m.live, m.id, m.pred, l⟩) := by
  obtain ⟨c0, c1, c2, u, c3, hu⟩ := h.mem n m hn
  refine h.write hn (size_set _ _ _) (fun b hb => Below.heap_setCell _ _ _ _ hb) (fun o => by rw [World.frozen?_setCell]; exact (h.memS n m hn).2.2.2.2 o) hd (v := v) ?_ ?_ ?_ ?_ hv
  · rw [cell_set_off _ _ _ _ _ (by decide)]; exact c0
  · rw [cell_set_off _ _ _ _ _ (by decide)]; exact c1
  · rw [cell_set_off _ _ _ _ _ (by decide)]; exact c2
  · exact set_at c3
/-- What a member knows is another thing. -/
theorem RingIs.setPred (h : RAt S w rb mb g f) {n : Int} {m : Mem} (hn : f n = some m) {q : Int} {v : Value} (c3 : w.cell? ⟨g n, 3, none⟩ = some v) (hv : SlIn (Off S rb mb g f) m.succ w v) (hd : Dom (setM f n ⟨m.live, m.id, q, m.succ⟩)) :
    RAt S (((w.setCell ⟨g n, 1, none⟩ (.int .u64 m.id)).setCell ⟨g n, 2, none⟩ (.int .i64 q)).setCell ⟨g n, 3, none⟩ v) rb mb g (setM f n ⟨m.live, m.id, q, m.succ⟩) := by
  obtain ⟨c0, c1, c2, _⟩ := h.mem n m hn
  refine h.write hn (by rw [size_set, size_set, size_set]) (fun b hb => ?_) (fun o => by rw [World.frozen?_setCell, World.frozen?_setCell, World.frozen?_setCell]; exact (h.memS n m hn).2.2.2.2 o) hd (v := v) ?_ ?_ ?_ ?_ hv
  · rw [Below.heap_setCell _ _ _ _ hb, Below.heap_setCell _ _ _ _ hb, Below.heap_setCell _ _ _ _ hb]
  · rw [cell_set_off _ _ _ _ _ (by decide), cell_set_off _ _ _ _ _ (by decide), cell_set_off _ _ _ _ _ (by decide)]; exact c0
  · rw [cell_set_off _ _ _ _ _ (by decide), cell_set_off _ _ _ _ _ (by decide)]; exact set_at c1
  · rw [cell_set_off _ _ _ _ _ (by decide)]; exact set_at (by rw [cell_set_off _ _ _ _ _ (by decide)]; exact c2)
  · exact set_at (by rw [cell_set_off _ _ _ _ _ (by decide), cell_set_off _ _ _ _ _ (by decide)]; exact c3)
end

theorem okInt_dom {n : Int} (h0 : -1 ≤ n) (h1 : n < 32) : okInt n := by
  unfold okInt Lit.wf
  rw [Bool.and_eq_true, decide_eq_true_eq, decide_eq_true_eq]
  exact ⟨by show (-9223372036854775808 : Int) ≤ n; omega, by show n ≤ (9223372036854775807 : Int); omega⟩
end Go.Proofs.Ytbhaapkafgieiaa
namespace Go.Proofs.Ytbhaapkafgieiaa
open Go.RowKit Go.Maps
set_option linter.unusedVariables false
set_option linter.unusedSimpArgs false
attribute [local go_sem] later_cell later_frozen later_lt

theorem dom_succ {f : RS} (h : Dom f) {n : Int} {m : Mem} (hn : f n = some m) {l : List Int} (h1 : l.length ≤ 3) (h2 : ∀ x ∈ l, 0 ≤ x ∧ x < 32) : Dom (setM f n ⟨m.live, m.id, m.pred, l⟩) := fun j mj e => by
  by_cases ej : j = n
  · subst ej; rw [setM_same] at e; cases e
    obtain ⟨a, b, c, _, d, _⟩ := h j m hn
    exact ⟨a, b, c, h1, d, h2⟩
  · rw [setM_ne f _ ej] at e; exact h j mj e
theorem dom_pred {f : RS} (h : Dom f) {n : Int} {m : Mem} (hn : f n = some m) {q : Int} (h1 : -1 ≤ q) (h2 : q < 32) : Dom (setM f n ⟨m.live, m.id, q, m.succ⟩) := fun j mj e => by
  by_cases ej : j = n
  · subst ej; rw [setM_same] at e; cases e
    obtain ⟨a, b, c, d, _, k⟩ := h j m hn
    exact ⟨a, b, c, d, ⟨h1, h2⟩, k⟩
  · rw [setM_ne f _ ej] at e; exact h j mj e
theorem follow_len (s : Int) (l : List Int) : (followL s l).length ≤ 3 := by unfold followL; rw [List.length_take]; omega
theorem follow_mem {s : Int} {l : List Int} (hs : 0 ≤ s ∧ s < 32) (hl : ∀ x ∈ l, 0 ≤ x ∧ x < 32) : ∀ x ∈ followL s l, 0 ≤ x ∧ x < 32 := fun x hx => by
  rcases List.mem_cons.1 (List.mem_of_mem_take hx) with rfl | h
  · exact hs
  · exact hl x h
variable {S : Nat → Prop} {w : World} {rb mb : Nat} {g : Int → Nat} {f : RS}

theorem setM_setM (f : RS) (n : Int) (m m' : Mem) : setM (setM f n m) n m' = setM f n m' := funext fun j => by unfold setM; split <;> rfl
theorem setM_get {f : RS} {n s : Int} {m ms : Mem} {l : List Int} (hn : f n = some m) (hs : f s = some ms) :
    ∃ m3, setM f n ⟨m.live, m.id, m.pred, l⟩ s = some m3 ∧ m3.live = ms.live ∧ m3.id = ms.id ∧ m3.pred = ms.pred ∧ (s ≠ n → m3 = ms) := by
  by_cases e : s = n
  · subst e
    rw [hn] at hs
    cases hs
    exact ⟨_, setM_same _ _ _, rfl, rfl, rfl, fun h => absurd rfl h⟩
  · exact ⟨ms, by rw [setM_ne f _ e]; exact hs, rfl, rfl, rfl, fun _ => rfl⟩
theorem lives_setM {f : RS} {n : Int} {m : Mem} {l : List Int} {q : Int} (hn : f n = some m) (j : Int) : livesR (setM f n ⟨m.live, m.id, q, l⟩) j = livesR f j := by
  rw [livesR_set]; split
  · rename_i e; rw [e]; unfold livesR; rw [hn]
  · rfl
theorem id_setM {f : RS} {n : Int} {m : Mem} {l : List Int} {q : Int} (hn : f n = some m) (j : Int) : idR (setM f n ⟨m.live, m.id, q, l⟩) j = idR f j := by
  rw [idR_set]; split
  · rename_i e; rw [e]; unfold idR; rw [hn]
  · rfl
theorem near_congr {f f' : RS} (h1 : ∀ j, livesR f' j = livesR f j) (h2 : ∀ j, idR f' j = idR f j) (q fr to : Int) : nearR f' q fr to = nearR f q fr to := by unfold nearR; rw [h1, h2, h2]
theorem rect_congr {f f' : RS} (h1 : ∀ j, livesR f' j = livesR f j) (h2 : ∀ j, idR f' j = idR f j) (id pred n : Int) : rectR f' id pred n = rectR f id pred n := by unfold rectR; rw [h1, h2, h2]
theorem near_ne {f : RS} {q n s : Int} (h : nearR f q (idR f n) s = true) : q ≠ n ∧ livesR f q = true := by
  unfold nearR at h
  rw [Bool.and_eq_true, Bool.and_eq_true] at h
  refine ⟨fun e => ?_, h.1.2⟩
  have := h.2
  rw [e] at this
  unfold withinB at this
  split at this <;> simp at this
theorem rect_dom {f : RS} {id pred n : Int} (hp : -1 ≤ pred ∧ pred < 32) (hn : 0 ≤ n ∧ n < 32) : -1 ≤ rectR f id pred n ∧ rectR f id pred n < 32 := by
  unfold rectR; split <;> omega
/-- The member that looked has its list; who is told has its own. -/
theorem stabR_eq {f : RS} {n T : Int} {m mT m' : Mem} {l : List Int} (hn : f n = some m) (hT : stabT f n = T) (hmT : f T = some mT) (hl : l = followL T mT.succ) (hm' : setM f n ⟨m.live, m.id, m.pred, l⟩ T = some m') :
    setM (setM f n ⟨m.live, m.id, m.pred, l⟩) T ⟨m'.live, m'.id, rectR (setM f n ⟨m.live, m.id, m.pred, l⟩) m'.id m'.pred n, m'.succ⟩ = stabR f n := by
  have h1 : stab1 f n = setM f n ⟨m.live, m.id, m.pred, l⟩ := by
    unfold stab1
    rw [hT, hl]
    unfold livesR idR predR succR
    rw [hn, hmT]
  obtain ⟨m3, e, e1, e2, e3, _⟩ := setM_get (l := l) hn hmT
  rw [hm'] at e
  cases e
  have hsu : succR (setM f n ⟨m.live, m.id, m.pred, l⟩) T = m'.succ := by unfold succR; rw [hm']
  unfold stabR
  rw [hT, h1, hsu, rect_congr (lives_setM hn) (id_setM hn), e1, e2, e3]
  unfold livesR idR predR
  rw [hmT]

def StabPost (S : Nat → Prop) (w : World) (rb mb : Nat) (g : Int → Nat) (f : RS) (n : Int) (e : Ending) (w' : World) : Prop :=
  if livesR f n = true then e = .returned .nilIface ∧ RAt S w' rb mb g (stabR f n) ∧ Kept S w w' else ∃ v, e = .returned v ∧ IsErr w.heap.size w' v 6 ∧ Below w.heap.size w w'
theorem stabT_no {f : RS} {n : Int} {m : Mem} (hn : f n = some m) {s : Int} (hs : s = headL f m.succ) {ms : Mem} (hms : f s = some ms) (h : nearR f ms.pred m.id s = false) : stabT f n = s := by
  have e1 : headR f n = s := by unfold headR succR; rw [hn, hs]
  unfold stabT
  rw [e1, show predR f s = ms.pred from by unfold predR; rw [hms], show idR f n = m.id from by unfold idR; rw [hn], h]
  rfl
theorem stabT_yes {f : RS} {n : Int} {m : Mem} (hn : f n = some m) {s : Int} (hs : s = headL f m.succ) {ms : Mem} (hms : f s = some ms) (h : nearR f ms.pred m.id s = true) : stabT f n = ms.pred := by
  have e1 : headR f n = s := by unfold headR succR; rw [hn, hs]
  unfold stabT
  rw [e1, show predR f s = ms.pred from by unfold predR; rw [hms], show idR f n = m.id from by unfold idR; rw [hn], h]
  rfl
end Go.Proofs.Ytbhaapkafgieiaa
