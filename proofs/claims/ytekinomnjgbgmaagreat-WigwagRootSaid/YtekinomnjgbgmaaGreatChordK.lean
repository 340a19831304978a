
/-
  slices.Clone at []int; what a member tells.
  slices.Index at api.Id; the closure of chord.New: which address has the place so many behind.
  The ring of the base members, in plain words.
-/
import Derived.Test.YtekinomnjgbgmaaGreatChordG
namespace Go.Proofs.YtekinomnjgbgmaaGreat
open Go.RowKit Go.Maps Go.Sort
set_option linter.unusedVariables false
set_option linter.unusedSimpArgs false
attribute [local go_sem] later_cell later_frozen later_lt cell_set_off cell_set_block

theorem clonei_any (w : World) (v : Value) (l : List Int) (h : SlAt 0 (fun i => .int .i64 (nth l i)) l.length w v) (hl : l.length ≤ 4000000000) :
    Calls Tryz.prog 29 #[v] w fun e w' => ∃ v', e = .returned v' ∧ w'.ownsRow w.heap.size 3 1 v' l.length (l.map (Value.int .i64)) ∧ Below w.heap.size w w' := by
  obtain ⟨i0, hi, hz0, hz1, hz2⟩ : ∃ i0, Tryz.prog.info? 3 = some i0 ∧ i0.zero = some (Value.int .i64 0) ∧ i0.size = 1 ∧ i0.bytes = 8 := ⟨intI, intI_at, by kernel_rfl, by kernel_rfl, by kernel_rfl⟩
  have hm := map_range_nth .i64 l
  have hA := Lib.hid h
  obtain ⟨a, cap, rfl, h1, h2, h6, h3⟩ := h
  have q22 : ∀ (w : World) (a : Option Addr) (n c n' c' : Nat), (binOp .eql 37 (.slice a n c) (.slice none n' c')).run Tryz.prog w = .ok (.bool a.isNone) w := fun w a n c n' c' => Lib.run_eql_slice_nil w _ _ a n c n' c' Tryz.underlying37
  clear h3
  cases a with
  | none =>
    have hc0 := h6 rfl
    have hl0 : l = [] := List.length_eq_zero_iff.1 (by omega)
    subst hl0
    clear hA h6 h1 h2 hl hm
    go_enter Tryz.func29, Tryz.ntmps29
    go_wp2
    go_ret
    exact ⟨_, rfl, ⟨rfl, Or.inl ⟨rfl, rfl⟩⟩, Below.refl _ _⟩
  | some a =>
    clear h6
    go_enter Tryz.func29, Tryz.ntmps29
    go_wp2_with (at_builtin; refine wpList_app rfl _ _ 37 rfl w.heap.size 3 i0 (.int .i64 0) 8 Tryz.underlying37 hi hz0 hz1 hz2 rfl _ 0 [] rfl (World.ownsRow_made w #[] 0 (Nat.le_refl _) (Nat.zero_le _) (by simp)) 0 _ _ _ rfl (hA.out.below (bel_alloc (Below.refl _ _) _)) (fun _ => rfl) ?qc1 ?qc2 ?qc3 ?_)
    case qc1 => simp [maxLen]; omega
    case qc2 => omega
    case qc3 => simp
    intro v' w1 ho hg
    go_wp2
    go_ret
    refine ⟨_, rfl, ?_, ((Below.refl _ w).alloc (Nat.le_refl _) _).grown hg (by simp) (by intro k hk; simp [Value.ownBlock] at hk; omega)⟩
    simpa [hm] using ho

variable {S : Nat → Prop} {w : World} {rb mb : Nat} {g : Int → Nat} {f : RS}
def TellPost (w : World) (f : RS) (n : Int) (e : Ending) (w' : World) : Prop :=
  if livesR f n = true then ∃ v, e = .returned (.tuple #[.agg #[.int .u64 (idR f n), .int .i64 (predR f n), v], .nilIface]) ∧ SlAt w.heap.size (fun i => .int .i64 (nth (succR f n) i)) (succR f n).length w' v ∧ Below w.heap.size w w'
  else ∃ v, e = .returned (.tuple #[.agg #[.int .u64 0, .int .i64 0, .slice none 0 0], v]) ∧ IsErr w.heap.size w' v 6 ∧ Below w.heap.size w w'
set_option maxRecDepth 100000 in
set_option maxHeartbeats 1000000 in
theorem peer_at (h : RAt S w rb mb g f) (n : Int) (hi : okInt n) : Calls Tryz.prog 98 #[.pointer (some ⟨rb, 0, none⟩), .int .i64 n] w (TellPost w f n) := by
  have r0 := h.root
  have z0 := h.rbz
  have cl := Lib.hid (fun wr (hb : Below w.heap.size w wr) => lives_at (h.below hb) n hi)
  cases hlv : livesR f n with
  | false =>
    rw [hlv] at cl
    have HP : Hid (∀ e w', (∃ v, e = .returned (.tuple #[.agg #[.int .u64 0, .int .i64 0, .slice none 0 0], v]) ∧ IsErr w.heap.size w' v 6 ∧ Below w.heap.size w w') → TellPost w f n e w') := fun e w' hx => by unfold TellPost; rw [hlv]; exact hx
    clear h hlv
    go_enter Tryz.func98, Tryz.ntmps98
    go_wp2_with fail
    refine (cl.out _ (by (repeat (first | exact Below.refl _ _ | (with_reducible assumption) | (with_reducible refine bel_later ?_ _) | (with_reducible refine bel_alloc ?_ _) | (with_reducible refine bel_drew ?_) | (with_reducible refine bel_drewN ?_ _) | (with_reducible refine bel_set ?_ (by first | (simp; done) | (simp; omega) | (dsimp only; omega)) _))))).mono ?_
    rintro e w1 ⟨rfl, rfl⟩
    go_wp2_with fail
    refine (fault_any _ _).mono ?_
    rintro e w2 ⟨v, rfl, hE, hB⟩
    have k0 : w2.cell? ⟨w.heap.size, 0, none⟩ = some (.int .u64 0) := by rw [hB.cell (by simp)]; simp [go_sem]
    have k1 : w2.cell? ⟨w.heap.size, 1, none⟩ = some (.int .i64 0) := by rw [hB.cell (by simp)]; simp [go_sem]
    have k2 : w2.cell? ⟨w.heap.size, 2, none⟩ = some (.slice none 0 0) := by rw [hB.cell (by simp)]; simp [go_sem]
    have zz : w.heap.size < w2.heap.size := by have := hB.size; simp at this; omega
    have fz : ∀ o, w2.frozen? ⟨w.heap.size, o, none⟩ = false := fun o => by rw [hB.frozen (by simp)]; simp [go_sem]
    obtain ⟨b, rfl, hb1, hb2, hb3⟩ := hE
    simp at hb1
    have hB2 : Below w.heap.size w w2 := bel_below (bel_alloc (Below.refl _ _) _) hB
    clear hB
    go_wp2_with fail
    refine bodyPost_ret (v := .tuple #[.agg #[.int .u64 0, .int .i64 0, .slice none 0 0], .iface 90 (.pointer (some ⟨b, 0, none⟩))]) ?_ rfl (HP.out _ _ ⟨_, rfl, ⟨b, rfl, by omega, ?_, ?_⟩, ?_⟩)
    · simp [results, Tryz.results98, go_sem, k0, k1, k2]
    · simpa using hb2
    · have hne : w.heap.size ≠ b := by omega
      rw [cell_set_block _ _ _ _ _ _ hne, cell_set_block _ _ _ _ _ _ hne, cell_set_block _ _ _ _ _ _ hne]; exact hb3
    · (repeat (first | exact Below.refl _ _ | (with_reducible assumption) | (with_reducible refine bel_later ?_ _) | (with_reducible refine bel_alloc ?_ _) | (with_reducible refine bel_drew ?_) | (with_reducible refine bel_drewN ?_ _) | (with_reducible refine bel_set ?_ (by first | (simp; done) | (simp; omega) | (dsimp only; omega)) _)))
  | true =>
    obtain ⟨m, hn, hml⟩ := livesR_some hlv
    rw [hlv] at cl
    obtain ⟨c0, c1, c2, zn, ln⟩ := h.at hn hi
    obtain ⟨_, _, _, v3, c3, hv3⟩ := h.mem n m hn
    obtain ⟨a3, q3, rfl, _⟩ : ∃ a c, v3 = .slice a m.succ.length c ∧ True := by obtain ⟨a, c, rfl, _⟩ := hv3; exact ⟨a, c, rfl, trivial⟩
    have hd := h.dom n m hn
    have HV := Lib.hid hv3.slAt
    have hl3 : m.succ.length ≤ 4000000000 := by omega
    have HP : Hid (∀ e w', (∃ v, e = .returned (.tuple #[.agg #[.int .u64 m.id, .int .i64 m.pred, v], .nilIface]) ∧ SlAt w.heap.size (fun i => .int .i64 (nth m.succ i)) m.succ.length w' v ∧ Below w.heap.size w w') → TellPost w f n e w') := fun e w' hx => by
      unfold TellPost; rw [if_pos hlv, show idR f n = m.id from by unfold idR; rw [hn], show predR f n = m.pred from by unfold predR; rw [hn], show succR f n = m.succ from by unfold succR; rw [hn]]; exact hx
    have lnA : ∀ o, (Instr.lookup 58 (.map (some mb)) (.int .i64 n) false).run Tryz.prog (w.alloc o) = .ok (.pointer (some ⟨g n, 0, none⟩)) (w.alloc o) := fun o => ((h.below (bel_alloc (Below.refl _ w) o)).at hn hi).2.2.2.2
    clear h hlv hv3 hd hn
    go_enter Tryz.func98, Tryz.ntmps98
    go_wp2_with fail
    refine (cl.out _ (by (repeat (first | exact Below.refl _ _ | (with_reducible assumption) | (with_reducible refine bel_later ?_ _) | (with_reducible refine bel_alloc ?_ _) | (with_reducible refine bel_drew ?_) | (with_reducible refine bel_drewN ?_ _) | (with_reducible refine bel_set ?_ (by first | (simp; done) | (simp; omega) | (dsimp only; omega)) _))))).mono ?_
    rintro e w1 ⟨rfl, rfl⟩
    go_wp2_with fail
    refine (clonei_any _ _ m.succ (HV.out.below (by (repeat (first | exact Below.refl _ _ | (with_reducible assumption) | (with_reducible refine bel_later ?_ _) | (with_reducible refine bel_alloc ?_ _) | (with_reducible refine bel_drew ?_) | (with_reducible refine bel_drewN ?_ _) | (with_reducible refine bel_set ?_ (by first | (simp; done) | (simp; omega) | (dsimp only; omega)) _))))) hl3).mono ?_
    rintro e w2 ⟨v2, rfl, ho, hB⟩
    have hsl := own_ints ho
    obtain ⟨a2, q2, rfl, _⟩ := hsl.slice
    have HS := Lib.hid hsl
    have k0 : w2.cell? ⟨w.heap.size, 0, none⟩ = some (.int .u64 0) := by rw [hB.cell (by simp; omega)]; simp [go_sem]
    have k1 : w2.cell? ⟨w.heap.size, 1, none⟩ = some (.int .i64 0) := by rw [hB.cell (by simp; omega)]; simp [go_sem]
    have k2 : w2.cell? ⟨w.heap.size, 2, none⟩ = some (.slice none 0 0) := by rw [hB.cell (by simp; omega)]; simp [go_sem]
    have j0 : w2.cell? ⟨w.heap.size + 1, 0, none⟩ = some (.int .u64 m.id) := by rw [hB.cell (by simp)]; simp [go_sem]
    have j1 : w2.cell? ⟨w.heap.size + 1, 1, none⟩ = some (.int .i64 m.pred) := by rw [hB.cell (by simp)]; simp [go_sem]
    have j2 : w2.cell? ⟨w.heap.size + 1, 2, none⟩ = some (.slice a3 m.succ.length q3) := by rw [hB.cell (by simp)]; simp [go_sem]
    have zz : w.heap.size + 1 < w2.heap.size := by have := hB.size; simp at this; omega
    have zz0 : w.heap.size < w2.heap.size := by omega
    have fz : ∀ o, w2.frozen? ⟨w.heap.size, o, none⟩ = false := fun o => by rw [hB.frozen (by simp; omega)]; simp [go_sem]
    have fz1 : ∀ o, w2.frozen? ⟨w.heap.size + 1, o, none⟩ = false := fun o => by rw [hB.frozen (by simp)]; simp [go_sem]
    have hB2 : Below w.heap.size w w2 := bel_below (bel_alloc (bel_alloc (Below.refl _ _) _) _) hB
    clear hB ho hsl
    go_wp2_with fail
    refine bodyPost_ret (v := .tuple #[.agg #[.int .u64 m.id, .int .i64 m.pred, .slice a2 m.succ.length q2], .nilIface]) ?_ rfl (HP.out _ _ ⟨_, rfl, ?_, ?_⟩)
    · simp [results, Tryz.results98, go_sem, k0, k1, k2, j0, j1, j2]
    · have H2 : SlAt (w.heap.size + 2) (fun i => .int .i64 (nth m.succ i)) m.succ.length w2 (.slice a2 m.succ.length q2) := by simpa using HS.out
      refine SlAt.base (B := w.heap.size + 2) ?_ (by omega)
      repeat (refine SlAt.set ?_ (by dsimp only; omega) _)
      exact H2
    · (repeat (first | exact Below.refl _ _ | (with_reducible assumption) | (with_reducible refine bel_later ?_ _) | (with_reducible refine bel_alloc ?_ _) | (with_reducible refine bel_drew ?_) | (with_reducible refine bel_drewN ?_ _) | (with_reducible refine bel_set ?_ (by first | (simp; done) | (simp; omega) | (dsimp only; omega)) _)))
end Go.Proofs.YtekinomnjgbgmaaGreat
namespace Go.Proofs.YtekinomnjgbgmaaGreat
open Go.RowKit Go.Maps Go.Sort
set_option linter.unusedVariables false
set_option linter.unusedSimpArgs false
attribute [local go_sem] later_cell later_frozen later_lt

/-- Where a place is in a list; -1: it isn't. -/
def idxI (l : List Int) (x : Int) : Int := Lib.idxBy (fun x y => x == y) l x
theorem getL (l : List Int) (j : Nat) : l[j]! = nth l j := by
  unfold nth
  by_cases h : j < l.length
  · rw [getElem!_pos _ j h]; simp [h]
  · rw [getElem!_neg _ j h]; simp [h]
theorem index_any (w : World) (v : Value) (l : List Int) (h : SlAt 0 (fun i => .int .u64 (nth l i)) l.length w v) (hl : l.length ≤ 4000000000) (x : Int) :
    Calls Tryz.prog 24 #[v, .int .u64 x] w fun e w' => e = .returned (.int .i64 (idxI l x)) ∧ w = w' := by
  rcases h.parts with ⟨h0, a, cap, rfl, _⟩ | ⟨h0, b, off, cap, rfl, h1, h2, _, _, hc⟩
  · have e : idxI l x = -1 := by rw [List.length_eq_zero_iff.1 h0]; rfl
    rw [e]
    exact (AnyE.slices_Index_empty Tryz.indexU a cap (.int .u64 x) w).mono fun e w' h => ⟨h.1, h.2.symm⟩
  · have := AnyE.slices_Index Tryz.indexU (Value.int .u64) (fun x y => x == y) (EqlAt.int _ _ .u64) b off l.length cap l x w (Nat.le_refl _) (by omega) (fun j hj => by rw [getL]; exact hc j hj)
    rw [List.take_length] at this
    exact Calls.mono this fun e w' h => ⟨h.1, h.2.symm⟩
theorem idxI_at {l : List Int} (hn : l.Nodup) {k : Nat} (hk : k < l.length) : idxI l (nth l k) = k := by
  have := Lib.idxByFrom_hit (fun x y : Int => x == y) (nth l k) l k 0 hk (by rw [getL]; simp) (fun j hj => by
    rw [getL]
    simp only [beq_eq_false_iff_ne, ne_eq]
    rw [nth_eq hk, nth_eq (by omega)]
    intro e
    have := (List.getElem_inj hn).1 e
    omega)
  unfold idxI Lib.idxBy
  rw [this]
  simp
/-- The address of the place i behind the first, round the circle of four. -/
def atI (ids s : List Int) (i : Int) : Int := idxI ids (nth s ((i + 4) % 4).toNat)
theorem at_any (w : World) (b1 b2 : Nat) (ids s : List Int) (v1 v2 : Value) (h1 : w.cell? ⟨b1, 0, none⟩ = some v1) (h2 : w.cell? ⟨b2, 0, none⟩ = some v2) (z1 : b1 < w.heap.size) (z2 : b2 < w.heap.size)
    (hi : SlAt 0 (fun i => .int .u64 (nth ids i)) ids.length w v1) (hs : SlAt 0 (fun i => .int .u64 (nth s i)) s.length w v2) (hi4 : ids.length = 4) (hs4 : s.length = 4) (i : Int) (h0 : -1 ≤ i) (h10 : i ≤ 10) :
    Calls Tryz.prog 23 #[.int .i64 i, .pointer (some ⟨b1, 0, none⟩), .pointer (some ⟨b2, 0, none⟩)] w fun e w' => e = .returned (.int .i64 (atI ids s i)) ∧ Below w.heap.size w w' := by
  obtain ⟨j, hj, hj4⟩ : ∃ j : Nat, (i + 4) % 4 = (j : Int) ∧ j < 4 := ⟨((i + 4) % 4).toNat, by omega, by omega⟩
  have ht : (i + 4).tmod 4 = (j : Int) := by rw [Int.tmod_eq_emod_of_nonneg (by omega)]; exact hj
  have hE : atI ids s i = idxI ids (nth s j) := by unfold atI; rw [hj]; rfl
  rw [hE]
  clear hE hj
  have ci := Lib.hid (fun wr (hb : Below w.heap.size w wr) => index_any wr v1 ids (hi.below hb) (by omega) (nth s j))
  obtain ⟨a2, c2, rfl, _⟩ := hs.slice
  obtain ⟨b, off, rfl, _, hb, hc⟩ := hs.at j (by omega) w (Below.refl _ _)
  obtain ⟨a1, c1, rfl, _⟩ := hi.slice
  rw [hs4] at h2
  rw [hi4] at h1 ci
  clear hi hs
  go_enter Tryz.func23, Tryz.ntmps23
  go_wp2_with fail
  refine wp_region_calm (by kernel_rfl) (by kernel_rfl) ?_
  repeat (first | (go_big_quiet_step ((go_at_call 24; exact calls_calm_same (ci.out _ (by (repeat (first | exact Below.refl _ _ | (with_reducible assumption) | (with_reducible refine bel_later ?_ _) | (with_reducible refine bel_alloc ?_ _) | (with_reducible refine bel_drew ?_) | (with_reducible refine bel_drewN ?_ _) | (with_reducible refine bel_set ?_ (by first | (simp; done) | (simp; omega) | (dsimp only; omega)) _)))))))) | (refine wpQuiet_step (fun K hK => ?_); go_simp; first | (refine hK _ ?_; clear hK K) | (apply Exists.intro; refine ⟨fun _ => ?_, hK _ ?_⟩; (go_at_call 24; exact calls_calm_same (ci.out _ (by (repeat (first | exact Below.refl _ _ | (with_reducible assumption) | (with_reducible refine bel_later ?_ _) | (with_reducible refine bel_alloc ?_ _) | (with_reducible refine bel_drew ?_) | (with_reducible refine bel_drewN ?_ _) | (with_reducible refine bel_set ?_ (by first | (simp; done) | (simp; omega) | (dsimp only; omega)) _)))))); clear hK K)))
  refine wpQuiet_nil ?_
  intro _ hw'
  obtain ⟨xq, hw''⟩ := hw'
  subst hw''
  go_wp2_with fail
  go_ret
  exact ⟨rfl, by (repeat (first | exact Below.refl _ _ | (with_reducible assumption) | (with_reducible refine bel_later ?_ _) | (with_reducible refine bel_alloc ?_ _) | (with_reducible refine bel_drew ?_) | (with_reducible refine bel_drewN ?_ _) | (with_reducible refine bel_set ?_ (by first | (simp; done) | (simp; omega) | (dsimp only; omega)) _)))⟩
end Go.Proofs.YtekinomnjgbgmaaGreat
namespace Go.Proofs.YtekinomnjgbgmaaGreat
open Go.RowKit Go.Maps Go.Sort
set_option linter.unusedVariables false
set_option linter.unusedSimpArgs false

/-- What the base member of the i-th place knows. -/
def memAt (ids s : List Int) (i : Nat) : Mem := ⟨true, nth s i, atI ids s (i - 1), [atI ids s (i + 1), atI ids s (i + 2), atI ids s (i + 3)]⟩
def newF (ids s : List Int) : Nat → RS
  | 0 => fun _ => none
  | k + 1 => setM (newF ids s k) (atI ids s k) (memAt ids s k)
/-- Four places, sorted. -/
structure Four (ids s : List Int) : Prop where
  li : ids.length = 4
  ls : s.length = 4
  nodup : ids.Nodup
  up : Up s
  mem : ∀ x, x ∈ s ↔ x ∈ ids
  place : ∀ x ∈ ids, isPlace x
theorem Four.pos {ids s : List Int} (h : Four ids s) {j : Nat} (hj : j < 4) : ∃ k : Nat, k < 4 ∧ nth ids k = nth s j ∧ idxI ids (nth s j) = k := by
  have h1 : nth s j ∈ ids := (h.mem _).1 (nth_mem.2 ⟨j, by rw [h.ls]; exact hj, rfl⟩)
  obtain ⟨k, hk, e⟩ := nth_mem.1 h1
  exact ⟨k, by rw [← h.li]; exact hk, e, by rw [← e]; exact idxI_at h.nodup hk⟩
theorem Four.at {ids s : List Int} (h : Four ids s) (i : Int) : 0 ≤ atI ids s i ∧ atI ids s i < 4 := by
  obtain ⟨k, hk, _, e⟩ := h.pos (j := ((i + 4) % 4).toNat) (by omega)
  unfold atI
  rw [e]; omega
theorem Four.inj {ids s : List Int} (h : Four ids s) {i j : Nat} (hi : i < 4) (hj : j < 4) (e : atI ids s i = atI ids s j) : i = j := by
  have ei : (((i : Int) + 4) % 4).toNat = i := by omega
  have ej : (((j : Int) + 4) % 4).toNat = j := by omega
  unfold atI at e
  rw [ei, ej] at e
  obtain ⟨k, _, e1, e2⟩ := h.pos hi
  obtain ⟨k', _, e3, e4⟩ := h.pos hj
  rw [e2, e4] at e
  have : k = k' := by omega
  subst this
  rw [e1] at e3
  rcases Nat.lt_trichotomy i j with h1 | h1 | h1
  · have := up_nth h.up h1 (by rw [h.ls]; exact hj); omega
  · exact h1
  · have := up_nth h.up h1 (by rw [h.ls]; exact hi); omega
theorem newF_old {ids s : List Int} (h : Four ids s) : ∀ (k : Nat), k ≤ 4 → ∀ j, k ≤ j → j < 4 → newF ids s k (atI ids s j) = none
  | 0, _, _, _, _ => rfl
  | k + 1, hk, j, hj, hj4 => by
    show setM _ _ _ _ = none
    rw [setM_ne _ _ (fun e => by have := h.inj (i := j) (j := k) hj4 (by omega) e; omega)]
    exact newF_old h k (by omega) j (by omega) hj4
theorem newF_dom {ids s : List Int} (h : Four ids s) : ∀ k, k ≤ 4 → Dom (newF ids s k)
  | 0, _ => fun n m e => by cases e
  | k + 1, hk => fun n m e => by
    have hd := newF_dom h k (by omega)
    by_cases en : n = atI ids s k
    · subst en
      have e' : some (memAt ids s k) = some m := by rw [← e]; exact (setM_same _ _ _).symm
      cases e'
      have a0 := h.at k
      have a1 := h.at (k + 1)
      have a2 := h.at (k + 2)
      have a3 := h.at (k + 3)
      have a4 := h.at (k - 1)
      refine ⟨a0.1, by omega, ?_, by simp [memAt], ⟨by show -1 ≤ atI ids s (k - 1); omega, by show atI ids s (k - 1) < 32; omega⟩, fun x hx => ?_⟩
      · obtain ⟨k', hk', e1, _⟩ := h.pos (j := k) (by omega)
        show isPlace (nth s k)
        rw [← e1]
        exact h.place _ (nth_mem.2 ⟨k', by rw [h.li]; exact hk', rfl⟩)
      · simp only [memAt, List.mem_cons, List.not_mem_nil, or_false] at hx
        rcases hx with rfl | rfl | rfl <;> omega
    · have e' : newF ids s k n = some m := by rw [← e]; exact (setM_ne _ _ en).symm
      exact hd n m e'
end Go.Proofs.YtekinomnjgbgmaaGreat
