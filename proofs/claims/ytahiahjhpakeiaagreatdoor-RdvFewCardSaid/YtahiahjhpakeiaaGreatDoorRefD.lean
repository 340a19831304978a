
/-
-/
import Derived.Test.YtahiahjhpakeiaaGreatDoorRefB
import Derived.Test.YtahiahjhpakeiaaGreatDoorBase
/-
  The document's Copy: other rows that tell the same.
-/
namespace Go.Proofs.YtahiahjhpakeiaaGreatDoor
open Go.RowKit Go.Maps Go.Sort
set_option linter.unusedVariables false
set_option linter.unusedSimpArgs false
attribute [local go_sem] later_cell later_frozen later_lt cell_set_off cell_set_block

noncomputable def boolI : TypeInfo := (Tryz.prog.info? 4).get (by kernel_rfl)
theorem boolI_at : Tryz.prog.info? 4 = some boolI := by kernel_rfl
noncomputable def rpeerI : TypeInfo := (Tryz.prog.info? 126).get (by kernel_rfl)
theorem rpeerI_at : Tryz.prog.info? 126 = some rpeerI := by kernel_rfl

variable {Q : Nat → Prop} {w : World} {p : Where} {f : RS} {V : Nat → Value}
/-- A row that was appended to nothing. -/
theorem row_of_owns {w : World} {base e s : Nat} {v : Value} {g : Nat → Value} (hs : 0 < s) {news : List Value} (hn : news = (List.range (32 * s)).map g) (h : w.ownsRow base e s v 32 news) :
    ∃ b cap, v = .slice (some ⟨b, 0, none⟩) 32 cap ∧ v.ownBlock = some b ∧ base ≤ b ∧ Row32 (fun b => base ≤ b) w s g b 0 cap ∧ ∀ o, w.frozen? ⟨b, o, none⟩ = false := by
  subst hn
  have hc := fun g hg => h.cells (g := g) hg
  rcases h.2 with ⟨rfl, h0⟩ | ⟨b, cap, cur, rfl, hB, hg, hn, hm, hz, ht⟩
  · omega
  · refine ⟨b, cap, rfl, rfl, hB, ⟨by omega, hm, hB, (Array.getElem?_eq_some_iff.1 hg).1, fun j hj => ?_⟩, fun o => ?_⟩
    · have := hc b rfl j (g j) (by simp [hj])
      rw [show ((⟨b, 0, none⟩ : Addr).add j) = ⟨b, 0 + j, none⟩ from by unfold Addr.add; by_cases e : j = 0 <;> simp [e]] at this
      exact this
    · unfold World.frozen?
      simp [hg]
theorem own_nil (w : World) (e B s g : Nat) (hg : g = w.heap.size) (hB : B ≤ w.heap.size) : (w.alloc (.cells #[] e)).ownsRow B e s (.slice (some ⟨g, 0, none⟩) 0 0) 0 [] := by
  subst hg; exact World.ownsRow_made w #[] 0 hB (Nat.zero_le _) (by simp)
theorem peerC_one {f : RS} {V : Nat → Value} (hV : ∀ k, k < 32 → (V k).oneCell' = true) (j : Nat) (hj : j < 32 * 3) : (peerC f V j).oneCell' = true := by
  unfold peerC; split
  · rfl
  · split
    · rfl
    · exact hV _ (by omega)
/-- The memory of Copy's own: its parameter, its result, the ring that it makes. -/
structure CopySt (w u : World) (p : Where) (T : Nat) (t0 t1 t2 t3 : Value) : Prop where
  q1 : u.cell? ⟨w.heap.size, 1, none⟩ = some (.slice (some ⟨p.b2, p.o2, none⟩) 32 p.k2)
  q2 : u.cell? ⟨w.heap.size, 2, none⟩ = some (.slice (some ⟨p.b3, p.o3, none⟩) 32 p.k3)
  q3 : u.cell? ⟨w.heap.size, 3, none⟩ = some (.slice (some ⟨p.b4, p.o4, none⟩) 32 p.k4)
  r0 : u.cell? ⟨w.heap.size + 1, 0, none⟩ = some (.slice none 0 0)
  r1 : u.cell? ⟨w.heap.size + 1, 1, none⟩ = some (.slice none 0 0)
  r2 : u.cell? ⟨w.heap.size + 1, 2, none⟩ = some (.slice none 0 0)
  r3 : u.cell? ⟨w.heap.size + 1, 3, none⟩ = some (.slice none 0 0)
  rf : ∀ o, u.frozen? ⟨w.heap.size + 1, o, none⟩ = false
  t0 : u.cell? ⟨T, 0, none⟩ = some t0
  t1 : u.cell? ⟨T, 1, none⟩ = some t1
  t2 : u.cell? ⟨T, 2, none⟩ = some t2
  t3 : u.cell? ⟨T, 3, none⟩ = some t3
  tf : ∀ o, u.frozen? ⟨T, o, none⟩ = false
  zT : T < u.heap.size
  hT : w.heap.size + 1 < T
  below : RowKit.Below w.heap.size w u
theorem CopySt.later {w u u' : World} {p : Where} {T : Nat} {t0 t1 t2 t3 : Value} (h : CopySt w u p T t0 t1 t2 t3) (hb : RowKit.Below u.heap.size u u') : CopySt w u' p T t0 t1 t2 t3 := by
  have h1 := h.zT
  have h2 := h.hT
  have c := fun b o (hz : b < u.heap.size) => hb.cell (p := ⟨b, o, none⟩) hz
  have fz := fun b o (hz : b < u.heap.size) => hb.frozen (p := ⟨b, o, none⟩) hz
  exact ⟨(c _ _ (by omega)).trans h.q1, (c _ _ (by omega)).trans h.q2, (c _ _ (by omega)).trans h.q3, (c _ _ (by omega)).trans h.r0, (c _ _ (by omega)).trans h.r1, (c _ _ (by omega)).trans h.r2, (c _ _ (by omega)).trans h.r3, fun o => (fz _ o (by omega)).trans (h.rf o),
    (c _ _ h1).trans h.t0, (c _ _ h1).trans h.t1, (c _ _ h1).trans h.t2, (c _ _ h1).trans h.t3, fun o => (fz _ o h1).trans (h.tf o), Nat.lt_of_lt_of_le h1 hb.size, h2, bel_below h.below hb⟩
/-- A write into the ring that it makes. -/
theorem CopySt.put {w u u' : World} {p : Where} {T : Nat} {t0 t1 t2 t3 : Value} (h : CopySt w u p T t0 t1 t2 t3) (k : Nat) (v : Value) (hu : u' = u.setCell ⟨T, k, none⟩ v) {s0 s1 s2 s3 : Value}
    (e0 : s0 = if 0 = k then v else t0) (e1 : s1 = if 1 = k then v else t1) (e2 : s2 = if 2 = k then v else t2) (e3 : s3 = if 3 = k then v else t3) : CopySt w u' p T s0 s1 s2 s3 := by
  have h2 := h.hT
  subst hu e0 e1 e2 e3
  have c := fun b o (hz : b ≠ T) => cell_set_block u T b k o v (Ne.symm hz)
  have ct := fun o t (ho : u.cell? ⟨T, o, none⟩ = some t) => (by
    by_cases e : o = k
    · subst e; rw [if_pos rfl]; exact World.cell?_setCell_same _ _ _ ho
    · rw [if_neg e, cell_set_off _ _ _ _ _ (Ne.symm e)]; exact ho : (u.setCell ⟨T, k, none⟩ v).cell? ⟨T, o, none⟩ = some (if o = k then v else t))
  refine ⟨(c _ _ (by omega)).trans h.q1, (c _ _ (by omega)).trans h.q2, (c _ _ (by omega)).trans h.q3, (c _ _ (by omega)).trans h.r0, (c _ _ (by omega)).trans h.r1, (c _ _ (by omega)).trans h.r2, (c _ _ (by omega)).trans h.r3, fun o => by rw [World.frozen?_setCell]; exact h.rf o,
    ct _ _ h.t0, ct _ _ h.t1, ct _ _ h.t2, ct _ _ h.t3, fun o => by rw [World.frozen?_setCell]; exact h.tf o, by rw [size_set]; exact h.zT, h2, ?_⟩
  exact bel_set h.below (by dsimp only; omega) v
set_option maxRecDepth 100000 in
set_option maxHeartbeats 4000000 in
theorem rcopy_any (h : RefRows Q w p f V) (hV : ∀ k, k < 32 → (V k).oneCell' = true) : Calls Tryz.prog 103 #[(.agg #[.slice (some ⟨p.b1, p.o1, none⟩) 32 p.k1, .slice (some ⟨p.b2, p.o2, none⟩) 32 p.k2, .slice (some ⟨p.b3, p.o3, none⟩) 32 p.k3, .slice (some ⟨p.b4, p.o4, none⟩) 32 p.k4])] w fun e w' =>
    ∃ p' : Where, e = .returned (.agg #[.slice (some ⟨p'.b1, p'.o1, none⟩) 32 p'.k1, .slice (some ⟨p'.b2, p'.o2, none⟩) 32 p'.k2, .slice (some ⟨p'.b3, p'.o3, none⟩) 32 p'.k3, .slice (some ⟨p'.b4, p'.o4, none⟩) 32 p'.k4]) ∧ RefRows (fun b => w.heap.size ≤ b) w' p' f V ∧ FreshRows w.heap.size w' p' ∧ RowKit.Below w.heap.size w w' := by
  obtain ⟨i1, hi1, hz1, hs1, hb1b⟩ : ∃ i0, Tryz.prog.info? 4 = some i0 ∧ i0.zero = some (Value.bool false) ∧ i0.size = 1 ∧ i0.bytes = 1 := ⟨boolI, boolI_at, by kernel_rfl, by kernel_rfl, by kernel_rfl⟩
  obtain ⟨i3, hi3, hz3, hs3, hb3b⟩ : ∃ i0, Tryz.prog.info? 42 = some i0 ∧ i0.zero = some (Value.int .u64 0) ∧ i0.size = 1 ∧ i0.bytes = 8 := ⟨u64I, u64I_at, by kernel_rfl, by kernel_rfl, by kernel_rfl⟩
  obtain ⟨i4, hi4, hz4, hs4, hb4b⟩ : ∃ i0, Tryz.prog.info? 126 = some i0 ∧ i0.zero = some (.agg #[.int .u64 0, .int .i64 0, .slice none 0 0]) ∧ i0.size = 3 ∧ i0.bytes = 40 := ⟨rpeerI, rpeerI_at, by kernel_rfl, by kernel_rfl, by kernel_rfl⟩
  have HR := Lib.hid h
  clear h
  obtain ⟨N1, hN1⟩ : ∃ N, N = (List.range (32 * 1)).map (fun k => Value.bool (f (k : Nat)).isSome) := ⟨_, rfl⟩
  obtain ⟨N2, hN2⟩ : ∃ N, N = (List.range (32 * 1)).map (fun k => Value.bool (livesR f (k : Nat))) := ⟨_, rfl⟩
  obtain ⟨N3, hN3⟩ : ∃ N, N = (List.range (32 * 1)).map (fun k => Value.int .u64 (idR f (k : Nat))) := ⟨_, rfl⟩
  obtain ⟨N4, hN4⟩ : ∃ N, N = (List.range (32 * 3)).map (peerC f V) := ⟨_, rfl⟩
  have HN1 := Lib.hid hN1
  have HN2 := Lib.hid hN2
  have HN3 := Lib.hid hN3
  have HN4 := Lib.hid hN4
  clear hN1 hN2 hN3 hN4
  go_enter Tryz.func103, Tryz.ntmps103
  go_wp2_with (at_builtin; refine wpList_app_wide rfl _ _ 26 rfl (w.heap.size + 1 + 1) 4 i1 (.bool false) 1 1 Tryz.underlying26 hi1 hz1 hs1 hb1b rfl (by decide) _ 0 [] rfl (own_nil _ 4 _ 1 _ ?c0 ?c1) p.b1 p.o1 32 p.k1 (fun k => .bool (f (k : Nat)).isSome) rfl (by decide) ?c2 (fun _ _ => rfl) (by simp [maxLen]) (by decide) ?c3 N1 HN1.out ?_)
  case c0 => simp
  case c1 => simp
  case c3 => simp
  case c2 => exact (HR.out.below (by (repeat (first | exact Below.refl _ _ | (with_reducible assumption) | (with_reducible refine bel_later ?_ _) | (with_reducible refine bel_alloc ?_ _) | (with_reducible refine bel_drew ?_) | (with_reducible refine bel_drewN ?_ _) | (with_reducible refine bel_set ?_ (by first | (simp; done) | (simp; omega) | (dsimp only; omega)) _))))).used.cell
  intro v1 w1 ho1 hg1 hr1
  have HB1 : RowKit.Below w.heap.size w w1 := RowKit.Below.grown (by (repeat (first | exact Below.refl _ _ | (with_reducible assumption) | (with_reducible refine bel_later ?_ _) | (with_reducible refine bel_alloc ?_ _) | (with_reducible refine bel_drew ?_) | (with_reducible refine bel_drewN ?_ _) | (with_reducible refine bel_set ?_ (by first | (simp; done) | (simp; omega) | (dsimp only; omega)) _)))) hg1 (by simp; omega) (fun k hk => by simp [Value.ownBlock] at hk; omega)
  have hold := fun b (hb : b < w.heap.size + 1 + 1) => hg1.block b (by simp; omega) (by simp [Value.ownBlock]; omega)
  have z1 : w.heap.size + 1 + 1 + 1 ≤ w1.heap.size := by have := hg1.size; simp at this; omega
  obtain ⟨b1, k1, rfl, _, hb1, R1, F1⟩ := row_of_owns (s := 1) (by decide) HN1.out ho1
  go_upto_region 2 with (fail)
  obtain ⟨u1, hu1⟩ : ∃ u, u = w1.alloc (.cells #[.slice (some ⟨b1, 0, none⟩) 32 k1, .slice none 0 0, .slice none 0 0, .slice none 0 0] 32) := ⟨_, rfl⟩
  obtain ⟨T, hT⟩ : ∃ T, T = w1.heap.size := ⟨_, rfl⟩
  have zT1 : T < u1.heap.size := by rw [hT, hu1]; simp
  have BU : RowKit.Below w1.heap.size w1 u1 := by rw [hu1]; exact bel_alloc (RowKit.Below.refl _ _) _
  have C1 : Hid (CopySt w u1 p T (.slice (some ⟨b1, 0, none⟩) 32 k1) (.slice none 0 0) (.slice none 0 0) (.slice none 0 0)) := by
    have c := fun b o (hb : b < w.heap.size + 1 + 1) => (BU.cell (p := ⟨b, o, none⟩) (by dsimp only; omega)).trans (World.cell?_of_block (a := ⟨b, o, none⟩) (hold b hb))
    refine ⟨?_, ?_, ?_, ?_, ?_, ?_, ?_, fun o => ?_, by rw [hu1, hT]; simp [go_sem], by rw [hu1, hT]; simp [go_sem], by rw [hu1, hT]; simp [go_sem], by rw [hu1, hT]; simp [go_sem], fun o => by rw [hu1, hT]; simp [go_sem], zT1, by omega, bel_below HB1 BU⟩
    · rw [c _ _ (by omega)]; simp [go_sem]
    · rw [c _ _ (by omega)]; simp [go_sem]
    · rw [c _ _ (by omega)]; simp [go_sem]
    · rw [c _ _ (by omega)]; simp [go_sem]
    · rw [c _ _ (by omega)]; simp [go_sem]
    · rw [c _ _ (by omega)]; simp [go_sem]
    · rw [c _ _ (by omega)]; simp [go_sem]
    · rw [BU.frozen (p := ⟨_, o, none⟩) (by dsimp only; omega), World.frozen?_of_block (a := ⟨w.heap.size + 1, o, none⟩) (hold (w.heap.size + 1) (by omega))]; simp [go_sem]
  have l1 : b1 < T := by rw [hT]; exact R1.z
  have ROW1 : Hid (Row32 (fun b => w.heap.size ≤ b) u1 1 (fun k => .bool (f (k : Nat)).isSome) b1 0 k1) := R1.imp (fun h => by omega) BU.size (BU.block _ R1.z)
  have FR1 : Hid (∀ o, u1.frozen? ⟨b1, o, none⟩ = false) := fun o => (BU.frozen (p := ⟨b1, o, none⟩) R1.z).trans (F1 o)
  rw [← hu1, ← hT]
  clear ho1 hg1 hr1 R1 F1 hold HB1 BU hu1 hT z1
  have r0 := C1.out.q1
  have z0 := C1.out.zT
  have h0 := C1.out.hT
  have zq : w.heap.size < u1.heap.size := by omega
  have tt := C1.out.t1
  have tf := C1.out.tf 1
  go_wp2_with (at_builtin; refine wpList_app_wide rfl _ _ 26 rfl (u1.heap.size) 4 i1 (.bool false) 1 1 Tryz.underlying26 hi1 hz1 hs1 hb1b rfl (by decide) _ 0 [] rfl (own_nil _ 4 _ 1 _ ?c0 ?c1) p.b2 p.o2 32 p.k2 (fun k => .bool (livesR f (k : Nat))) rfl (by decide) ?c2 (fun _ _ => rfl) (by simp [maxLen]) (by decide) ?c3 N2 HN2.out ?_)
  case c0 => simp
  case c1 => simp
  case c3 => simp
  case c2 => exact ((HR.out.below C1.out.below).below (by (repeat (first | exact Below.refl _ _ | (with_reducible assumption) | (with_reducible refine bel_later ?_ _) | (with_reducible refine bel_alloc ?_ _) | (with_reducible refine bel_drew ?_) | (with_reducible refine bel_drewN ?_ _) | (with_reducible refine bel_set ?_ (by first | (simp; done) | (simp; omega) | (dsimp only; omega)) _))))).live.cell
  intro v2 w2 ho hg hr
  have HB : RowKit.Below u1.heap.size u1 w2 := RowKit.Below.grown (by (repeat (first | exact Below.refl _ _ | (with_reducible assumption) | (with_reducible refine bel_later ?_ _) | (with_reducible refine bel_alloc ?_ _) | (with_reducible refine bel_drew ?_) | (with_reducible refine bel_drewN ?_ _) | (with_reducible refine bel_set ?_ (by first | (simp; done) | (simp; omega) | (dsimp only; omega)) _)))) hg (by simp) (fun k hk => by simp [Value.ownBlock] at hk; omega)
  obtain ⟨b2, k2, rfl, _, hb2, R, F⟩ := row_of_owns (s := 1) (by decide) HN2.out ho
  have CW := Lib.hid (C1.out.later HB)
  have ROWW1 := Lib.hid (ROW1.out.imp (fun h => h) HB.size (HB.block _ ROW1.out.z))
  have FRW1 : Hid (∀ o, w2.frozen? ⟨b1, o, none⟩ = false) := fun o => (HB.frozen (p := ⟨b1, o, none⟩) ROW1.out.z).trans (FR1.out o)
  have tt := CW.out.t1
  have tf := CW.out.tf 1
  have zw := CW.out.zT
  go_upto_region 3 with (fail)
  obtain ⟨u2, hu⟩ : ∃ u, u = w2.setCell ⟨T, 1, none⟩ (.slice (some ⟨b2, 0, none⟩) 32 k2) := ⟨_, rfl⟩
  have C2 : Hid (CopySt w u2 p T (.slice (some ⟨b1, 0, none⟩) 32 k1) (.slice (some ⟨b2, 0, none⟩) 32 k2) (.slice none 0 0) (.slice none 0 0)) := CW.out.put 1 _ hu rfl rfl rfl rfl
  have l2 : T < b2 := by omega
  have ROW2 : Hid (Row32 (fun b => w.heap.size ≤ b) u2 1 (fun k => .bool (livesR f (k : Nat))) b2 0 k2) := by
    rw [hu]; exact (R.imp (fun h => by omega) (Nat.le_refl _) rfl).other _ _ (by omega) _
  have FR2 : Hid (∀ o, u2.frozen? ⟨b2, o, none⟩ = false) := fun o => by rw [hu, World.frozen?_setCell]; exact F o
  have hx2 : u1.heap.size ≤ b2 := by omega
  have y21 : b1 < b2 := by have := ROW1.out.z; omega
  have ROWX1 : Hid (Row32 (fun b => w.heap.size ≤ b) u2 1 (fun k => .bool (f (k : Nat)).isSome) b1 0 k1) := by rw [hu]; exact ROWW1.out.other _ _ (by omega) _
  have FRX1 : Hid (∀ o, u2.frozen? ⟨b1, o, none⟩ = false) := fun o => by rw [hu, World.frozen?_setCell]; exact FRW1.out o
  rw [← hu]
  clear hu ho hg hr R F HB CW tt tf zw r0 z0 h0 zq hx2 ROW1 ROWW1 FR1 FRW1 C1
  have ROW1 := ROWX1
  have FR1 := FRX1
  clear ROWX1 FRX1
  have r0 := C2.out.q2
  have z0 := C2.out.zT
  have h0 := C2.out.hT
  have zq : w.heap.size < u2.heap.size := by omega
  have tt := C2.out.t2
  have tf := C2.out.tf 2
  go_wp2_with (at_builtin; refine wpList_app_wide rfl _ _ 27 rfl (u2.heap.size) 42 i3 (.int .u64 0) 1 8 Tryz.underlying27 hi3 hz3 hs3 hb3b rfl (by decide) _ 0 [] rfl (own_nil _ 42 _ 1 _ ?c0 ?c1) p.b3 p.o3 32 p.k3 (fun k => .int .u64 (idR f (k : Nat))) rfl (by decide) ?c2 (fun _ _ => rfl) (by simp [maxLen]) (by decide) ?c3 N3 HN3.out ?_)
  case c0 => simp
  case c1 => simp
  case c3 => simp
  case c2 => exact ((HR.out.below C2.out.below).below (by (repeat (first | exact Below.refl _ _ | (with_reducible assumption) | (with_reducible refine bel_later ?_ _) | (with_reducible refine bel_alloc ?_ _) | (with_reducible refine bel_drew ?_) | (with_reducible refine bel_drewN ?_ _) | (with_reducible refine bel_set ?_ (by first | (simp; done) | (simp; omega) | (dsimp only; omega)) _))))).ids.cell
  intro v3 w3 ho hg hr
  have HB : RowKit.Below u2.heap.size u2 w3 := RowKit.Below.grown (by (repeat (first | exact Below.refl _ _ | (with_reducible assumption) | (with_reducible refine bel_later ?_ _) | (with_reducible refine bel_alloc ?_ _) | (with_reducible refine bel_drew ?_) | (with_reducible refine bel_drewN ?_ _) | (with_reducible refine bel_set ?_ (by first | (simp; done) | (simp; omega) | (dsimp only; omega)) _)))) hg (by simp) (fun k hk => by simp [Value.ownBlock] at hk; omega)
  obtain ⟨b3, k3, rfl, _, hb3, R, F⟩ := row_of_owns (s := 1) (by decide) HN3.out ho
  have CW := Lib.hid (C2.out.later HB)
  have ROWW1 := Lib.hid (ROW1.out.imp (fun h => h) HB.size (HB.block _ ROW1.out.z))
  have FRW1 : Hid (∀ o, w3.frozen? ⟨b1, o, none⟩ = false) := fun o => (HB.frozen (p := ⟨b1, o, none⟩) ROW1.out.z).trans (FR1.out o)
  have ROWW2 := Lib.hid (ROW2.out.imp (fun h => h) HB.size (HB.block _ ROW2.out.z))
  have FRW2 : Hid (∀ o, w3.frozen? ⟨b2, o, none⟩ = false) := fun o => (HB.frozen (p := ⟨b2, o, none⟩) ROW2.out.z).trans (FR2.out o)
  have tt := CW.out.t2
  have tf := CW.out.tf 2
  have zw := CW.out.zT
  go_upto_region 4 with (fail)
  obtain ⟨u3, hu⟩ : ∃ u, u = w3.setCell ⟨T, 2, none⟩ (.slice (some ⟨b3, 0, none⟩) 32 k3) := ⟨_, rfl⟩
  have C3 : Hid (CopySt w u3 p T (.slice (some ⟨b1, 0, none⟩) 32 k1) (.slice (some ⟨b2, 0, none⟩) 32 k2) (.slice (some ⟨b3, 0, none⟩) 32 k3) (.slice none 0 0)) := CW.out.put 2 _ hu rfl rfl rfl rfl
  have l3 : T < b3 := by omega
  have ROW3 : Hid (Row32 (fun b => w.heap.size ≤ b) u3 1 (fun k => .int .u64 (idR f (k : Nat))) b3 0 k3) := by
    rw [hu]; exact (R.imp (fun h => by omega) (Nat.le_refl _) rfl).other _ _ (by omega) _
  have FR3 : Hid (∀ o, u3.frozen? ⟨b3, o, none⟩ = false) := fun o => by rw [hu, World.frozen?_setCell]; exact F o
  have hx3 : u2.heap.size ≤ b3 := by omega
  have y31 : b1 < b3 := by have := ROW1.out.z; omega
  have ROWX1 : Hid (Row32 (fun b => w.heap.size ≤ b) u3 1 (fun k => .bool (f (k : Nat)).isSome) b1 0 k1) := by rw [hu]; exact ROWW1.out.other _ _ (by omega) _
  have FRX1 : Hid (∀ o, u3.frozen? ⟨b1, o, none⟩ = false) := fun o => by rw [hu, World.frozen?_setCell]; exact FRW1.out o
  have y32 : b2 < b3 := by have := ROW2.out.z; omega
  have ROWX2 : Hid (Row32 (fun b => w.heap.size ≤ b) u3 1 (fun k => .bool (livesR f (k : Nat))) b2 0 k2) := by rw [hu]; exact ROWW2.out.other _ _ (by omega) _
  have FRX2 : Hid (∀ o, u3.frozen? ⟨b2, o, none⟩ = false) := fun o => by rw [hu, World.frozen?_setCell]; exact FRW2.out o
  rw [← hu]
  clear hu ho hg hr R F HB CW tt tf zw r0 z0 h0 zq hx3 ROW1 ROWW1 FR1 FRW1 ROW2 ROWW2 FR2 FRW2 C2
  have ROW1 := ROWX1
  have FR1 := FRX1
  clear ROWX1 FRX1
  have ROW2 := ROWX2
  have FR2 := FRX2
  clear ROWX2 FRX2
  have r0 := C3.out.q3
  have z0 := C3.out.zT
  have h0 := C3.out.hT
  have zq : w.heap.size < u3.heap.size := by omega
  have tt := C3.out.t3
  have tf := C3.out.tf 3
  go_wp2_with (at_builtin; refine wpList_app_wide rfl _ _ 30 rfl (u3.heap.size) 126 i4 (.agg #[.int .u64 0, .int .i64 0, .slice none 0 0]) 3 40 Tryz.underlying30 hi4 hz4 hs4 hb4b rfl (by decide) _ 0 [] rfl (own_nil _ 126 _ 3 _ ?c0 ?c1) p.b4 p.o4 32 p.k4 (peerC f V) rfl (by decide) ?c2 (peerC_one hV) (by simp [maxLen]) (by decide) ?c3 N4 HN4.out ?_)
  case c0 => simp
  case c1 => simp
  case c3 => simp
  case c2 => exact ((HR.out.below C3.out.below).below (by (repeat (first | exact Below.refl _ _ | (with_reducible assumption) | (with_reducible refine bel_later ?_ _) | (with_reducible refine bel_alloc ?_ _) | (with_reducible refine bel_drew ?_) | (with_reducible refine bel_drewN ?_ _) | (with_reducible refine bel_set ?_ (by first | (simp; done) | (simp; omega) | (dsimp only; omega)) _))))).peers.cell
  intro v4 w4 ho hg hr
  have HB : RowKit.Below u3.heap.size u3 w4 := RowKit.Below.grown (by (repeat (first | exact Below.refl _ _ | (with_reducible assumption) | (with_reducible refine bel_later ?_ _) | (with_reducible refine bel_alloc ?_ _) | (with_reducible refine bel_drew ?_) | (with_reducible refine bel_drewN ?_ _) | (with_reducible refine bel_set ?_ (by first | (simp; done) | (simp; omega) | (dsimp only; omega)) _)))) hg (by simp) (fun k hk => by simp [Value.ownBlock] at hk; omega)
  obtain ⟨b4, k4, rfl, _, hb4, R, F⟩ := row_of_owns (s := 3) (by decide) HN4.out ho
  have CW := Lib.hid (C3.out.later HB)
  have ROWW1 := Lib.hid (ROW1.out.imp (fun h => h) HB.size (HB.block _ ROW1.out.z))
  have FRW1 : Hid (∀ o, w4.frozen? ⟨b1, o, none⟩ = false) := fun o => (HB.frozen (p := ⟨b1, o, none⟩) ROW1.out.z).trans (FR1.out o)
  have ROWW2 := Lib.hid (ROW2.out.imp (fun h => h) HB.size (HB.block _ ROW2.out.z))
  have FRW2 : Hid (∀ o, w4.frozen? ⟨b2, o, none⟩ = false) := fun o => (HB.frozen (p := ⟨b2, o, none⟩) ROW2.out.z).trans (FR2.out o)
  have ROWW3 := Lib.hid (ROW3.out.imp (fun h => h) HB.size (HB.block _ ROW3.out.z))
  have FRW3 : Hid (∀ o, w4.frozen? ⟨b3, o, none⟩ = false) := fun o => (HB.frozen (p := ⟨b3, o, none⟩) ROW3.out.z).trans (FR3.out o)
  have tt := CW.out.t3
  have tf := CW.out.tf 3
  have zw := CW.out.zT
  go_upto_region 5 with (fail)
  obtain ⟨u4, hu⟩ : ∃ u, u = w4.setCell ⟨T, 3, none⟩ (.slice (some ⟨b4, 0, none⟩) 32 k4) := ⟨_, rfl⟩
  have C4 : Hid (CopySt w u4 p T (.slice (some ⟨b1, 0, none⟩) 32 k1) (.slice (some ⟨b2, 0, none⟩) 32 k2) (.slice (some ⟨b3, 0, none⟩) 32 k3) (.slice (some ⟨b4, 0, none⟩) 32 k4)) := CW.out.put 3 _ hu rfl rfl rfl rfl
  have l4 : T < b4 := by omega
  have ROW4 : Hid (Row32 (fun b => w.heap.size ≤ b) u4 3 (peerC f V) b4 0 k4) := by
    rw [hu]; exact (R.imp (fun h => by omega) (Nat.le_refl _) rfl).other _ _ (by omega) _
  have FR4 : Hid (∀ o, u4.frozen? ⟨b4, o, none⟩ = false) := fun o => by rw [hu, World.frozen?_setCell]; exact F o
  have hx4 : u3.heap.size ≤ b4 := by omega
  have y41 : b1 < b4 := by have := ROW1.out.z; omega
  have ROWX1 : Hid (Row32 (fun b => w.heap.size ≤ b) u4 1 (fun k => .bool (f (k : Nat)).isSome) b1 0 k1) := by rw [hu]; exact ROWW1.out.other _ _ (by omega) _
  have FRX1 : Hid (∀ o, u4.frozen? ⟨b1, o, none⟩ = false) := fun o => by rw [hu, World.frozen?_setCell]; exact FRW1.out o
  have y42 : b2 < b4 := by have := ROW2.out.z; omega
  have ROWX2 : Hid (Row32 (fun b => w.heap.size ≤ b) u4 1 (fun k => .bool (livesR f (k : Nat))) b2 0 k2) := by rw [hu]; exact ROWW2.out.other _ _ (by omega) _
  have FRX2 : Hid (∀ o, u4.frozen? ⟨b2, o, none⟩ = false) := fun o => by rw [hu, World.frozen?_setCell]; exact FRW2.out o
  have y43 : b3 < b4 := by have := ROW3.out.z; omega
  have ROWX3 : Hid (Row32 (fun b => w.heap.size ≤ b) u4 1 (fun k => .int .u64 (idR f (k : Nat))) b3 0 k3) := by rw [hu]; exact ROWW3.out.other _ _ (by omega) _
  have FRX3 : Hid (∀ o, u4.frozen? ⟨b3, o, none⟩ = false) := fun o => by rw [hu, World.frozen?_setCell]; exact FRW3.out o
  rw [← hu]
  clear hu ho hg hr R F HB CW tt tf zw r0 z0 h0 zq hx4 ROW1 ROWW1 FR1 FRW1 ROW2 ROWW2 FR2 FRW2 ROW3 ROWW3 FR3 FRW3 C3
  have ROW1 := ROWX1
  have FR1 := FRX1
  clear ROWX1 FRX1
  have ROW2 := ROWX2
  have FR2 := FRX2
  clear ROWX2 FRX2
  have ROW3 := ROWX3
  have FR3 := FRX3
  clear ROWX3 FRX3
  have s0 := C4.out.t0
  have s1 := C4.out.t1
  have s2 := C4.out.t2
  have s3 := C4.out.t3
  have r0 := C4.out.r0
  have r1 := C4.out.r1
  have r2 := C4.out.r2
  have r3 := C4.out.r3
  have rf0 := C4.out.rf 0
  have rf1 := C4.out.rf 1
  have rf2 := C4.out.rf 2
  have rf3 := C4.out.rf 3
  have zz := C4.out.zT
  have hh := C4.out.hT
  go_wp2_with fail
  refine bodyPost_ret (v := .agg #[.slice (some ⟨b1, 0, none⟩) 32 k1, .slice (some ⟨b2, 0, none⟩) 32 k2, .slice (some ⟨b3, 0, none⟩) 32 k3, .slice (some ⟨b4, 0, none⟩) 32 k4]) ?_ rfl ⟨⟨b1, 0, k1, b2, 0, k2, b3, 0, k3, b4, 0, k4⟩, rfl, ⟨?_, ?_, ?_, ?_⟩, ⟨?_, ?_, ?_, ?_, ?_, ?_, ?_, ?_, ?_, ?_, ?_, ?_, ?_, ?_⟩, ?_⟩
  · simp [results, Tryz.results103, go_sem, r0, r1, r2, r3]
  · exact (((ROW1.out.other (w.heap.size + 1) 0 (by omega) _).other (w.heap.size + 1) 1 (by omega) _).other (w.heap.size + 1) 2 (by omega) _).other (w.heap.size + 1) 3 (by omega) _
  · exact (((ROW2.out.other (w.heap.size + 1) 0 (by omega) _).other (w.heap.size + 1) 1 (by omega) _).other (w.heap.size + 1) 2 (by omega) _).other (w.heap.size + 1) 3 (by omega) _
  · exact (((ROW3.out.other (w.heap.size + 1) 0 (by omega) _).other (w.heap.size + 1) 1 (by omega) _).other (w.heap.size + 1) 2 (by omega) _).other (w.heap.size + 1) 3 (by omega) _
  · exact (((ROW4.out.other (w.heap.size + 1) 0 (by omega) _).other (w.heap.size + 1) 1 (by omega) _).other (w.heap.size + 1) 2 (by omega) _).other (w.heap.size + 1) 3 (by omega) _
  · show w.heap.size ≤ b1; omega
  · show w.heap.size ≤ b2; omega
  · show w.heap.size ≤ b3; omega
  · show w.heap.size ≤ b4; omega
  · show b1 ≠ b2; omega
  · show b1 ≠ b3; omega
  · show b1 ≠ b4; omega
  · show b2 ≠ b3; omega
  · show b2 ≠ b4; omega
  · show b3 ≠ b4; omega
  · intro o; simp only [World.frozen?_setCell]; exact FR1.out o
  · intro o; simp only [World.frozen?_setCell]; exact FR2.out o
  · intro o; simp only [World.frozen?_setCell]; exact FR3.out o
  · intro o; simp only [World.frozen?_setCell]; exact FR4.out o
  · have hB := C4.out.below
    (repeat (first | exact Below.refl _ _ | (with_reducible assumption) | (with_reducible refine bel_later ?_ _) | (with_reducible refine bel_alloc ?_ _) | (with_reducible refine bel_drew ?_) | (with_reducible refine bel_drewN ?_ _) | (with_reducible refine bel_set ?_ (by first | (simp; done) | (simp; omega) | (dsimp only; omega)) _)))
end Go.Proofs.YtahiahjhpakeiaaGreatDoor
/-
  The document's Live and Follow: lists of their own memory.
-/
namespace Go.Proofs.YtahiahjhpakeiaaGreatDoor
open Go.RowKit Go.Maps Go.Sort
set_option linter.unusedVariables false
set_option linter.unusedSimpArgs false
attribute [local go_sem] later_cell later_frozen later_lt cell_set_off cell_set_block

noncomputable def intRI : TypeInfo := (Tryz.prog.info? 3).get (by kernel_rfl)
theorem intRI_at : Tryz.prog.info? 3 = some intRI := by kernel_rfl
variable {Q : Nat → Prop} {w : World} {p : Where} {f : RS} {V : Nat → Value}
/-- Those that live of the first k addresses. -/
def liveK (f : RS) (k : Nat) : List Int := ((List.range k).map Int.ofNat).filter (livesR f)
theorem liveK_yes {f : RS} {k : Nat} (h : livesR f k = true) : liveK f (k + 1) = liveK f k ++ [(k : Int)] := by
  unfold liveK; rw [List.range_succ, List.map_append, List.filter_append]; simp [h]
theorem liveK_no {f : RS} {k : Nat} (h : livesR f k = false) : liveK f (k + 1) = liveK f k := by
  unfold liveK; rw [List.range_succ, List.map_append, List.filter_append]; simp [h]
theorem liveK_len (f : RS) (k : Nat) : (liveK f k).length ≤ k := by
  unfold liveK; refine Nat.le_trans (List.length_filter_le _ _) (by simp)
def ListPost (w : World) (l : List Int) (e : Ending) (w' : World) : Prop := ∃ v, e = .returned v ∧ SlAt w.heap.size (fun i => .int .i64 (nth l i)) l.length w' v ∧ RowKit.Below w.heap.size w w'
set_option maxRecDepth 100000 in
set_option maxHeartbeats 4000000 in
theorem rlive_any (h : RefRows Q w p f V) : Calls Tryz.prog 66 #[(.agg #[.slice (some ⟨p.b1, p.o1, none⟩) 32 p.k1, .slice (some ⟨p.b2, p.o2, none⟩) 32 p.k2, .slice (some ⟨p.b3, p.o3, none⟩) 32 p.k3, .slice (some ⟨p.b4, p.o4, none⟩) 32 p.k4])] w (ListPost w (liveL f)) := by
  obtain ⟨i0, hi, hz0, hz1, hz2⟩ : ∃ i0, Tryz.prog.info? 3 = some i0 ∧ i0.zero = some (Value.int .i64 0) ∧ i0.size = 1 ∧ i0.bytes = 8 := ⟨intRI, intRI_at, by kernel_rfl, by kernel_rfl, by kernel_rfl⟩
  have HR := Lib.hid h
  have HP : Hid (∀ v w', SlAt w.heap.size (fun i => .int .i64 (nth (liveL f) i)) (liveL f).length w' v → RowKit.Below w.heap.size w w' → ListPost w (liveL f) (.returned v) w') := fun v w' h1 h2 => ⟨v, rfl, h1, h2⟩
  clear h
  go_enter Tryz.func66, Tryz.ntmps66
  go_upto_region 2 with (fail)
  obtain ⟨w1, hw1⟩ : ∃ w1, w1 = (w.alloc (.cells #[.slice (some ⟨p.b1, p.o1, none⟩) 32 p.k1, .slice (some ⟨p.b2, p.o2, none⟩) 32 p.k2, .slice (some ⟨p.b3, p.o3, none⟩) 32 p.k3, .slice (some ⟨p.b4, p.o4, none⟩) 32 p.k4] 32)).alloc (.cells #[] 3) := ⟨_, rfl⟩
  have B1 : RowKit.Below w.heap.size w w1 := by rw [hw1]; (repeat (first | exact Below.refl _ _ | (with_reducible assumption) | (with_reducible refine bel_later ?_ _) | (with_reducible refine bel_alloc ?_ _) | (with_reducible refine bel_drew ?_) | (with_reducible refine bel_drewN ?_ _) | (with_reducible refine bel_set ?_ (by first | (simp; done) | (simp; omega) | (dsimp only; omega)) _)))
  have j1 : w1.cell? ⟨w.heap.size, 1, none⟩ = some (.slice (some ⟨p.b2, p.o2, none⟩) 32 p.k2) := by rw [hw1]; simp [go_sem]
  have z1 : w.heap.size < w1.heap.size := by rw [hw1]; simp; omega
  have O1 : Hid (w1.ownsRow (w.heap.size + 1) 3 1 (.slice (some ⟨w.heap.size + 1, 0, none⟩) 0 0) 0 []) := by rw [hw1]; exact own_nil _ _ _ _ _ (by simp) (by simp)
  rw [← hw1]
  clear hw1
  go_wp2_with fail
  go_loopw [3, 4, 10] (fun vo _ i wr => ∃ k : Nat, k ≤ 32 ∧ i = .int .i64 k ∧ Hid (wr.ownsRow (w.heap.size + 1) 3 1 vo (liveK f k).length ((liveK f k).map (Value.int .i64))) ∧ Hid (RowKit.Below (w.heap.size + 1) w1 wr)) (fun _ _ i _ => 32 - (intOf i).toNat)
  case atStart => exact ⟨0, Nat.zero_le _, rfl, O1.out, RowKit.Below.refl _ _⟩
  case round =>
    obtain ⟨k, hk, rfl, hO, hB⟩ := hrel
    have hBW : RowKit.Below w.heap.size w wr := B1.trans (hB.out.mono (by omega))
    have BW := Lib.hid hBW
    have j1 : wr.cell? ⟨w.heap.size, 1, none⟩ = some (.slice (some ⟨p.b2, p.o2, none⟩) 32 p.k2) := (hB.out.cell (p := ⟨_, _, none⟩) (by dsimp only; omega)).trans j1
    have hsz := hB.out.size
    have zr : w.heap.size < wr.heap.size := by omega
    clear hBW
    by_cases hlt : k < 32
    · have c0 := (HR.out.below BW.out).at_live hlt
      have zb := (HR.out.below BW.out).live.z
      have hlen := liveK_len f k
      cases h1 : livesR f k
      · rw [h1] at c0
        have E := Lib.hid (liveK_no h1)
        go_wp2_with fail
        go_roundw
        case rel => go_light; exact ⟨k + 1, by omega, by go_num, by show World.ownsRow _ _ _ _ _ _ _; rw [E.out]; exact hO.out, hB.out⟩
        case measure => go_light; simp [intOf]; omega
      · rw [h1] at c0
        have E := Lib.hid (liveK_yes h1)
        go_wp2_with (at_builtin; refine wpList_app rfl _ _ 36 rfl (w.heap.size + 1) 3 i0 (.int .i64 0) 8 Tryz.underlying36 hi hz0 hz1 hz2 rfl _ (liveK f k).length _ rfl (hO.out.alloc _) 0 _ 1 _ rfl (sl_new _ .i64 [(k : Int)] 3 _ 1 rfl rfl (by simp [maxLen])) (fun _ => rfl) ?qc1 ?qc2 ?qc3 ?_)
        case qc1 => simp only [maxLen]; omega
        case qc2 => omega
        case qc3 => simp; omega
        intro v' w2 ho hg
        have hB2 : RowKit.Below (w.heap.size + 1) w1 w2 := (hB.out.alloc (by omega) _).grown hg (by simp; omega) (fun j hj => by have := hO.out.lt j hj; omega)
        go_wp2_with fail
        go_roundw
        case rel =>
          go_light
          refine ⟨k + 1, by omega, by go_num, ?_, hB2⟩
          show World.ownsRow _ _ _ _ _ _ _
          rw [E.out]
          simpa [nth] using ho
        case measure => go_light; simp [intOf]; omega
    · obtain rfl : k = 32 := by omega
      have hs := own_ints hO.out
      go_wp2_with fail
      go_ret
      exact HP.out _ _ (hs.base (by omega)) BW.out

theorem follow_take {s : Int} {l : List Int} {k : Nat} (hk : k < l.length) :
    (((s :: l.take k).take 3).length < 3 → (s :: l.take (k + 1)).take 3 = (s :: l.take k).take 3 ++ [nth l k]) ∧ (¬ ((s :: l.take k).take 3).length < 3 → (s :: l.take (k + 1)).take 3 = (s :: l.take k).take 3) := by
  have e : s :: l.take (k + 1) = (s :: l.take k) ++ [nth l k] := by rw [List.take_succ_eq_append_getElem hk, nth_eq hk]; rfl
  have hl : (s :: l.take k).length = k + 1 := by simp; omega
  rw [e]
  constructor
  · intro h
    rw [List.length_take, hl] at h
    rw [List.take_of_length_le (l := (s :: l.take k) ++ [nth l k]) (by rw [List.length_append, hl]; simp; omega), List.take_of_length_le (l := s :: l.take k) (by rw [hl]; omega)]
  · intro h
    rw [List.length_take, hl] at h
    rw [List.take_append_of_le_length (by rw [hl]; omega)]
set_option maxRecDepth 100000 in
set_option maxHeartbeats 4000000 in
theorem rfollow_any (w : World) (s id pred : Int) (lv : Value) (l : List Int) (hl : SlAt 0 (fun i => .int .i64 (nth l i)) l.length w lv) (hlm : l.length ≤ 1000000) :
    Calls Tryz.prog 109 #[.int .i64 s, .agg #[.int .u64 id, .int .i64 pred, lv]] w (ListPost w (followL s l)) := by
  obtain ⟨i0, hi, hz0, hz1, hz2⟩ : ∃ i0, Tryz.prog.info? 3 = some i0 ∧ i0.zero = some (Value.int .i64 0) ∧ i0.size = 1 ∧ i0.bytes = 8 := ⟨intRI, intRI_at, by kernel_rfl, by kernel_rfl, by kernel_rfl⟩
  have HP : Hid (∀ v w', SlAt w.heap.size (fun i => .int .i64 (nth (followL s l) i)) (followL s l).length w' v → RowKit.Below w.heap.size w w' → ListPost w (followL s l) (.returned v) w') := fun v w' h1 h2 => ⟨v, rfl, h1, h2⟩
  have hA := Lib.hid hl
  obtain ⟨a, cap, rfl, hc, hm⟩ := hl.slice
  clear hl
  go_enter Tryz.func109, Tryz.ntmps109
  go_upto_region 2 with (fail)
  obtain ⟨w1, hw1⟩ : ∃ w1, w1 = (w.alloc (.cells #[.int .u64 id, .int .i64 pred, .slice a l.length cap] 126)).alloc (.cells #[.int .i64 s] 3) := ⟨_, rfl⟩
  have B1 : RowKit.Below w.heap.size w w1 := by rw [hw1]; (repeat (first | exact Below.refl _ _ | (with_reducible assumption) | (with_reducible refine bel_later ?_ _) | (with_reducible refine bel_alloc ?_ _) | (with_reducible refine bel_drew ?_) | (with_reducible refine bel_drewN ?_ _) | (with_reducible refine bel_set ?_ (by first | (simp; done) | (simp; omega) | (dsimp only; omega)) _)))
  have j1 : w1.cell? ⟨w.heap.size, 2, none⟩ = some (.slice a l.length cap) := by rw [hw1]; simp [go_sem]
  have z1 : w.heap.size < w1.heap.size := by rw [hw1]; simp; omega
  have O1 : Hid (w1.ownsRow (w.heap.size + 1) 3 1 (.slice (some ⟨w.heap.size + 1, 0, none⟩) 1 1) 1 [.int .i64 s]) := by rw [hw1]; exact own_lit _ [.int .i64 s] _ _ _ _ (by simp) rfl (by simp) (by simp [maxLen])
  rw [← hw1]
  clear hw1
  go_wp2_with fail
  go_loopw [5, 7, 13] (fun vo _ i wr => ∃ k : Nat, k ≤ l.length ∧ i = .int .i64 k ∧ Hid (wr.ownsRow (w.heap.size + 1) 3 1 vo ((s :: l.take k).take 3).length (((s :: l.take k).take 3).map (Value.int .i64))) ∧ Hid (RowKit.Below (w.heap.size + 1) w1 wr)) (fun _ _ i _ => l.length - (intOf i).toNat)
  case atStart => exact ⟨0, Nat.zero_le _, rfl, O1.out, RowKit.Below.refl _ _⟩
  case round =>
    obtain ⟨k, hk, rfl, hO, hB⟩ := hrel
    have hBW : RowKit.Below w.heap.size w wr := B1.trans (hB.out.mono (by omega))
    have BW := Lib.hid hBW
    have hsz := hB.out.size
    clear hBW
    have hlen : ((s :: l.take k).take 3).length ≤ 3 := by rw [List.length_take]; omega
    have hfin : k = l.length → (s :: l.take k).take 3 = followL s l := fun e => by rw [e, List.take_length]; rfl
    have hstep := fun hlt : k < l.length => follow_take (s := s) hlt
    obtain ⟨L, hL⟩ : ∃ L, L = (s :: l.take k).take 3 := ⟨_, rfl⟩
    rw [← hL] at hO hlen hfin hstep
    clear hL
    have ho' := own_ints hO.out
    obtain ⟨ao, co, rfl, hco, hcm⟩ := ho'.slice
    have HS := Lib.hid ho'
    clear ho'
    by_cases hlt : k < l.length
    · obtain ⟨b, off, rfl, _, hb, hck⟩ := hA.out.at k hlt wr BW.out
      obtain ⟨E1, E2⟩ := hstep hlt
      clear hstep hfin
      by_cases h3 : L.length < 3
      · have E := Lib.hid (E1 h3)
        clear E1 E2
        go_wp2_with (at_builtin; refine wpList_app rfl _ _ 36 rfl (w.heap.size + 1) 3 i0 (.int .i64 0) 8 Tryz.underlying36 hi hz0 hz1 hz2 rfl _ L.length _ rfl (hO.out.alloc _) 0 _ 1 _ rfl (sl_new _ .i64 [nth l k] 3 _ 1 rfl rfl (by simp [maxLen])) (fun _ => rfl) ?qc1 ?qc2 ?qc3 ?_)
        case qc1 => simp only [maxLen]; omega
        case qc2 => omega
        case qc3 => simp; omega
        intro v' w2 ho hg
        have hB2 : RowKit.Below (w.heap.size + 1) w1 w2 := (hB.out.alloc (by omega) _).grown hg (by simp; omega) (fun j hj => by have := hO.out.lt j hj; omega)
        go_wp2_with fail
        go_roundw
        case rel =>
          go_light
          refine ⟨k + 1, by omega, by go_num, ?_, hB2⟩
          show World.ownsRow _ _ _ _ _ _ _
          rw [E.out, List.length_append]
          simpa [nth] using ho
        case measure => go_light; simp [intOf]; omega
      · have E := Lib.hid (E2 h3)
        clear E1 E2
        go_wp2_with fail
        go_roundw
        case rel => go_light; exact ⟨k + 1, by omega, by go_num, by show World.ownsRow _ _ _ _ _ _ _; rw [E.out]; exact hO.out, hB.out⟩
        case measure => go_light; simp [intOf]; omega
    · obtain rfl : k = l.length := by omega
      have e := hfin rfl
      clear hstep hfin
      subst e
      go_wp2_with fail
      go_ret
      exact HP.out _ _ (HS.out.base (show w.heap.size ≤ w.heap.size + 1 by omega)) BW.out
end Go.Proofs.YtahiahjhpakeiaaGreatDoor
