/-
  ideal.Of: the circle of the members that live. What a member of the circle should know. Circle.Peer: what an address should know. ideal.Is: does each member know just what it should? Circle.Owner, Circle.Finger, ideal.Rounds. wigwaglaw11's own answers that the document fixes (awake). IdealCalm walked: what is left is a law of the pure chord (Calm). Heads that are right: what one look does. No program is named here. Two rounds: heads are right for one rank more. No program is named here. When all heads are right: lists. No program is named here. The plain law of IdealCalm: 2 m + 4 rounds later each member knows what it should. No program is named here.
-/
import Derived.Test.YtahiahjhpakeiaaGreatDoorShelfIdeal
import Derived.Test.YtahiahjhpakeiaaGreatDoorKept12
import Derived.Test.YtahiahjhpakeiaaGreatDoorKept13
import Derived.Test.YtahiahjhpakeiaaGreatDoorKept2
import Derived.Test.YtahiahjhpakeiaaGreatDoorKept6
import Derived.Deep.Cut
section
namespace Go.Proofs.YtahiahjhpakeiaaGreatDoor
open Go.RowKit Go.Maps Go.Sort
set_option linter.unusedVariables false
set_option linter.unusedSimpArgs false

/-- Is the place there? -/
def foundB (l : List Int) (x : Int) : Bool := decide (below l x < l.length) && (nth l (below l x) == x)
theorem search_val (l : List Int) (hs : l.Pairwise (· < ·)) (x : Int) (b off cap : Nat) (w : World) (hl : l.length ≤ 4000000000)
    (hc : ∀ i, i < l.length → w.cell? ⟨b, off + i, none⟩ = some (.int .u64 (nth l i))) :
    Calls Tryz.prog 42 #[.slice (some ⟨b, off, none⟩) l.length cap, .int .u64 x] w fun e w' => e = .returned (.tuple #[.int .i64 (below l x), .bool (foundB l x)]) ∧ w = w' := by
  have hmono : ∀ i j, i ≤ j → j < l.length → nth l i ≤ nth l j := by
    intro i j hij hj
    rw [nth_eq hj, nth_eq (by omega)]
    rcases Nat.eq_or_lt_of_le hij with rfl | h
    · exact Int.le_refl _
    · have := List.pairwise_iff_getElem.1 hs i j (by omega) hj h; omega
  have HM := Lib.hid hmono
  have HC := Lib.hid hc
  clear hmono hs hc
  go_enter Tryz.func42, Tryz.ntmps42
  go_wp2
  go_loop [7, 8] (fun i j => ∃ p q : Nat, p ≤ q ∧ q ≤ l.length ∧ i = .int .i64 p ∧ j = .int .i64 q ∧ Hid (∀ k, k < p → nth l k < x) ∧ Hid (∀ k, q ≤ k → k < l.length → x ≤ nth l k)) (fun i j => (intOf j).toNat - (intOf i).toNat)
  case atStart => exact ⟨0, l.length, Nat.zero_le _, Nat.le_refl _, rfl, rfl, fun k hk => absurd hk (by omega), fun k hk hk2 => absurd hk (by omega)⟩
  case round =>
    obtain ⟨p, q, hpq, hq, rfl, rfl, h1, h2⟩ := hrel
    by_cases hlt : p < q
    · have c1 : w.cell? ⟨b, off + (p + q) / 2, none⟩ = some (.int .u64 (nth l ((p + q) / 2))) := HC.out _ (by omega)
      go_wp2_with (first | (go_at_call 94; refine (less_any _ _ _).mono ?_; rintro e w' ⟨rfl, rfl⟩) | (go_at_call 95; refine (nan2_any _ _).mono ?_; rintro e w' ⟨rfl, rfl⟩))
      · go_round
        case rel =>
          have hx : nth l ((p + q) / 2) < x := by assumption
          go_light
          exact ⟨(p + q) / 2 + 1, q, by omega, hq, by go_num, rfl, fun k hk => by have := HM.out k ((p + q) / 2) (by omega) (by omega); omega, h2⟩
        case measure => go_light; simp [intOf]; omega
      · go_round
        case rel =>
          have hx : x ≤ nth l ((p + q) / 2) := by assumption
          go_light
          exact ⟨p, (p + q) / 2, by omega, by omega, rfl, by go_num, h1, fun k hk hk2 => by have := HM.out ((p + q) / 2) k (by omega) (by omega); omega⟩
        case measure => go_light; simp [intOf]; omega
    · obtain rfl : p = q := by omega
      have hb : Hid (below l x = p) := below_eq l x p hq h1.out h2.out
      by_cases hpl : p < l.length
      · have c2 : w.cell? ⟨b, off + p, none⟩ = some (.int .u64 (nth l p)) := HC.out _ hpl
        cases he : nth l p == x with
        | true =>
          have hf : Hid (foundB l x = true) := show foundB l x = true by unfold foundB; rw [hb.out, he]; simp [hpl]
          go_wp2_with (go_at_call 95; refine (nan2_any _ _).mono ?_; rintro e w' ⟨rfl, rfl⟩)
          go_ret2
          exact ⟨by rw [hb.out, hf.out]; rfl, rfl⟩
        | false =>
          have hf : Hid (foundB l x = false) := show foundB l x = false by unfold foundB; rw [hb.out, he]; simp
          go_wp2_with (go_at_call 95; refine (nan2_any _ _).mono ?_; rintro e w' ⟨rfl, rfl⟩)
          go_ret2
          exact ⟨by rw [hb.out, hf.out]; rfl, rfl⟩
      · have hf : Hid (foundB l x = false) := show foundB l x = false by unfold foundB; rw [hb.out]; simp [hpl]
        go_wp2_with (go_at_call 95; refine (nan2_any _ _).mono ?_; rintro e w' ⟨rfl, rfl⟩)
        go_ret2
        exact ⟨by rw [hb.out, hf.out]; rfl, rfl⟩
theorem search_none (x : Int) (a : Option Addr) (cap : Nat) (w : World) :
    Calls Tryz.prog 42 #[.slice a 0 cap, .int .u64 x] w fun e w' => e = .returned (.tuple #[.int .i64 0, .bool false]) ∧ w = w' := by
  go_enter Tryz.func42, Tryz.ntmps42
  go_wp2
  refine wp_loop_rounds 1 ?_
  rw [rounds_succ]
  go_wp2
  go_ret2
  exact ⟨rfl, rfl⟩
/-- slices.BinarySearch of rising places in memory. -/
theorem search_sl (l : List Int) (hs : Up l) (x : Int) (v : Value) (w : World) (hl : l.length ≤ 4000000000) (hv : SlAt 0 (fun i => .int .u64 (nth l i)) l.length w v) :
    Calls Tryz.prog 42 #[v, .int .u64 x] w fun e w' => e = .returned (.tuple #[.int .i64 (below l x), .bool (foundB l x)]) ∧ w = w' := by
  rcases hv.parts with ⟨h0, a, cap, rfl, _⟩ | ⟨h0, b, off, cap, rfl, _, _, _, _, hc⟩
  · have hl0 : l = [] := List.length_eq_zero_iff.1 h0
    subst hl0
    exact search_none x a cap w
  · exact search_val l hs x b off cap w hl hc

/-! ### The circle in memory -/
/-- Worlds in which one block reads as it did. -/
structure AtC (w : World) (p : Nat) (h : p < w.heap.size) where
  world : World
  cell : ∀ o, world.cell? ⟨p, o, none⟩ = w.cell? ⟨p, o, none⟩
  lt : p < world.heap.size
theorem atC_cell {w : World} {p : Nat} {h : p < w.heap.size} (x : AtC w p h) (o : Nat) : x.world.cell? ⟨p, o, none⟩ = w.cell? ⟨p, o, none⟩ := x.cell o
theorem atC_lt {w : World} {p : Nat} {h : p < w.heap.size} (x : AtC w p h) : (p < x.world.heap.size) = True := eq_true x.lt
instance {w : World} {p : Nat} {h : p < w.heap.size} : Nonempty (AtC w p h) := ⟨⟨w, fun _ => rfl, h⟩⟩
variable {S : Nat → Prop} {w : World} {rb mb : Nat} {g : Int → Nat} {f : RS}
/-- What Of answers: addresses and places in memory of its own. -/
def CircPost (w : World) (f : RS) (c : List Int) (e : Ending) (w' : World) : Prop :=
  ∃ av iv, e = .returned (.agg #[av, iv]) ∧ SlAt w.heap.size (fun i => .int .i64 (nth c i)) c.length w' av ∧ SlAt w.heap.size (fun i => .int .u64 (nth (c.map (idR f)) i)) c.length w' iv ∧ RowKit.Below w.heap.size w w'
attribute [local go_sem] later_cell later_frozen later_lt atC_cell atC_lt
set_option maxRecDepth 100000 in
set_option maxHeartbeats 8000000 in
theorem of_at (h : RAt S w rb mb g f) (I : Inv f) : Calls Tryz.prog 10 #[.pointer (some ⟨rb, 0, none⟩)] w (CircPost w f (circ f)) := by
  have H := Lib.hid h
  have CL := Lib.hid (fun wr (hb : RowKit.Below w.heap.size w wr) => live_at (h.below hb))
  have hlen := length_liveL f
  have hdm : Hid (∀ x ∈ liveL f, 0 ≤ x ∧ x < 32) := fun x hx => livesR_dom h.dom ((mem_liveL h.dom).1 hx)
  have hup : Hid (∀ k, UpId f (ordF f ((liveL f).take k))) := fun k => ordF_up _ (live_ids_nodup I _ (List.Pairwise.sublist (List.take_sublist _ _) (liveL_nodup f)) fun x hx => (mem_liveL h.dom).1 (List.mem_of_mem_take hx))
  have HP : Hid (∀ e w', CircPost w f (ordF f (liveL f)) e w' → CircPost w f (circ f) e w') := fun e w' h => h
  obtain ⟨L, hL⟩ : ∃ L, L = liveL f := ⟨_, rfl⟩
  rw [← hL] at CL hlen hdm hup HP
  clear h hL I
  go_enter Tryz.func10, Tryz.ntmps10
  go_wp2_with fail
  refine (CL.out _ (by (repeat (first | exact Below.refl _ _ | (with_reducible assumption) | (with_reducible refine bel_later ?_ _) | (with_reducible refine bel_alloc ?_ _) | (with_reducible refine bel_drew ?_) | (with_reducible refine bel_drewN ?_ _) | (with_reducible refine bel_set ?_ (by first | (simp; done) | (simp; omega) | (dsimp only; omega)) _))))).mono ?_
  rintro e w2 ⟨v2, rfl, hs2, hB2⟩
  obtain ⟨a2, q2, rfl, _⟩ := hs2.slice
  have S2 := Lib.hid hs2
  have p0 : w2.cell? ⟨w.heap.size + 1, 0, none⟩ = some (.slice none 0 0) := by rw [hB2.cell (by simp)]; simp [go_sem]
  have p1 : w2.cell? ⟨w.heap.size + 1, 1, none⟩ = some (.slice none 0 0) := by rw [hB2.cell (by simp)]; simp [go_sem]
  have pz : ∀ o, w2.frozen? ⟨w.heap.size + 1, o, none⟩ = false := fun o => by rw [hB2.frozen (by simp)]; simp [go_sem]
  have r0 : ∀ o, w2.frozen? ⟨w.heap.size, o, none⟩ = false := fun o => by rw [hB2.frozen (by simp; omega)]; simp [go_sem]
  have k0 : w2.cell? ⟨w.heap.size, 0, none⟩ = some (.slice none 0 0) := by rw [hB2.cell (by simp; omega)]; simp [go_sem]
  have k1 : w2.cell? ⟨w.heap.size, 1, none⟩ = some (.slice none 0 0) := by rw [hB2.cell (by simp; omega)]; simp [go_sem]
  have z2 : w.heap.size + 2 ≤ w2.heap.size := by have := hB2.size; simp at this; omega
  have B2 : RowKit.Below w.heap.size w w2 := bel_below (bel_alloc (bel_alloc (RowKit.Below.refl _ _) _) _) hB2
  have PZ := Lib.hid pz
  clear hs2 hB2 pz
  obtain ⟨pb, hpb⟩ : ∃ pb, pb = w.heap.size + 1 := ⟨_, rfl⟩
  rw [← hpb] at p0 p1 PZ
  have K2 := Lib.hid (Kept.refl (fun b => b = pb ∨ w2.heap.size ≤ b) w2)
  have P2 : Hid (w2.cell? ⟨pb, 0, none⟩ = some (.slice none 0 0) ∧ w2.cell? ⟨pb, 1, none⟩ = some (.slice none 0 0) ∧ (∀ o, w2.frozen? ⟨pb, o, none⟩ = false) ∧ pb < w2.heap.size) := ⟨p0, p1, PZ.out, by omega⟩
  have BW := Lib.hid (fun wr (hK : Kept (fun b => b = pb ∨ w2.heap.size ≤ b) w2 wr) => (B2.trans (hK.toBelow B2.size (fun b hb hS => by omega)) : RowKit.Below w.heap.size w wr))
  go_wp2_with fail
  rw [← hpb]
  have HPB := Lib.hid hpb
  clear hpb p0 p1
  go_loopw [5, 6, 7, 11] (fun _ _ _ i wr => ∃ (k : Nat) (av iv : Value), k ≤ L.length ∧ i = .int .i64 k ∧ Hid (wr.cell? ⟨pb, 0, none⟩ = some av ∧ wr.cell? ⟨pb, 1, none⟩ = some iv ∧ (∀ o, wr.frozen? ⟨pb, o, none⟩ = false) ∧ pb < wr.heap.size) ∧
      Hid (wr.ownsRow w2.heap.size 3 1 av k ((ordF f (L.take k)).map (Value.int .i64))) ∧ Hid (wr.ownsRow w2.heap.size 43 1 iv k (((ordF f (L.take k)).map (idR f)).map (Value.int .u64))) ∧
      Hid (∀ q, av.ownBlock = some q → iv.ownBlock ≠ some q) ∧ Hid (Kept (fun b => b = pb ∨ w2.heap.size ≤ b) w2 wr)) (fun _ _ _ i _ => L.length - (intOf i).toNat)
  case atStart => exact ⟨0, _, _, Nat.zero_le _, rfl, P2.out, World.ownsRow_nil _ _ _ _, World.ownsRow_nil _ _ _ _, (fun q hq => by cases hq), K2.out⟩
  case round =>
    obtain ⟨k, av, iv, hk, rfl, hP, hA, hI, hne, hK⟩ := hrel
    by_cases hlt : k < L.length
    · obtain ⟨b, off, rfl, hbw, hb, hc⟩ := S2.out.at k hlt w2 (RowKit.Below.refl _ _)
      have hbn : ¬ (b = pb ∨ w2.heap.size ≤ b) := by have := HPB.out; simp at hbw; omega
      have hcr : wr.cell? ⟨b, off + k, none⟩ = some (.int .i64 (nth L k)) := (World.cell?_of_block (hK.out.block b hb hbn)).trans hc
      have hbr : b < wr.heap.size := Nat.lt_of_lt_of_le hb hK.out.size
      have hin : nth L k ∈ L := nth_mem.2 ⟨k, hlt, rfl⟩
      have hdk := hdm.out _ hin
      have okx : okInt (nth L k) := okInt_dom (by omega) (by omega)
      obtain ⟨q0, q1, qz, qlt⟩ := hP.out
      obtain ⟨c, hcE⟩ : ∃ c, c = ordF f (L.take k) := ⟨_, rfl⟩
      have hcl : c.length = k := by rw [hcE, ordF_len, List.length_take]; omega
      have hcu : Up (c.map (idR f)) := by rw [hcE]; exact hup.out k
      have hnx : Hid (ordF f (L.take (k + 1)) = putAt c (below (c.map (idR f)) (idR f (nth L k))) (nth L k)) := show _ = _ by
        rw [List.take_succ_eq_append_getElem hlt, ordF_snoc, nth_eq hlt, hcE]; rfl
      rw [← hcE] at hA hI
      have CID := Lib.hid (fun w' (hb : RowKit.Below wr.heap.size wr w') => id_at (H.out.below (bel_below (BW.out wr hK.out) hb)) (nth L k) okx)
      obtain ⟨n, hn⟩ : ∃ n, n = nth L k := ⟨_, rfl⟩
      obtain ⟨x, hx⟩ : ∃ x, x = idR f n := ⟨_, rfl⟩
      rw [← hn] at hcr CID hnx okx
      rw [← hx] at CID hnx
      have hml : (c.map (idR f)).length = k := by simpa using hcl
      have hil := own_ints hI.out
      rw [hml] at hil
      obtain ⟨ia, ic, rfl, _⟩ := hil.slice
      have CBS := Lib.hid (fun w' (hb : RowKit.Below wr.heap.size wr w') => search_sl (c.map (idR f)) hcu x (.slice ia k ic) w' (by omega) (by rw [hml]; exact (hil.base (Nat.zero_le _)).below hb))
      obtain ⟨ps, hps⟩ : ∃ ps, ps = below (c.map (idR f)) x := ⟨_, rfl⟩
      have hpsk : ps ≤ k := by rw [hps, ← hml]; exact below_le _ _
      obtain ⟨fb, hfb⟩ : ∃ fb, fb = foundB (c.map (idR f)) x := ⟨_, rfl⟩
      rw [← hps, ← hfb] at CBS
      rw [← hps] at hnx
      have HX := Lib.hid hx
      clear hin hdk hn hx hps hfb hil hcE hcu
      go_wp2_with fail
      refine wp_region_calm (by kernel_rfl) (by kernel_rfl) ?_
      repeat (first | (go_big_quiet_step ((first | (go_at_call 43; exact calls_calm_same (CID.out _ (by (repeat (first | exact Below.refl _ _ | (with_reducible assumption) | (with_reducible refine bel_later ?_ _) | (with_reducible refine bel_alloc ?_ _) | (with_reducible refine bel_drew ?_) | (with_reducible refine bel_drewN ?_ _) | (with_reducible refine bel_set ?_ (by first | (simp; done) | (simp; omega) | (dsimp only; omega)) _)))))) | (go_at_call 42; exact calls_calm_same (CBS.out _ (by (repeat (first | exact Below.refl _ _ | (with_reducible assumption) | (with_reducible refine bel_later ?_ _) | (with_reducible refine bel_alloc ?_ _) | (with_reducible refine bel_drew ?_) | (with_reducible refine bel_drewN ?_ _) | (with_reducible refine bel_set ?_ (by first | (simp; done) | (simp; omega) | (dsimp only; omega)) _))))))))) | (refine wpQuiet_step (fun K hK => ?_); go_simp; first | (refine hK _ ?_; clear hK K) | (apply Exists.intro; refine ⟨fun _ => ?_, hK _ ?_⟩; (first | (go_at_call 43; exact calls_calm_same (CID.out _ (by (repeat (first | exact Below.refl _ _ | (with_reducible assumption) | (with_reducible refine bel_later ?_ _) | (with_reducible refine bel_alloc ?_ _) | (with_reducible refine bel_drew ?_) | (with_reducible refine bel_drewN ?_ _) | (with_reducible refine bel_set ?_ (by first | (simp; done) | (simp; omega) | (dsimp only; omega)) _)))))) | (go_at_call 42; exact calls_calm_same (CBS.out _ (by (repeat (first | exact Below.refl _ _ | (with_reducible assumption) | (with_reducible refine bel_later ?_ _) | (with_reducible refine bel_alloc ?_ _) | (with_reducible refine bel_drew ?_) | (with_reducible refine bel_drewN ?_ _) | (with_reducible refine bel_set ?_ (by first | (simp; done) | (simp; omega) | (dsimp only; omega)) _))))))); clear hK K)))
      refine wpQuiet_nil ?_
      intro _ hw'
      obtain ⟨xq, hw''⟩ := hw'
      subst hw''
      go_wp2_with fail
      obtain ⟨wq, hwq⟩ : ∃ z, z = xq.world := ⟨_, rfl⟩
      have Bq : RowKit.Below wr.heap.size wr wq := by rw [hwq]; exact xq.below
      rw [← hwq]
      have e0 : wq.cell? ⟨pb, 0, none⟩ = some av := (Bq.cell (p := ⟨pb, 0, none⟩) qlt).trans q0
      have e1 : wq.cell? ⟨pb, 1, none⟩ = some (.slice ia k ic) := (Bq.cell (p := ⟨pb, 1, none⟩) qlt).trans q1
      have ez : pb < wq.heap.size := Nat.lt_of_lt_of_le qlt Bq.size
      have efz : ∀ o, wq.frozen? ⟨pb, o, none⟩ = false := fun o => (Bq.frozen (p := ⟨pb, o, none⟩) qlt).trans (qz o)
      have EFZ := Lib.hid efz
      have KQ := Lib.hid (hK.out.below Bq)
      have AQ := Lib.hid (owns_below hA.out Bq)
      have IQ := Lib.hid (owns_below hI.out Bq)
      have CIQ := Lib.hid (fun w' (hb : RowKit.Below wq.heap.size wq w') => CID.out w' (bel_below Bq hb))
      clear hwq xq q0 q1 qlt qz efz CID CBS hP hA hI
      refine wp_region_heads [0, 1, 2, 3, 4] 9 (fun w' => ∃ x : AtC wq pb ez, w' = x.world) (by kernel_rfl) (by kernel_rfl) ⟨⟨{ wq with drawn := wq.drawn + 1 }, fun _ => rfl, ez⟩, rfl⟩ ?_ ?_
      · intro d v c a w h
        cases d <;> exact h
      · simp only [headOps]
        repeat (refine wpTame_step (fun K hK => ?_); go_simp; refine hK _ ?_; clear hK K)
        refine wpTame_nil ?_
        refine wpAnyC_step (f := 4) [5] (by kernel_rfl) rfl rfl (fun i hi => ?_)
        simp only [List.mem_cons, List.not_mem_nil, or_false] at hi
        subst hi
        refine ⟨_, rfl, fun R hR => ?_⟩
        go_wp2_with fail
        refine (CIQ.out _ (bel_drew (RowKit.Below.refl _ _))).mono ?_
        rintro e w6 ⟨rfl, rfl⟩
        go_wp2_with fail
        refine hR _ _ ⟨⟨wq.drew, fun _ => rfl, ez⟩, rfl⟩ ?_
        clear hR R
        refine wpAnyC_step (f := 3) [6] (by kernel_rfl) rfl rfl (fun i hi => ?_)
        simp only [List.mem_cons, List.not_mem_nil, or_false] at hi
        subst hi
        refine ⟨_, rfl, fun R hR => ?_⟩
        go_wp2_with fail
        refine hR _ _ ⟨⟨(wq.alloc (.cells #[.int .u64 x] 43)).drew, fun o => (bel_alloc (RowKit.Below.refl _ wq) _).cell (p := ⟨pb, o, none⟩) ez, by simp; omega⟩, rfl⟩ ?_
        clear hR R
        refine wpAnyC_step (f := 2) [7] (by kernel_rfl) rfl rfl (fun i hi => ?_)
        simp only [List.mem_cons, List.not_mem_nil, or_false] at hi
        subst hi
        refine ⟨_, rfl, fun R hR => ?_⟩
        have CIN : Hid (Calls Tryz.prog 44 #[.slice ia k ic, .int .i64 ps, .slice (some ⟨wq.heap.size, 0, none⟩) 1 1] ((wq.alloc (.cells #[.int .u64 x] 43)).drew) fun e w' => ∃ v', e = .returned v' ∧ w'.ownsRow w2.heap.size 43 1 v' (k + 1) ((putAt (c.map (idR f)) ps x).map (Value.int .u64)) ∧ wq.grownBy w' (Value.slice ia k ic).ownBlock ∧ (v'.ownBlock = (Value.slice ia k ic).ownBlock ∨ ∀ q, v'.ownBlock = some q → wq.heap.size ≤ q)) := by
          have := insU_any wq.drew w2.heap.size (.slice ia k ic) (c.map (idR f)) x ps (by rw [hml]; exact IQ.out) (by omega) (by omega) (by have := KQ.out.size; exact this)
          rw [hml] at this
          exact Lib.hid (this.mono fun e w' ⟨v', h1, h2, h3, h4⟩ => ⟨v', h1, h2, ⟨h3.os, h3.tape, h3.output, h3.size, h3.block⟩, h4⟩)
        go_wp2_with fail
        refine CIN.out.mono ?_
        rintro e w7 ⟨iv7, rfl, ho7, hg7, hr7⟩
        have hiq : ∀ q, (Value.slice ia k ic).ownBlock = some q → w2.heap.size ≤ q := fun q hq => (IQ.out.lt q hq).1
        have hfar : ∀ b, b < w2.heap.size → w7.heap[b]? = wq.heap[b]? := fun b hb => hg7.block b (by have := KQ.out.size; omega) (fun e => by have := hiq b e.symm; omega)
        have hpz : pb < w2.heap.size := by have := HPB.out; omega
        have f0 := (World.cell?_of_block (a := ⟨pb, 0, none⟩) (hfar pb hpz)).trans e0
        have f1 := (World.cell?_of_block (a := ⟨pb, 1, none⟩) (hfar pb hpz)).trans e1
        have ffz : ∀ o, w7.frozen? ⟨pb, o, none⟩ = false := fun o => (World.frozen?_of_block (a := ⟨pb, o, none⟩) (hfar pb hpz)).trans (EFZ.out o)
        have fz1 := ffz 1
        have FFZ := Lib.hid ffz
        have flt : pb < w7.heap.size := Nat.lt_of_lt_of_le ez hg7.size
        have A7 := Lib.hid (AQ.out.kept hg7 (by
          rcases ho : av.ownBlock with _ | q
          · exact Or.inl rfl
          · exact Or.inr (fun e => hne.out q ho e.symm)))
        have I7 := Lib.hid ho7
        have N7 : Hid (∀ q, av.ownBlock = some q → iv7.ownBlock ≠ some q) := fun q hq e => by
          rcases hr7 with h | h
          · exact hne.out q hq (h.symm.trans e)
          · have := h q e; have := (AQ.out.lt q hq).2; omega
        have K7 : Hid (Kept (fun b => b = pb ∨ w2.heap.size ≤ b) w2 w7) := KQ.out.trans ⟨hg7.os, hg7.tape, hg7.output, hg7.size, fun b hb hS => hg7.block b hb (fun e => hS (Or.inr (hiq b e.symm)))⟩
        have G7 : Hid (∀ o, w7.cell? ⟨pb, o, none⟩ = wq.cell? ⟨pb, o, none⟩) := fun o => World.cell?_of_block (a := ⟨pb, o, none⟩) (hfar pb hpz)
        obtain ⟨i7, j7, rfl, _⟩ := (own_slAt ho7).slice
        clear ho7 hg7 hr7 hfar ffz hiq
        go_wp2_with fail
        refine hR _ _ ⟨⟨w7, G7.out, flt⟩, rfl⟩ ?_
        clear hR R
        refine wpAnyC_step (f := 1) [8] (by kernel_rfl) rfl rfl (fun i hi => ?_)
        simp only [List.mem_cons, List.not_mem_nil, or_false] at hi
        subst hi
        refine ⟨_, rfl, fun R hR => ?_⟩
        go_wp2_with fail
        refine hR _ _ ⟨⟨w7, G7.out, flt⟩, rfl⟩ ?_
        clear hR R
        refine wpAnyC_end (k := 9) (by decide) rfl rfl (by kernel_rfl) ?_
        clear e0 e1 AQ IQ KQ CIN G7
        obtain ⟨w8, hw8⟩ : ∃ z, z = w7.setCell ⟨pb, 1, none⟩ (.slice i7 (k + 1) j7) := ⟨_, rfl⟩
        have hgo : ∀ g, w2.heap.size ≤ g → w8.heap[g]? = w7.heap[g]? := fun g hg => by rw [hw8]; exact Below.heap_setCell _ _ _ _ (by dsimp only; omega)
        have hz8 : w8.heap.size = w7.heap.size := by rw [hw8]; exact size_set _ _ _
        have A8 : Hid (w8.ownsRow w2.heap.size 3 1 av k (c.map (Value.int .i64))) := owns_blocks A7.out (fun g hg _ => hgo g hg)
        have I8 := Lib.hid (owns_blocks I7.out (fun g hg _ => hgo g hg))
        have g0 : w8.cell? ⟨pb, 0, none⟩ = some av := by rw [hw8, cell_set_off _ _ _ _ _ (by decide)]; exact f0
        have g1 : w8.cell? ⟨pb, 1, none⟩ = some (.slice i7 (k + 1) j7) := by rw [hw8]; exact set_at f1
        have gfz : Hid (∀ o, w8.frozen? ⟨pb, o, none⟩ = false) := fun o => by rw [hw8, World.frozen?_setCell]; exact FFZ.out o
        have K8 : Hid (Kept (fun b => b = pb ∨ w2.heap.size ≤ b) w2 w8) := by rw [hw8]; exact K7.out.set (Or.inl rfl) _
        have CIN : Hid (Calls Tryz.prog 45 #[av, .int .i64 ps, .slice (some ⟨w8.heap.size, 0, none⟩) 1 1] (w8.alloc (.cells #[.int .i64 n] 3)) fun e w' => ∃ v', e = .returned v' ∧ w'.ownsRow w2.heap.size 3 1 v' (k + 1) ((putAt c ps n).map (Value.int .i64)) ∧ w8.grownBy w' av.ownBlock ∧ (v'.ownBlock = av.ownBlock ∨ ∀ q, v'.ownBlock = some q → w8.heap.size ≤ q)) := by
          have := insI_any w8 w2.heap.size av c n ps (by rw [hcl]; exact A8.out) (by omega) (by omega) (by have := K8.out.size; exact this)
          rw [hcl] at this
          exact Lib.hid this
        have HW8 := Lib.hid hw8
        have hfz7 := FFZ.out 1
        clear hw8 hgo A7 I7 K7
        go_wp2_with fail
        rw [← HW8.out, ← hz8]
        refine CIN.out.mono ?_
        rintro e w9 ⟨av9, rfl, ho9, hg9, hr9⟩
        have haq : ∀ q, av.ownBlock = some q → w2.heap.size ≤ q := fun q hq => (A8.out.lt q hq).1
        have hfar : ∀ b, b < w2.heap.size → w9.heap[b]? = w8.heap[b]? := fun b hb => hg9.block b (by have := K8.out.size; omega) (fun e => by have := haq b e.symm; omega)
        have h0 := (World.cell?_of_block (a := ⟨pb, 0, none⟩) (hfar pb hpz)).trans g0
        have h1 := (World.cell?_of_block (a := ⟨pb, 1, none⟩) (hfar pb hpz)).trans g1
        have hfz : ∀ o, w9.frozen? ⟨pb, o, none⟩ = false := fun o => (World.frozen?_of_block (a := ⟨pb, o, none⟩) (hfar pb hpz)).trans (gfz.out o)
        have hfz0 := hfz 0
        have HFZ := Lib.hid hfz
        have hlt9 : pb < w9.heap.size := by have := hg9.size; omega
        have I9 := Lib.hid (I8.out.kept hg9 (by
          rcases ho : (Value.slice i7 (k + 1) j7).ownBlock with _ | q
          · exact Or.inl rfl
          · exact Or.inr (fun e => N7.out q e.symm ho)))
        have N9 : Hid (∀ q, av9.ownBlock = some q → (Value.slice i7 (k + 1) j7).ownBlock ≠ some q) := fun q hq e => by
          rcases hr9 with h | h
          · exact N7.out q (h.symm.trans hq) e
          · have := h q hq; have := (I8.out.lt q e).2; omega
        have K9 : Hid (Kept (fun b => b = pb ∨ w2.heap.size ≤ b) w2 w9) := K8.out.trans ⟨hg9.os, hg9.tape, hg9.output, hg9.size, fun b hb hS => hg9.block b hb (fun e => hS (Or.inr (haq b e.symm)))⟩
        have O9 := Lib.hid ho9
        obtain ⟨a9, j9, rfl, _⟩ := (own_slAt ho9).slice
        clear ho9 hg9 hr9 hfar hfz haq g0 g1 A8 I8 K8 CIN f0 f1 fz1 hfz7
        go_wp2_with fail
        go_roundw
        case rel =>
          go_light
          refine ⟨k + 1, _, _, by omega, by go_num, ⟨set_at h0, ?_, fun o => by rw [World.frozen?_setCell]; exact HFZ.out o, by rw [size_set]; exact hlt9⟩, ?_, ?_, N9.out, ?_⟩
          · rw [cell_set_off _ _ _ _ _ (by decide)]; exact h1
          · rw [hnx.out]
            exact owns_blocks O9.out (fun g hg _ => Below.heap_setCell _ _ _ _ (by dsimp only; omega))
          · rw [hnx.out, map_putAt, ← HX.out]
            exact owns_blocks I9.out (fun g hg _ => Below.heap_setCell _ _ _ _ (by dsimp only; omega))
          · exact K9.out.set (Or.inl rfl) _
        case measure => go_light; simp [intOf]; omega
    · obtain rfl : k = L.length := by omega
      obtain ⟨q0, q1, qz, qlt⟩ := hP.out
      have hAl := own_ints hA.out
      have hIl := own_ints hI.out
      rw [List.take_length] at hAl hIl
      have hc1 : (ordF f L).length = L.length := ordF_len f L
      have hc2 : ((ordF f L).map (idR f)).length = L.length := by simpa using hc1
      rw [hc1] at hAl
      rw [hc2] at hIl
      obtain ⟨aa, ac, rfl, _⟩ := hAl.slice
      obtain ⟨ia, ic, rfl, _⟩ := hIl.slice
      have HAl := Lib.hid hAl
      have HIl := Lib.hid hIl
      have hrn : ¬ (w.heap.size = pb ∨ w2.heap.size ≤ w.heap.size) := by have := HPB.out; omega
      have hrz : w.heap.size < w2.heap.size := by omega
      have s0 := (World.cell?_of_block (a := ⟨w.heap.size, 0, none⟩) (hK.out.block _ hrz hrn)).trans k0
      have s1 := (World.cell?_of_block (a := ⟨w.heap.size, 1, none⟩) (hK.out.block _ hrz hrn)).trans k1
      have sz0 := (World.frozen?_of_block (a := ⟨w.heap.size, 0, none⟩) (hK.out.block _ hrz hrn)).trans (r0 0)
      have sz1 := (World.frozen?_of_block (a := ⟨w.heap.size, 1, none⟩) (hK.out.block _ hrz hrn)).trans (r0 1)
      have slt : w.heap.size < wr.heap.size := Nat.lt_of_lt_of_le hrz hK.out.size
      have BWr := BW.out wr hK.out
      clear hAl hIl k0 k1 r0 hrn
      go_wp2_with fail
      refine bodyPost_ret (v := .agg #[.slice aa L.length ac, .slice ia L.length ic]) ?_ rfl (HP.out _ _ ⟨_, _, rfl, ?_, ?_, ?_⟩)
      · have t0 : ((wr.setCell ⟨w.heap.size, 0, none⟩ (.slice aa L.length ac)).setCell ⟨w.heap.size, 1, none⟩ (.slice ia L.length ic)).cell? ⟨w.heap.size, 0, none⟩ = some (.slice aa L.length ac) := by
          rw [cell_set_off _ _ _ _ _ (by decide)]; exact set_at s0
        have t1 : ((wr.setCell ⟨w.heap.size, 0, none⟩ (.slice aa L.length ac)).setCell ⟨w.heap.size, 1, none⟩ (.slice ia L.length ic)).cell? ⟨w.heap.size, 1, none⟩ = some (.slice ia L.length ic) :=
          set_at (by rw [cell_set_off _ _ _ _ _ (by decide)]; exact s1)
        simp [results, Tryz.results10, go_sem, t0, t1]
      · rw [hc1]
        exact ((HAl.out.set (by dsimp only; omega) _).set (by dsimp only; omega) _).base (by omega)
      · rw [hc1]
        exact ((HIl.out.set (by dsimp only; omega) _).set (by dsimp only; omega) _).base (by omega)
      · exact bel_set (bel_set BWr (Nat.le_refl _) _) (Nat.le_refl _) _
end Go.Proofs.YtahiahjhpakeiaaGreatDoor
namespace Go.Proofs.YtahiahjhpakeiaaGreatDoor
open Go.RowKit Go.Maps Go.Sort
set_option linter.unusedVariables false
set_option linter.unusedSimpArgs false
attribute [local go_sem] later_cell later_frozen later_lt

/-- Number i, round the circle. -/
def cAt (c : List Int) (i : Int) : Int := nth c (i % (c.length : Int)).toNat
theorem circ_at (w : World) (c : List Int) (av iv : Value) (hc : SlAt 0 (fun i => .int .i64 (nth c i)) c.length w av) (h0 : 0 < c.length) (hl : c.length ≤ 1000) (i : Int) (hi : -1 ≤ i) (hi2 : i ≤ 2000) :
    Calls Tryz.prog 77 #[.agg #[av, iv], .int .i64 i] w fun e w' => e = .returned (.int .i64 (cAt c i)) ∧ RowKit.Below w.heap.size w w' := by
  obtain ⟨aa, ac, rfl, _⟩ := hc.slice
  obtain ⟨n, hn⟩ : ∃ n, n = c.length := ⟨_, rfl⟩
  have HC := Lib.hid hc
  rw [← hn] at hc h0 hl ⊢
  obtain ⟨r, hr, hr1, hr2⟩ : ∃ r, i.tmod (n : Int) = r ∧ -(n : Int) < r ∧ r < (n : Int) := ⟨_, rfl, by have := Int.lt_tmod_of_pos i (show (0 : Int) < n by omega); omega, by have := Int.tmod_lt_of_pos i (show (0 : Int) < n by omega); omega⟩
  obtain ⟨j, hj, hjn⟩ : ∃ j : Nat, (i % (n : Int)) = (j : Int) ∧ j < n := ⟨(i % (n : Int)).toNat, by have := Int.emod_nonneg i (show (n : Int) ≠ 0 by omega); omega, by have := Int.emod_lt_of_pos i (show (0 : Int) < n by omega); have := Int.emod_nonneg i (show (n : Int) ≠ 0 by omega); omega⟩
  have ht : (r + (n : Int)).tmod (n : Int) = (j : Int) := by
    rw [Int.tmod_eq_emod_of_nonneg (by omega), ← hj, ← hr]
    rw [Int.add_emod_right]
    by_cases hi0 : 0 ≤ i
    · rw [Int.tmod_eq_emod_of_nonneg hi0, Int.emod_emod]
    · obtain rfl : i = -1 := by omega
      rw [show (-1 : Int).tmod (n : Int) = -(1 % (n : Int)) from by rw [Int.neg_tmod, Int.tmod_eq_emod_of_nonneg (by omega)]]
      by_cases h1 : n = 1
      · subst h1; rfl
      · rw [show (1 : Int) % (n : Int) = 1 from Int.emod_eq_of_lt (by omega) (by omega)]
  have hE : Hid (cAt c i = nth c j) := show cAt c i = nth c j by unfold cAt; rw [← hn, hj]; rfl
  obtain ⟨b, off, rfl, _, hb, hcell⟩ := HC.out.at j (by omega) w (RowKit.Below.refl _ _)
  have hn0 : ¬ ((n : Int) = 0) := by omega
  have hz : Hid (∀ wr, RowKit.Below w.heap.size w wr → wr.cell? ⟨b, off + j, none⟩ = some (.int .i64 (nth c j)) ∧ b < wr.heap.size) := fun wr hB => ⟨(hB.cell (p := ⟨b, off + j, none⟩) hb).trans hcell, Nat.lt_of_lt_of_le hb hB.size⟩
  clear hc hj HC hn
  go_enter Tryz.func77, Tryz.ntmps77
  go_wp2_with fail
  refine wp_region_calm (by kernel_rfl) (by kernel_rfl) ?_
  repeat (first | (go_big_quiet_step ((fail))) | (refine wpQuiet_step (fun K hK => ?_); go_simp; first | (refine hK _ ?_; clear hK K) | (apply Exists.intro; refine ⟨fun _ => ?_, hK _ ?_⟩; (fail); clear hK K)))
  refine wpQuiet_nil ?_
  intro _ hw'
  obtain ⟨xq, hw''⟩ := hw'
  subst hw''
  go_wp2_with fail
  go_ret
  exact ⟨by rw [hE.out]; first | done | rfl, by (repeat (first | exact Below.refl _ _ | (with_reducible assumption) | (with_reducible refine bel_later ?_ _) | (with_reducible refine bel_alloc ?_ _) | (with_reducible refine bel_drew ?_) | (with_reducible refine bel_drewN ?_ _) | (with_reducible refine bel_set ?_ (by first | (simp; done) | (simp; omega) | (dsimp only; omega)) _)))⟩
theorem circ_lenC (w : World) (aa : Option Addr) (n ac : Nat) (iv : Value) : Calls Tryz.prog 78 #[.agg #[.slice aa n ac, iv]] w fun e w' => e = .returned (.int .i64 n) ∧ RowKit.Below w.heap.size w w' := by
  go_enter Tryz.func78, Tryz.ntmps78
  go_wp2
  go_ret
  exact ⟨rfl, by (repeat (first | exact Below.refl _ _ | (with_reducible assumption) | (with_reducible refine bel_later ?_ _) | (with_reducible refine bel_alloc ?_ _) | (with_reducible refine bel_drew ?_) | (with_reducible refine bel_drewN ?_ _) | (with_reducible refine bel_set ?_ (by first | (simp; done) | (simp; omega) | (dsimp only; omega)) _)))⟩

theorem indexi_any (w : World) (v : Value) (l : List Int) (h : SlAt 0 (fun i => .int .i64 (nth l i)) l.length w v) (hl : l.length ≤ 4000000000) (x : Int) :
    Calls Tryz.prog 76 #[v, .int .i64 x] w fun e w' => e = .returned (.int .i64 (idxI l x)) ∧ w = w' := by
  rcases h.parts with ⟨h0, a, cap, rfl, _⟩ | ⟨h0, b, off, cap, rfl, h1, h2, _, _, hc⟩
  · have e : idxI l x = -1 := by rw [List.length_eq_zero_iff.1 h0]; rfl
    rw [e]
    exact (AnyE.slices_Index_empty Tryz.indexI a cap (.int .i64 x) w).mono fun e w' h => ⟨h.1, h.2.symm⟩
  · have := AnyE.slices_Index Tryz.indexI (Value.int .i64) (fun x y => x == y) (EqlAt.int _ _ .i64) b off l.length cap l x w (Nat.le_refl _) (by omega) (fun j hj => by rw [getL]; exact hc j hj)
    rw [List.take_length] at this
    exact Calls.mono this fun e w' h => ⟨h.1, h.2.symm⟩
end Go.Proofs.YtahiahjhpakeiaaGreatDoor
namespace Go.Proofs.YtahiahjhpakeiaaGreatDoor
open Go.RowKit Go.Maps Go.Sort
set_option linter.unusedVariables false
set_option linter.unusedSimpArgs false
attribute [local go_sem] later_cell later_frozen later_lt cell_set_off cell_set_block

/-- Who comes behind number i of a circle: j of them. -/
def cSuc (c : List Int) (i : Int) (j : Nat) : List Int := (List.range j).map fun t : Nat => cAt c (i + 1 + (t : Int))
def cNum (c : List Int) : Nat := min 3 (c.length - 1)
/-- What an address should know: told so, or that it is none. -/
def KnowPost (w : World) (c ids : List Int) (n : Int) (e : Ending) (w' : World) : Prop :=
  if idxI c n < 0 then e = .returned (.tuple #[.agg #[.int .u64 0, .int .i64 0, .slice none 0 0], .bool false]) ∧ RowKit.Below w.heap.size w w'
  else ∃ v, e = .returned (.tuple #[.agg #[.int .u64 (nth ids (idxI c n).toNat), .int .i64 (cAt c (idxI c n - 1)), v], .bool true]) ∧
    SlAt w.heap.size (fun i => .int .i64 (nth (cSuc c (idxI c n) (cNum c)) i)) (cNum c) w' v ∧ RowKit.Below w.heap.size w w'
theorem idxI_cases (c : List Int) (n : Int) : idxI c n = -1 ∨ ∃ i : Nat, i < c.length ∧ idxI c n = i ∧ nth c i = n := by
  unfold idxI Lib.idxBy
  have key : ∀ (l : List Int) (s : Nat), Lib.idxByFrom (fun x y : Int => x == y) n l s = -1 ∨ ∃ i : Nat, i < l.length ∧ Lib.idxByFrom (fun x y : Int => x == y) n l s = ((s + i : Nat) : Int) ∧ nth l i = n := by
    intro l
    induction l with
    | nil => intro s; exact Or.inl rfl
    | cons a l ih =>
      intro s
      by_cases h : n = a
      · exact Or.inr ⟨0, by simp, by simp [Lib.idxByFrom, h], by simp [nth_zero, h]⟩
      · rcases ih (s + 1) with h2 | ⟨i, h2, h3, h4⟩
        · exact Or.inl (by simp [Lib.idxByFrom, h, h2])
        · exact Or.inr ⟨i + 1, by simp; omega, by simp [Lib.idxByFrom, h, h3]; omega, by simpa [nth_succ] using h4⟩
  rcases key c 0 with h | ⟨i, h1, h2, h3⟩
  · exact Or.inl h
  · exact Or.inr ⟨i, h1, by simpa using h2, h3⟩

theorem cSuc_len (c : List Int) (i : Int) (j : Nat) : (cSuc c i j).length = j := by simp [cSuc]
set_option maxRecDepth 100000 in
set_option maxHeartbeats 8000000 in
theorem cpeer_at (w : World) (c ids : List Int) (av iv : Value) (hc : SlAt 0 (fun i => .int .i64 (nth c i)) c.length w av) (hi : SlAt 0 (fun i => .int .u64 (nth ids i)) ids.length w iv) (hci : ids.length = c.length) (hl : c.length ≤ 1000) (n : Int) :
    Calls Tryz.prog 23 #[.agg #[av, iv], .int .i64 n] w (KnowPost w c ids n) := by
  obtain ⟨i00, hi00, hz00, hz01, hz02⟩ : ∃ i0, Tryz.prog.info? 3 = some i0 ∧ i0.zero = some (Value.int .i64 0) ∧ i0.size = 1 ∧ i0.bytes = 8 := ⟨intI, intI_at, by kernel_rfl, by kernel_rfl, by kernel_rfl⟩
  have CX := Lib.hid (fun wr (hb : RowKit.Below w.heap.size w wr) => indexi_any wr av c (hc.below hb) (by omega) n)
  have CA := Lib.hid (fun (h0 : 0 < c.length) wr (hb : RowKit.Below w.heap.size w wr) (i : Int) (h1 : -1 ≤ i) (h2 : i ≤ 2000) => circ_at wr c av iv (hc.below hb) h0 hl i h1 h2)
  obtain ⟨aa, ac, rfl, _⟩ := hc.slice
  obtain ⟨ia, ic, rfl, _⟩ := hi.slice
  have HI := Lib.hid hi
  rw [hci] at CA ⊢
  rcases idxI_cases c n with hx | ⟨i0, hi1, hx, hi3⟩
  · rw [hx] at CX
    have HP : Hid (∀ e w', (e = .returned (.tuple #[.agg #[.int .u64 0, .int .i64 0, .slice none 0 0], .bool false]) ∧ RowKit.Below w.heap.size w w') → KnowPost w c ids n e w') := fun e w' h => by unfold KnowPost; rw [hx, if_pos (by decide)]; exact h
    clear hc hi hx
    go_enter Tryz.func23, Tryz.ntmps23
    go_wp2_with fail
    refine (CX.out _ (by (repeat (first | exact Below.refl _ _ | (with_reducible assumption) | (with_reducible refine bel_later ?_ _) | (with_reducible refine bel_alloc ?_ _) | (with_reducible refine bel_drew ?_) | (with_reducible refine bel_drewN ?_ _) | (with_reducible refine bel_set ?_ (by first | (simp; done) | (simp; omega) | (dsimp only; omega)) _))))).mono ?_
    rintro e w1 ⟨rfl, rfl⟩
    go_wp2_with fail
    refine bodyPost_ret (v := .tuple #[.agg #[.int .u64 0, .int .i64 0, .slice none 0 0], .bool false]) ?_ rfl (HP.out _ _ ⟨rfl, ?_⟩)
    · simp [results, Tryz.results23, go_sem]
    · (repeat (first | exact Below.refl _ _ | (with_reducible assumption) | (with_reducible refine bel_later ?_ _) | (with_reducible refine bel_alloc ?_ _) | (with_reducible refine bel_drew ?_) | (with_reducible refine bel_drewN ?_ _) | (with_reducible refine bel_set ?_ (by first | (simp; done) | (simp; omega) | (dsimp only; omega)) _)))
  · rw [hx] at CX
    have hc0 : 0 < c.length := by omega
    have HP : Hid (∀ e w' v, e = .returned (.tuple #[.agg #[.int .u64 (nth ids i0), .int .i64 (cAt c ((i0 : Int) - 1)), v], .bool true]) → SlAt w.heap.size (fun t => .int .i64 (nth (cSuc c i0 (cNum c)) t)) (cNum c) w' v → RowKit.Below w.heap.size w w' → KnowPost w c ids n e w') :=
      fun e w' v h1 h2 h3 => by unfold KnowPost; rw [hx, if_neg (by omega)]; exact ⟨v, by simpa using h1, h2, h3⟩
    obtain ⟨b, off, rfl, _, hb, hcell⟩ := HI.out.at i0 (by omega) w (RowKit.Below.refl _ _)
    obtain ⟨id, hid⟩ : ∃ id, id = nth ids i0 := ⟨_, rfl⟩
    obtain ⟨pr, hpr⟩ : ∃ pr, pr = cAt c ((i0 : Int) - 1) := ⟨_, rfl⟩
    have CP := Lib.hid (fun wr (hb : RowKit.Below w.heap.size w wr) => CA.out hc0 wr hb ((i0 : Int) - 1) (by omega) (by omega))
    rw [← hid] at hcell HP
    rw [← hpr] at HP CP
    clear hc hi hx hi3 hid hpr HI
    go_enter Tryz.func23, Tryz.ntmps23
    go_wp2_with fail
    refine (CX.out _ (by (repeat (first | exact Below.refl _ _ | (with_reducible assumption) | (with_reducible refine bel_later ?_ _) | (with_reducible refine bel_alloc ?_ _) | (with_reducible refine bel_drew ?_) | (with_reducible refine bel_drewN ?_ _) | (with_reducible refine bel_set ?_ (by first | (simp; done) | (simp; omega) | (dsimp only; omega)) _))))).mono ?_
    rintro e w1 ⟨rfl, rfl⟩
    obtain ⟨wr, hwr⟩ : ∃ z, z = (w.alloc (.cells #[.slice aa c.length ac, .slice (some ⟨b, off, none⟩) c.length ic] 38)).alloc (.cells #[.int .u64 0, .int .i64 0, .slice none 0 0] 67) := ⟨_, rfl⟩
    have c0 : wr.cell? ⟨w.heap.size, 0, none⟩ = some (.slice aa c.length ac) := by rw [hwr]; simp [go_sem]
    have c1 : wr.cell? ⟨w.heap.size, 1, none⟩ = some (.slice (some ⟨b, off, none⟩) c.length ic) := by rw [hwr]; simp [go_sem]
    have rr0 : wr.cell? ⟨w.heap.size + 1, 0, none⟩ = some (.int .u64 0) := by rw [hwr]; simp [go_sem]
    have rr1 : wr.cell? ⟨w.heap.size + 1, 1, none⟩ = some (.int .i64 0) := by rw [hwr]; simp [go_sem]
    have rr2 : wr.cell? ⟨w.heap.size + 1, 2, none⟩ = some (.slice none 0 0) := by rw [hwr]; simp [go_sem]
    have rrz : ∀ o, wr.frozen? ⟨w.heap.size + 1, o, none⟩ = false := fun o => by rw [hwr]; simp [go_sem]
    have RR := Lib.hid (And.intro rr0 (And.intro rr1 (And.intro rr2 rrz)))
    clear rr0 rr1 rr2 rrz
    have Bw : RowKit.Below w.heap.size w wr := by rw [hwr]; (repeat (first | exact Below.refl _ _ | (with_reducible assumption) | (with_reducible refine bel_later ?_ _) | (with_reducible refine bel_alloc ?_ _) | (with_reducible refine bel_drew ?_) | (with_reducible refine bel_drewN ?_ _) | (with_reducible refine bel_set ?_ (by first | (simp; done) | (simp; omega) | (dsimp only; omega)) _)))
    have cid : wr.cell? ⟨b, off + i0, none⟩ = some (.int .u64 id) := (Bw.cell (p := ⟨b, off + i0, none⟩) hb).trans hcell
    have hbr : b < wr.heap.size := Nat.lt_of_lt_of_le hb Bw.size
    have hzr : w.heap.size + 2 = wr.heap.size := by rw [hwr]; simp
    have hzr0 : w.heap.size < wr.heap.size := by omega
    rw [← hwr]
    clear hwr
    go_wp2_with fail
    refine wp_region_heads [0, 1, 2, 3, 4, 5, 6, 7] 11 (fun w' => ∃ x : Later wr, w' = x.world) (by kernel_rfl) (by kernel_rfl) ⟨⟨{ wr with drawn := wr.drawn + 1 }, (RowKit.Below.refl _ _).drew⟩, rfl⟩ ?_ ?_
    · intro d v c a w h
      cases d <;> exact h
    · simp only [headOps]
      repeat (refine wpTame_step (fun K hK => ?_); go_simp; refine hK _ ?_; clear hK K)
      refine wpTame_nil ?_
      refine wpAnyC_step (f := 3) [8, 10] (by kernel_rfl) rfl rfl (fun i hi => ?_)
      simp only [List.mem_cons, List.not_mem_nil, or_false] at hi
      rcases hi with rfl | rfl
      · refine ⟨_, rfl, fun R hR => ?_⟩
        go_wp2_with fail
        refine (CP.out _ (bel_drew Bw)).mono ?_
        rintro e w6 ⟨rfl, hB6⟩
        have B6 : RowKit.Below wr.heap.size wr w6 := (bel_drew (RowKit.Below.refl _ _)).trans (hB6.mono (by simp))
        go_wp2_with fail
        refine hR _ _ ⟨⟨w6, B6⟩, rfl⟩ ?_
        clear hR R hB6
        refine wpAnyC_step (f := 2) [9, 10] (by kernel_rfl) rfl rfl (fun i hi => ?_)
        simp only [List.mem_cons, List.not_mem_nil, or_false] at hi
        obtain ⟨W, hW⟩ : ∃ z, z = w6.alloc (.cells #[.int .u64 0, .int .i64 0, .slice none 0 0] 67) := ⟨_, rfl⟩
        have BW : RowKit.Below wr.heap.size wr W := by rw [hW]; exact bel_alloc B6 _
        obtain ⟨pq, hpq⟩ : ∃ z, z = w6.heap.size := ⟨_, rfl⟩
        have b0 : W.cell? ⟨pq, 0, none⟩ = some (.int .u64 0) := by rw [hW, hpq]; simp [go_sem]
        have b1 : W.cell? ⟨pq, 1, none⟩ = some (.int .i64 0) := by rw [hW, hpq]; simp [go_sem]
        have b2 : W.cell? ⟨pq, 2, none⟩ = some (.slice none 0 0) := by rw [hW, hpq]; simp [go_sem]
        have bfz : ∀ o, W.frozen? ⟨pq, o, none⟩ = false := fun o => by rw [hW, hpq]; simp [go_sem]
        have bz : pq < W.heap.size := by rw [hW, hpq]; simp
        have bq : wr.heap.size ≤ pq := by rw [hpq]; exact B6.size
        have HW := Lib.hid hW
        have HPQ := Lib.hid hpq
        clear hW hpq
        rcases hi with rfl | rfl
        · refine ⟨_, rfl, fun R hR => ?_⟩
          go_wp2_with fail
          refine hR _ _ ⟨⟨w6, B6⟩, rfl⟩ ?_
          clear hR R
          refine wpAnyC_step (f := 1) [10] (by kernel_rfl) rfl rfl (fun i hi => ?_)
          simp only [List.mem_cons, List.not_mem_nil, or_false] at hi
          subst hi
          refine ⟨_, rfl, fun R hR => ?_⟩
          go_wp2_with fail
          rw [← HPQ.out, ← HW.out]
          refine hR _ _ ⟨⟨W, BW⟩, rfl⟩ ?_
          clear hR R
          refine wpAnyC_end (k := 11) (by decide) rfl rfl (by kernel_rfl) ?_
          have bfz0 := bfz 0
          have bfz1 := bfz 1
          have bfz2 := bfz 2
          have t1 : (W.setCell ⟨pq, 0, none⟩ (.int .u64 id)).cell? ⟨pq, 1, none⟩ = some (.int .i64 0) := by rw [cell_set_off _ _ _ _ _ (by decide)]; exact b1
          have t2 : ((W.setCell ⟨pq, 0, none⟩ (.int .u64 id)).setCell ⟨pq, 1, none⟩ (.int .i64 pr)).cell? ⟨pq, 2, none⟩ = some (.slice none 0 0) := by rw [cell_set_off _ _ _ _ _ (by decide), cell_set_off _ _ _ _ _ (by decide)]; exact b2
          obtain ⟨W5, hW5⟩ : ∃ z, z = ((W.setCell ⟨pq, 0, none⟩ (.int .u64 id)).setCell ⟨pq, 1, none⟩ (.int .i64 pr)).setCell ⟨pq, 2, none⟩ (.slice none 0 0) := ⟨_, rfl⟩
          have P5 : Hid (W5.cell? ⟨pq, 0, none⟩ = some (.int .u64 id) ∧ W5.cell? ⟨pq, 1, none⟩ = some (.int .i64 pr) ∧ W5.cell? ⟨pq, 2, none⟩ = some (.slice none 0 0) ∧ (∀ o, W5.frozen? ⟨pq, o, none⟩ = false) ∧ pq < W5.heap.size) := by
            show _ ∧ _
            rw [hW5]
            refine ⟨?_, ?_, set_at t2, fun o => by rw [World.frozen?_setCell, World.frozen?_setCell, World.frozen?_setCell]; exact bfz o, by rw [size_set, size_set, size_set]; exact bz⟩
            · rw [cell_set_off _ _ _ _ _ (by decide), cell_set_off _ _ _ _ _ (by decide)]; exact set_at b0
            · rw [cell_set_off _ _ _ _ _ (by decide)]; exact set_at t1
          have B5 : Hid (RowKit.Below wr.heap.size wr W5) := by rw [hW5]; exact bel_set (bel_set (bel_set BW bq _) bq _) bq _
          have HW5 := Lib.hid hW5
          clear hW5 BW
          obtain ⟨d0, d1, d2, dz, dlt⟩ := P5.out
          have DC0 := Lib.hid ((B5.out.cell (p := ⟨w.heap.size, 0, none⟩) hzr0).trans c0)
          have DC1 := Lib.hid ((B5.out.cell (p := ⟨w.heap.size, 1, none⟩) hzr0).trans c1)
          have hc05 := DC0.out
          have hc15 := DC1.out
          have hz05 : w.heap.size < W5.heap.size := Nat.lt_of_lt_of_le hzr0 B5.out.size
          go_upto_region 5 with (fail)
          rw [← HW5.out]
          have KC0 := Lib.hid c0
          have KC1 := Lib.hid c1
          clear t1 t2 b0 b1 b2 bfz bfz0 bfz1 bfz2 c0 c1 cid HW5
          go_wp2_with fail
          refine (circ_lenC _ _ _ _ _).mono ?_
          rintro e w6 ⟨rfl, hB6⟩
          obtain ⟨m, hm⟩ : ∃ m, m = cNum c := ⟨_, rfl⟩
          have hmin : min (3 : Int) ((c.length : Int) - 1) = (m : Int) := by rw [hm]; unfold cNum; omega
          have hm3 : m ≤ 3 := by rw [hm]; unfold cNum; omega
          have hpos : 1 ≤ c.length := by omega
          have HM := Lib.hid hm
          have B6 := Lib.hid (bel_below B5.out hB6)
          have P6 : Hid (w6.cell? ⟨pq, 0, none⟩ = some (.int .u64 id) ∧ w6.cell? ⟨pq, 1, none⟩ = some (.int .i64 pr) ∧ w6.cell? ⟨pq, 2, none⟩ = some (.slice none 0 0) ∧ (∀ o, w6.frozen? ⟨pq, o, none⟩ = false) ∧ pq < w6.heap.size) :=
            ⟨(hB6.cell (p := ⟨pq, 0, none⟩) dlt).trans d0, (hB6.cell (p := ⟨pq, 1, none⟩) dlt).trans d1, (hB6.cell (p := ⟨pq, 2, none⟩) dlt).trans d2, fun o => (hB6.frozen (p := ⟨pq, o, none⟩) dlt).trans (dz o), Nat.lt_of_lt_of_le dlt hB6.size⟩
          have KW := Lib.hid (fun wq (hb : RowKit.Below pq w6 wq) => (Bw.trans ((B6.out.mono (Nat.le_of_lt hzr0)).trans (hb.mono (by omega))) : RowKit.Below w.heap.size w wq))
          have KB := Lib.hid (fun wq (hb : RowKit.Below pq w6 wq) => (⟨(hb.cell (p := ⟨w.heap.size, 0, none⟩) (by dsimp only; omega)).trans ((B6.out.cell (p := ⟨w.heap.size, 0, none⟩) hzr0).trans KC0.out), (hb.cell (p := ⟨w.heap.size, 1, none⟩) (by dsimp only; omega)).trans ((B6.out.cell (p := ⟨w.heap.size, 1, none⟩) hzr0).trans KC1.out)⟩ :
            wq.cell? ⟨w.heap.size, 0, none⟩ = some (.slice aa c.length ac) ∧ wq.cell? ⟨w.heap.size, 1, none⟩ = some (.slice (some ⟨b, off, none⟩) c.length ic)))
          clear hm hB6 hc05 hc15 hz05 d0 d1 d2 dz dlt DC0 DC1 P5
          go_wp2_with fail
          go_loopw [8, 30] (fun _ i wq => ∃ (j : Nat) (sv : Value), j ≤ m ∧ i = .int .i64 j ∧ Hid (wq.cell? ⟨pq, 0, none⟩ = some (.int .u64 id) ∧ wq.cell? ⟨pq, 1, none⟩ = some (.int .i64 pr) ∧ wq.cell? ⟨pq, 2, none⟩ = some sv ∧ (∀ o, wq.frozen? ⟨pq, o, none⟩ = false) ∧ pq < wq.heap.size) ∧
              Hid (wq.ownsRow (pq + 1) 3 1 sv j ((cSuc c i0 j).map (Value.int .i64))) ∧ Hid (RowKit.Below pq w6 wq)) (fun _ i _ => m - (intOf i).toNat)
          case atStart => exact ⟨0, _, by omega, rfl, P6.out, World.ownsRow_nil _ _ _ _, RowKit.Below.refl _ _⟩
          case round =>
            obtain ⟨j, sv, hj, rfl, hP, hO, hK2⟩ := hrel
            by_cases hj3 : j < m
            · obtain ⟨c0, c1, c2, fz, hpw⟩ := hP.out
              obtain ⟨bc0, bc1⟩ := KB.out _ hK2.out
              have bcz : w.heap.size < wr.heap.size := Nat.lt_of_lt_of_le (by have := B6.out.size; omega) hK2.out.size
              have ca2 := Lib.hid (fun wq' (hK' : RowKit.Below pq w6 wq') => CA.out hc0 wq' (KW.out wq' hK') ((i0 : Int) + 1 + (j : Int)) (by omega) (by omega))
              go_wp2_with fail
              refine wp_region_tame 7 9 (fun w' => ∃ x : Later wr, w' = x.world) (by kernel_rfl) (by kernel_rfl) ⟨⟨{ wr with drawn := wr.drawn + 1 }, (RowKit.Below.refl _ _).drew⟩, rfl⟩ ?_ ?_
              · intro d v c a w h
                cases d <;> exact h
              · simp only [List.take_succ_cons, List.take_zero, List.drop_succ_cons, List.drop_zero]
                repeat (refine wpTame_step (fun K hK => ?_); go_simp; refine hK _ ?_; clear hK K)
                refine wpTame_nil ?_
                refine wpSeqC_step (by decide) (fun R hR => ?_)
                go_wp2_with fail
                refine (ca2.out _ hK2.out.drew).mono ?_
                rintro e w8 ⟨rfl, hB8⟩
                have B8 : RowKit.Below wr.heap.size wr w8 := (bel_drew (RowKit.Below.refl _ _)).trans (hB8.mono (by simp))
                go_wp2_with fail
                refine hR _ _ ⟨⟨w8, B8⟩, rfl⟩ ?_
                clear hR R
                refine wpSeqC_step (by decide) (fun R hR => ?_)
                go_wp2_with fail
                refine hR _ _ ⟨⟨_, bel_alloc B8 _⟩, rfl⟩ ?_
                clear hR R
                refine wpSeqC_list (by decide) ?_
                have O8 := Lib.hid (owns_below hO.out B8)
                have hp8 : pq < w8.heap.size := Nat.lt_of_lt_of_le hpw B8.size
                go_wp2_with (at_builtin; refine wpList_app rfl _ _ 36 rfl (pq + 1) 3 i00 (.int .i64 0) 8 Tryz.underlying36 hi00 hz00 hz01 hz02 rfl _ j _ rfl (O8.out.alloc _) 0 _ 1 _ rfl (sl_new _ .i64 [cAt c ((i0 : Int) + 1 + (j : Int))] 3 _ 1 rfl rfl (by simp [maxLen])) (fun _ => rfl) ?qc1 ?qc2 ?qc3 ?_)
                case qc1 => simp only [maxLen]; omega
                case qc2 => omega
                case qc3 => simp; omega
                intro v7 w7 ho7 hg7
                have hown : ∀ q, sv.ownBlock = some q → pq + 1 ≤ q := fun q hq => (O8.out.lt q hq).1
                have B8a := bel_alloc B8 (.cells [Value.int IntKind.i64 (cAt c ((i0 : Int) + 1 + (j : Int)))].toArray 3)
                have hfar : ∀ b, b ≤ pq → w7.heap[b]? = wr.heap[b]? := fun b hb' => by
                  rw [hg7.block b (by simp; omega) (fun e => by have := hown b e.symm; omega)]
                  exact B8a.block b (by omega)
                have hp7 : pq < w7.heap.size := by have := hg7.size; simp at this; omega
                have d0 := (World.cell?_of_block (a := ⟨pq, 0, none⟩) (hfar pq (Nat.le_refl _))).trans c0
                have d1 := (World.cell?_of_block (a := ⟨pq, 1, none⟩) (hfar pq (Nat.le_refl _))).trans c1
                have d2 := (World.cell?_of_block (a := ⟨pq, 2, none⟩) (hfar pq (Nat.le_refl _))).trans c2
                have dz : ∀ o, w7.frozen? ⟨pq, o, none⟩ = false := fun o => (World.frozen?_of_block (a := ⟨pq, o, none⟩) (hfar pq (Nat.le_refl _))).trans (fz o)
                have dz2 := dz 2
                have DZ := Lib.hid dz
                have hs7 := own_slAt ho7
                obtain ⟨a7, q7, rfl, _⟩ := hs7.slice
                have O7 := Lib.hid ho7
                have K7 : Hid (RowKit.Below pq w6 w7) := (hK2.out.trans (B8a.mono (Nat.le_of_lt hpw))).grown hg7 (by have := B8a.size; omega) (fun q hq => by have := hown q hq; omega)
                clear ho7 hg7 hs7 c0 c1 c2 hfar dz B8a fz
                go_wp2_with fail
                go_roundw
                case rel =>
                  refine ⟨j + 1, _, by omega, by go_num, ⟨?_, ?_, set_at d2, fun o => by rw [World.frozen?_setCell]; exact DZ.out o, by rw [size_set]; exact hp7⟩, ?_, ?_⟩
                  · rw [cell_set_off _ _ _ _ _ (by decide)]; exact d0
                  · rw [cell_set_off _ _ _ _ _ (by decide)]; exact d1
                  · refine owns_blocks (w := w7) ?_ (fun g hg _ => Below.heap_setCell _ _ _ _ (by dsimp only; omega))
                    have := O7.out
                    simpa [cSuc, List.range_succ, nth] using this
                  · exact K7.out.setCell (Nat.le_refl _) _
                case measure => go_light; simp [intOf]; omega
            · obtain rfl : j = m := by omega
              obtain ⟨c0, c1, c2, fz, hpw⟩ := hP.out
              have hs := own_ints hO.out
              rw [cSuc_len] at hs
              obtain ⟨a9, q9, rfl, _⟩ := hs.slice
              have HS := Lib.hid hs
              obtain ⟨s0, s1, s2, sz⟩ := RR.out
              have hpr1 : w.heap.size + 1 < pq := by omega
              have hz1w : w.heap.size + 1 < w6.heap.size := by have := P6.out.2.2.2.2; omega
              have u0 := (hK2.out.cell (p := ⟨w.heap.size + 1, 0, none⟩) hpr1).trans ((B6.out.cell (p := ⟨w.heap.size + 1, 0, none⟩) (by dsimp only; omega)).trans s0)
              have u1 := (hK2.out.cell (p := ⟨w.heap.size + 1, 1, none⟩) hpr1).trans ((B6.out.cell (p := ⟨w.heap.size + 1, 1, none⟩) (by dsimp only; omega)).trans s1)
              have u2 := (hK2.out.cell (p := ⟨w.heap.size + 1, 2, none⟩) hpr1).trans ((B6.out.cell (p := ⟨w.heap.size + 1, 2, none⟩) (by dsimp only; omega)).trans s2)
              have uz : ∀ o, wr.frozen? ⟨w.heap.size + 1, o, none⟩ = false := fun o => (hK2.out.frozen (p := ⟨w.heap.size + 1, o, none⟩) hpr1).trans ((B6.out.frozen (p := ⟨w.heap.size + 1, o, none⟩) (by dsimp only; omega)).trans (sz o))
              have uz0 := uz 0
              have uz1 := uz 1
              have uz2 := uz 2
              have ult : w.heap.size + 1 < wr.heap.size := Nat.lt_of_lt_of_le hz1w hK2.out.size
              have BWr := KW.out _ hK2.out
              clear s0 s1 s2 sz hs
              go_wp2_with fail
              refine bodyPost_ret (v := .tuple #[.agg #[.int .u64 id, .int .i64 pr, .slice a9 j q9], .bool true]) ?_ rfl (HP.out _ _ _ rfl ?_ ?_)
              · have y1 : (wr.setCell ⟨w.heap.size + 1, 0, none⟩ (.int .u64 id)).cell? ⟨w.heap.size + 1, 1, none⟩ = some (.int .i64 0) := by rw [cell_set_off _ _ _ _ _ (by decide)]; exact u1
                have y2 : ((wr.setCell ⟨w.heap.size + 1, 0, none⟩ (.int .u64 id)).setCell ⟨w.heap.size + 1, 1, none⟩ (.int .i64 pr)).cell? ⟨w.heap.size + 1, 2, none⟩ = some (.slice none 0 0) := by rw [cell_set_off _ _ _ _ _ (by decide), cell_set_off _ _ _ _ _ (by decide)]; exact u2
                have x0 : (((wr.setCell ⟨w.heap.size + 1, 0, none⟩ (.int .u64 id)).setCell ⟨w.heap.size + 1, 1, none⟩ (.int .i64 pr)).setCell ⟨w.heap.size + 1, 2, none⟩ (.slice a9 j q9)).cell? ⟨w.heap.size + 1, 0, none⟩ = some (.int .u64 id) := by
                  rw [cell_set_off _ _ _ _ _ (by decide), cell_set_off _ _ _ _ _ (by decide)]; exact set_at u0
                have x1 : (((wr.setCell ⟨w.heap.size + 1, 0, none⟩ (.int .u64 id)).setCell ⟨w.heap.size + 1, 1, none⟩ (.int .i64 pr)).setCell ⟨w.heap.size + 1, 2, none⟩ (.slice a9 j q9)).cell? ⟨w.heap.size + 1, 1, none⟩ = some (.int .i64 pr) := by
                  rw [cell_set_off _ _ _ _ _ (by decide)]; exact set_at y1
                have x2 : (((wr.setCell ⟨w.heap.size + 1, 0, none⟩ (.int .u64 id)).setCell ⟨w.heap.size + 1, 1, none⟩ (.int .i64 pr)).setCell ⟨w.heap.size + 1, 2, none⟩ (.slice a9 j q9)).cell? ⟨w.heap.size + 1, 2, none⟩ = some (.slice a9 j q9) := set_at y2
                simp [results, Tryz.results23, go_sem, x0, x1, x2]
              · rw [← HM.out]
                exact (((HS.out.set (by dsimp only; omega) _).set (by dsimp only; omega) _).set (by dsimp only; omega) _).base (by omega)
              · exact bel_set (bel_set (bel_set BWr (by dsimp only; omega) _) (by dsimp only; omega) _) (by dsimp only; omega) _
        · refine ⟨_, rfl, fun R hR => ?_⟩
          go_wp2_with fail
          rw [← HPQ.out, ← HW.out]
          refine hR _ _ ⟨⟨W, BW⟩, rfl⟩ ?_
          clear hR R
          refine wpAnyC_step (f := 1) [9] (by kernel_rfl) rfl rfl (fun i hi => ?_)
          simp only [List.mem_cons, List.not_mem_nil, or_false] at hi
          subst hi
          refine ⟨_, rfl, fun R hR => ?_⟩
          go_wp2_with fail
          refine hR _ _ ⟨⟨W, BW⟩, rfl⟩ ?_
          clear hR R
          refine wpAnyC_end (k := 11) (by decide) rfl rfl (by kernel_rfl) ?_
          have bfz0 := bfz 0
          have bfz1 := bfz 1
          have bfz2 := bfz 2
          have t1 : (W.setCell ⟨pq, 0, none⟩ (.int .u64 id)).cell? ⟨pq, 1, none⟩ = some (.int .i64 0) := by rw [cell_set_off _ _ _ _ _ (by decide)]; exact b1
          have t2 : ((W.setCell ⟨pq, 0, none⟩ (.int .u64 id)).setCell ⟨pq, 1, none⟩ (.int .i64 pr)).cell? ⟨pq, 2, none⟩ = some (.slice none 0 0) := by rw [cell_set_off _ _ _ _ _ (by decide), cell_set_off _ _ _ _ _ (by decide)]; exact b2
          obtain ⟨W5, hW5⟩ : ∃ z, z = ((W.setCell ⟨pq, 0, none⟩ (.int .u64 id)).setCell ⟨pq, 1, none⟩ (.int .i64 pr)).setCell ⟨pq, 2, none⟩ (.slice none 0 0) := ⟨_, rfl⟩
          have P5 : Hid (W5.cell? ⟨pq, 0, none⟩ = some (.int .u64 id) ∧ W5.cell? ⟨pq, 1, none⟩ = some (.int .i64 pr) ∧ W5.cell? ⟨pq, 2, none⟩ = some (.slice none 0 0) ∧ (∀ o, W5.frozen? ⟨pq, o, none⟩ = false) ∧ pq < W5.heap.size) := by
            show _ ∧ _
            rw [hW5]
            refine ⟨?_, ?_, set_at t2, fun o => by rw [World.frozen?_setCell, World.frozen?_setCell, World.frozen?_setCell]; exact bfz o, by rw [size_set, size_set, size_set]; exact bz⟩
            · rw [cell_set_off _ _ _ _ _ (by decide), cell_set_off _ _ _ _ _ (by decide)]; exact set_at b0
            · rw [cell_set_off _ _ _ _ _ (by decide)]; exact set_at t1
          have B5 : Hid (RowKit.Below wr.heap.size wr W5) := by rw [hW5]; exact bel_set (bel_set (bel_set BW bq _) bq _) bq _
          have HW5 := Lib.hid hW5
          clear hW5 BW
          obtain ⟨d0, d1, d2, dz, dlt⟩ := P5.out
          have DC0 := Lib.hid ((B5.out.cell (p := ⟨w.heap.size, 0, none⟩) hzr0).trans c0)
          have DC1 := Lib.hid ((B5.out.cell (p := ⟨w.heap.size, 1, none⟩) hzr0).trans c1)
          have hc05 := DC0.out
          have hc15 := DC1.out
          have hz05 : w.heap.size < W5.heap.size := Nat.lt_of_lt_of_le hzr0 B5.out.size
          go_upto_region 5 with (fail)
          rw [← HW5.out]
          have KC0 := Lib.hid c0
          have KC1 := Lib.hid c1
          clear t1 t2 b0 b1 b2 bfz bfz0 bfz1 bfz2 c0 c1 cid HW5
          go_wp2_with fail
          refine (circ_lenC _ _ _ _ _).mono ?_
          rintro e w6 ⟨rfl, hB6⟩
          obtain ⟨m, hm⟩ : ∃ m, m = cNum c := ⟨_, rfl⟩
          have hmin : min (3 : Int) ((c.length : Int) - 1) = (m : Int) := by rw [hm]; unfold cNum; omega
          have hm3 : m ≤ 3 := by rw [hm]; unfold cNum; omega
          have hpos : 1 ≤ c.length := by omega
          have HM := Lib.hid hm
          have B6 := Lib.hid (bel_below B5.out hB6)
          have P6 : Hid (w6.cell? ⟨pq, 0, none⟩ = some (.int .u64 id) ∧ w6.cell? ⟨pq, 1, none⟩ = some (.int .i64 pr) ∧ w6.cell? ⟨pq, 2, none⟩ = some (.slice none 0 0) ∧ (∀ o, w6.frozen? ⟨pq, o, none⟩ = false) ∧ pq < w6.heap.size) :=
            ⟨(hB6.cell (p := ⟨pq, 0, none⟩) dlt).trans d0, (hB6.cell (p := ⟨pq, 1, none⟩) dlt).trans d1, (hB6.cell (p := ⟨pq, 2, none⟩) dlt).trans d2, fun o => (hB6.frozen (p := ⟨pq, o, none⟩) dlt).trans (dz o), Nat.lt_of_lt_of_le dlt hB6.size⟩
          have KW := Lib.hid (fun wq (hb : RowKit.Below pq w6 wq) => (Bw.trans ((B6.out.mono (Nat.le_of_lt hzr0)).trans (hb.mono (by omega))) : RowKit.Below w.heap.size w wq))
          have KB := Lib.hid (fun wq (hb : RowKit.Below pq w6 wq) => (⟨(hb.cell (p := ⟨w.heap.size, 0, none⟩) (by dsimp only; omega)).trans ((B6.out.cell (p := ⟨w.heap.size, 0, none⟩) hzr0).trans KC0.out), (hb.cell (p := ⟨w.heap.size, 1, none⟩) (by dsimp only; omega)).trans ((B6.out.cell (p := ⟨w.heap.size, 1, none⟩) hzr0).trans KC1.out)⟩ :
            wq.cell? ⟨w.heap.size, 0, none⟩ = some (.slice aa c.length ac) ∧ wq.cell? ⟨w.heap.size, 1, none⟩ = some (.slice (some ⟨b, off, none⟩) c.length ic)))
          clear hm hB6 hc05 hc15 hz05 d0 d1 d2 dz dlt DC0 DC1 P5
          go_wp2_with fail
          go_loopw [8, 30] (fun _ i wq => ∃ (j : Nat) (sv : Value), j ≤ m ∧ i = .int .i64 j ∧ Hid (wq.cell? ⟨pq, 0, none⟩ = some (.int .u64 id) ∧ wq.cell? ⟨pq, 1, none⟩ = some (.int .i64 pr) ∧ wq.cell? ⟨pq, 2, none⟩ = some sv ∧ (∀ o, wq.frozen? ⟨pq, o, none⟩ = false) ∧ pq < wq.heap.size) ∧
              Hid (wq.ownsRow (pq + 1) 3 1 sv j ((cSuc c i0 j).map (Value.int .i64))) ∧ Hid (RowKit.Below pq w6 wq)) (fun _ i _ => m - (intOf i).toNat)
          case atStart => exact ⟨0, _, by omega, rfl, P6.out, World.ownsRow_nil _ _ _ _, RowKit.Below.refl _ _⟩
          case round =>
            obtain ⟨j, sv, hj, rfl, hP, hO, hK2⟩ := hrel
            by_cases hj3 : j < m
            · obtain ⟨c0, c1, c2, fz, hpw⟩ := hP.out
              obtain ⟨bc0, bc1⟩ := KB.out _ hK2.out
              have bcz : w.heap.size < wr.heap.size := Nat.lt_of_lt_of_le (by have := B6.out.size; omega) hK2.out.size
              have ca2 := Lib.hid (fun wq' (hK' : RowKit.Below pq w6 wq') => CA.out hc0 wq' (KW.out wq' hK') ((i0 : Int) + 1 + (j : Int)) (by omega) (by omega))
              go_wp2_with fail
              refine wp_region_tame 7 9 (fun w' => ∃ x : Later wr, w' = x.world) (by kernel_rfl) (by kernel_rfl) ⟨⟨{ wr with drawn := wr.drawn + 1 }, (RowKit.Below.refl _ _).drew⟩, rfl⟩ ?_ ?_
              · intro d v c a w h
                cases d <;> exact h
              · simp only [List.take_succ_cons, List.take_zero, List.drop_succ_cons, List.drop_zero]
                repeat (refine wpTame_step (fun K hK => ?_); go_simp; refine hK _ ?_; clear hK K)
                refine wpTame_nil ?_
                refine wpSeqC_step (by decide) (fun R hR => ?_)
                go_wp2_with fail
                refine (ca2.out _ hK2.out.drew).mono ?_
                rintro e w8 ⟨rfl, hB8⟩
                have B8 : RowKit.Below wr.heap.size wr w8 := (bel_drew (RowKit.Below.refl _ _)).trans (hB8.mono (by simp))
                go_wp2_with fail
                refine hR _ _ ⟨⟨w8, B8⟩, rfl⟩ ?_
                clear hR R
                refine wpSeqC_step (by decide) (fun R hR => ?_)
                go_wp2_with fail
                refine hR _ _ ⟨⟨_, bel_alloc B8 _⟩, rfl⟩ ?_
                clear hR R
                refine wpSeqC_list (by decide) ?_
                have O8 := Lib.hid (owns_below hO.out B8)
                have hp8 : pq < w8.heap.size := Nat.lt_of_lt_of_le hpw B8.size
                go_wp2_with (at_builtin; refine wpList_app rfl _ _ 36 rfl (pq + 1) 3 i00 (.int .i64 0) 8 Tryz.underlying36 hi00 hz00 hz01 hz02 rfl _ j _ rfl (O8.out.alloc _) 0 _ 1 _ rfl (sl_new _ .i64 [cAt c ((i0 : Int) + 1 + (j : Int))] 3 _ 1 rfl rfl (by simp [maxLen])) (fun _ => rfl) ?qc1 ?qc2 ?qc3 ?_)
                case qc1 => simp only [maxLen]; omega
                case qc2 => omega
                case qc3 => simp; omega
                intro v7 w7 ho7 hg7
                have hown : ∀ q, sv.ownBlock = some q → pq + 1 ≤ q := fun q hq => (O8.out.lt q hq).1
                have B8a := bel_alloc B8 (.cells [Value.int IntKind.i64 (cAt c ((i0 : Int) + 1 + (j : Int)))].toArray 3)
                have hfar : ∀ b, b ≤ pq → w7.heap[b]? = wr.heap[b]? := fun b hb' => by
                  rw [hg7.block b (by simp; omega) (fun e => by have := hown b e.symm; omega)]
                  exact B8a.block b (by omega)
                have hp7 : pq < w7.heap.size := by have := hg7.size; simp at this; omega
                have d0 := (World.cell?_of_block (a := ⟨pq, 0, none⟩) (hfar pq (Nat.le_refl _))).trans c0
                have d1 := (World.cell?_of_block (a := ⟨pq, 1, none⟩) (hfar pq (Nat.le_refl _))).trans c1
                have d2 := (World.cell?_of_block (a := ⟨pq, 2, none⟩) (hfar pq (Nat.le_refl _))).trans c2
                have dz : ∀ o, w7.frozen? ⟨pq, o, none⟩ = false := fun o => (World.frozen?_of_block (a := ⟨pq, o, none⟩) (hfar pq (Nat.le_refl _))).trans (fz o)
                have dz2 := dz 2
                have DZ := Lib.hid dz
                have hs7 := own_slAt ho7
                obtain ⟨a7, q7, rfl, _⟩ := hs7.slice
                have O7 := Lib.hid ho7
                have K7 : Hid (RowKit.Below pq w6 w7) := (hK2.out.trans (B8a.mono (Nat.le_of_lt hpw))).grown hg7 (by have := B8a.size; omega) (fun q hq => by have := hown q hq; omega)
                clear ho7 hg7 hs7 c0 c1 c2 hfar dz B8a fz
                go_wp2_with fail
                go_roundw
                case rel =>
                  refine ⟨j + 1, _, by omega, by go_num, ⟨?_, ?_, set_at d2, fun o => by rw [World.frozen?_setCell]; exact DZ.out o, by rw [size_set]; exact hp7⟩, ?_, ?_⟩
                  · rw [cell_set_off _ _ _ _ _ (by decide)]; exact d0
                  · rw [cell_set_off _ _ _ _ _ (by decide)]; exact d1
                  · refine owns_blocks (w := w7) ?_ (fun g hg _ => Below.heap_setCell _ _ _ _ (by dsimp only; omega))
                    have := O7.out
                    simpa [cSuc, List.range_succ, nth] using this
                  · exact K7.out.setCell (Nat.le_refl _) _
                case measure => go_light; simp [intOf]; omega
            · obtain rfl : j = m := by omega
              obtain ⟨c0, c1, c2, fz, hpw⟩ := hP.out
              have hs := own_ints hO.out
              rw [cSuc_len] at hs
              obtain ⟨a9, q9, rfl, _⟩ := hs.slice
              have HS := Lib.hid hs
              obtain ⟨s0, s1, s2, sz⟩ := RR.out
              have hpr1 : w.heap.size + 1 < pq := by omega
              have hz1w : w.heap.size + 1 < w6.heap.size := by have := P6.out.2.2.2.2; omega
              have u0 := (hK2.out.cell (p := ⟨w.heap.size + 1, 0, none⟩) hpr1).trans ((B6.out.cell (p := ⟨w.heap.size + 1, 0, none⟩) (by dsimp only; omega)).trans s0)
              have u1 := (hK2.out.cell (p := ⟨w.heap.size + 1, 1, none⟩) hpr1).trans ((B6.out.cell (p := ⟨w.heap.size + 1, 1, none⟩) (by dsimp only; omega)).trans s1)
              have u2 := (hK2.out.cell (p := ⟨w.heap.size + 1, 2, none⟩) hpr1).trans ((B6.out.cell (p := ⟨w.heap.size + 1, 2, none⟩) (by dsimp only; omega)).trans s2)
              have uz : ∀ o, wr.frozen? ⟨w.heap.size + 1, o, none⟩ = false := fun o => (hK2.out.frozen (p := ⟨w.heap.size + 1, o, none⟩) hpr1).trans ((B6.out.frozen (p := ⟨w.heap.size + 1, o, none⟩) (by dsimp only; omega)).trans (sz o))
              have uz0 := uz 0
              have uz1 := uz 1
              have uz2 := uz 2
              have ult : w.heap.size + 1 < wr.heap.size := Nat.lt_of_lt_of_le hz1w hK2.out.size
              have BWr := KW.out _ hK2.out
              clear s0 s1 s2 sz hs
              go_wp2_with fail
              refine bodyPost_ret (v := .tuple #[.agg #[.int .u64 id, .int .i64 pr, .slice a9 j q9], .bool true]) ?_ rfl (HP.out _ _ _ rfl ?_ ?_)
              · have y1 : (wr.setCell ⟨w.heap.size + 1, 0, none⟩ (.int .u64 id)).cell? ⟨w.heap.size + 1, 1, none⟩ = some (.int .i64 0) := by rw [cell_set_off _ _ _ _ _ (by decide)]; exact u1
                have y2 : ((wr.setCell ⟨w.heap.size + 1, 0, none⟩ (.int .u64 id)).setCell ⟨w.heap.size + 1, 1, none⟩ (.int .i64 pr)).cell? ⟨w.heap.size + 1, 2, none⟩ = some (.slice none 0 0) := by rw [cell_set_off _ _ _ _ _ (by decide), cell_set_off _ _ _ _ _ (by decide)]; exact u2
                have x0 : (((wr.setCell ⟨w.heap.size + 1, 0, none⟩ (.int .u64 id)).setCell ⟨w.heap.size + 1, 1, none⟩ (.int .i64 pr)).setCell ⟨w.heap.size + 1, 2, none⟩ (.slice a9 j q9)).cell? ⟨w.heap.size + 1, 0, none⟩ = some (.int .u64 id) := by
                  rw [cell_set_off _ _ _ _ _ (by decide), cell_set_off _ _ _ _ _ (by decide)]; exact set_at u0
                have x1 : (((wr.setCell ⟨w.heap.size + 1, 0, none⟩ (.int .u64 id)).setCell ⟨w.heap.size + 1, 1, none⟩ (.int .i64 pr)).setCell ⟨w.heap.size + 1, 2, none⟩ (.slice a9 j q9)).cell? ⟨w.heap.size + 1, 1, none⟩ = some (.int .i64 pr) := by
                  rw [cell_set_off _ _ _ _ _ (by decide)]; exact set_at y1
                have x2 : (((wr.setCell ⟨w.heap.size + 1, 0, none⟩ (.int .u64 id)).setCell ⟨w.heap.size + 1, 1, none⟩ (.int .i64 pr)).setCell ⟨w.heap.size + 1, 2, none⟩ (.slice a9 j q9)).cell? ⟨w.heap.size + 1, 2, none⟩ = some (.slice a9 j q9) := set_at y2
                simp [results, Tryz.results23, go_sem, x0, x1, x2]
              · rw [← HM.out]
                exact (((HS.out.set (by dsimp only; omega) _).set (by dsimp only; omega) _).set (by dsimp only; omega) _).base (by omega)
              · exact bel_set (bel_set (bel_set BWr (by dsimp only; omega) _) (by dsimp only; omega) _) (by dsimp only; omega) _
      · refine ⟨_, rfl, fun R hR => ?_⟩
        go_wp2_with fail
        obtain ⟨W0, hW0⟩ : ∃ z, z = (wr.alloc (.cells #[.int .u64 0, .int .i64 0, .slice none 0 0] 67)).drew := ⟨_, rfl⟩
        have BW0 : RowKit.Below wr.heap.size wr W0 := by rw [hW0]; exact bel_drew (bel_alloc (RowKit.Below.refl _ _) _)
        obtain ⟨pq, hpq⟩ : ∃ z, z = wr.heap.size := ⟨_, rfl⟩
        have a0 : W0.cell? ⟨pq, 0, none⟩ = some (.int .u64 0) := by rw [hW0, hpq]; simp [go_sem]
        have a1 : W0.cell? ⟨pq, 1, none⟩ = some (.int .i64 0) := by rw [hW0, hpq]; simp [go_sem]
        have a2 : W0.cell? ⟨pq, 2, none⟩ = some (.slice none 0 0) := by rw [hW0, hpq]; simp [go_sem]
        have afz : ∀ o, W0.frozen? ⟨pq, o, none⟩ = false := fun o => by rw [hW0, hpq]; simp [go_sem]
        have az : pq < W0.heap.size := by rw [hW0, hpq]; simp
        have bq : wr.heap.size ≤ pq := by omega
        rw [← hW0, ← hpq]
        refine hR _ _ ⟨⟨W0, BW0⟩, rfl⟩ ?_
        clear hR R hW0 hpq
        refine wpAnyC_step (f := 2) [8] (by kernel_rfl) rfl rfl (fun i hi => ?_)
        simp only [List.mem_cons, List.not_mem_nil, or_false] at hi
        subst hi
        refine ⟨_, rfl, fun R hR => ?_⟩
        go_wp2_with fail
        refine (CP.out _ (bel_below Bw BW0)).mono ?_
        rintro e W ⟨rfl, hB6⟩
        have BW : RowKit.Below wr.heap.size wr W := bel_below BW0 hB6
        have b0 := (hB6.cell (p := ⟨pq, 0, none⟩) az).trans a0
        have b1 := (hB6.cell (p := ⟨pq, 1, none⟩) az).trans a1
        have b2 := (hB6.cell (p := ⟨pq, 2, none⟩) az).trans a2
        have bfz : ∀ o, W.frozen? ⟨pq, o, none⟩ = false := fun o => (hB6.frozen (p := ⟨pq, o, none⟩) az).trans (afz o)
        have bz := Nat.lt_of_lt_of_le az hB6.size
        clear a0 a1 a2 afz az hB6 BW0
        go_wp2_with fail
        refine hR _ _ ⟨⟨W, BW⟩, rfl⟩ ?_
        clear hR R
        refine wpAnyC_step (f := 1) [9] (by kernel_rfl) rfl rfl (fun i hi => ?_)
        simp only [List.mem_cons, List.not_mem_nil, or_false] at hi
        subst hi
        refine ⟨_, rfl, fun R hR => ?_⟩
        go_wp2_with fail
        refine hR _ _ ⟨⟨W, BW⟩, rfl⟩ ?_
        clear hR R
        refine wpAnyC_end (k := 11) (by decide) rfl rfl (by kernel_rfl) ?_
        have bfz0 := bfz 0
        have bfz1 := bfz 1
        have bfz2 := bfz 2
        have t1 : (W.setCell ⟨pq, 0, none⟩ (.int .u64 id)).cell? ⟨pq, 1, none⟩ = some (.int .i64 0) := by rw [cell_set_off _ _ _ _ _ (by decide)]; exact b1
        have t2 : ((W.setCell ⟨pq, 0, none⟩ (.int .u64 id)).setCell ⟨pq, 1, none⟩ (.int .i64 pr)).cell? ⟨pq, 2, none⟩ = some (.slice none 0 0) := by rw [cell_set_off _ _ _ _ _ (by decide), cell_set_off _ _ _ _ _ (by decide)]; exact b2
        obtain ⟨W5, hW5⟩ : ∃ z, z = ((W.setCell ⟨pq, 0, none⟩ (.int .u64 id)).setCell ⟨pq, 1, none⟩ (.int .i64 pr)).setCell ⟨pq, 2, none⟩ (.slice none 0 0) := ⟨_, rfl⟩
        have P5 : Hid (W5.cell? ⟨pq, 0, none⟩ = some (.int .u64 id) ∧ W5.cell? ⟨pq, 1, none⟩ = some (.int .i64 pr) ∧ W5.cell? ⟨pq, 2, none⟩ = some (.slice none 0 0) ∧ (∀ o, W5.frozen? ⟨pq, o, none⟩ = false) ∧ pq < W5.heap.size) := by
          show _ ∧ _
          rw [hW5]
          refine ⟨?_, ?_, set_at t2, fun o => by rw [World.frozen?_setCell, World.frozen?_setCell, World.frozen?_setCell]; exact bfz o, by rw [size_set, size_set, size_set]; exact bz⟩
          · rw [cell_set_off _ _ _ _ _ (by decide), cell_set_off _ _ _ _ _ (by decide)]; exact set_at b0
          · rw [cell_set_off _ _ _ _ _ (by decide)]; exact set_at t1
        have B5 : Hid (RowKit.Below wr.heap.size wr W5) := by rw [hW5]; exact bel_set (bel_set (bel_set BW bq _) bq _) bq _
        have HW5 := Lib.hid hW5
        clear hW5 BW
        obtain ⟨d0, d1, d2, dz, dlt⟩ := P5.out
        have DC0 := Lib.hid ((B5.out.cell (p := ⟨w.heap.size, 0, none⟩) hzr0).trans c0)
        have DC1 := Lib.hid ((B5.out.cell (p := ⟨w.heap.size, 1, none⟩) hzr0).trans c1)
        have hc05 := DC0.out
        have hc15 := DC1.out
        have hz05 : w.heap.size < W5.heap.size := Nat.lt_of_lt_of_le hzr0 B5.out.size
        go_upto_region 5 with (fail)
        rw [← HW5.out]
        have KC0 := Lib.hid c0
        have KC1 := Lib.hid c1
        clear t1 t2 b0 b1 b2 bfz bfz0 bfz1 bfz2 c0 c1 cid HW5
        go_wp2_with fail
        refine (circ_lenC _ _ _ _ _).mono ?_
        rintro e w6 ⟨rfl, hB6⟩
        obtain ⟨m, hm⟩ : ∃ m, m = cNum c := ⟨_, rfl⟩
        have hmin : min (3 : Int) ((c.length : Int) - 1) = (m : Int) := by rw [hm]; unfold cNum; omega
        have hm3 : m ≤ 3 := by rw [hm]; unfold cNum; omega
        have hpos : 1 ≤ c.length := by omega
        have HM := Lib.hid hm
        have B6 := Lib.hid (bel_below B5.out hB6)
        have P6 : Hid (w6.cell? ⟨pq, 0, none⟩ = some (.int .u64 id) ∧ w6.cell? ⟨pq, 1, none⟩ = some (.int .i64 pr) ∧ w6.cell? ⟨pq, 2, none⟩ = some (.slice none 0 0) ∧ (∀ o, w6.frozen? ⟨pq, o, none⟩ = false) ∧ pq < w6.heap.size) :=
          ⟨(hB6.cell (p := ⟨pq, 0, none⟩) dlt).trans d0, (hB6.cell (p := ⟨pq, 1, none⟩) dlt).trans d1, (hB6.cell (p := ⟨pq, 2, none⟩) dlt).trans d2, fun o => (hB6.frozen (p := ⟨pq, o, none⟩) dlt).trans (dz o), Nat.lt_of_lt_of_le dlt hB6.size⟩
        have KW := Lib.hid (fun wq (hb : RowKit.Below pq w6 wq) => (Bw.trans ((B6.out.mono (Nat.le_of_lt hzr0)).trans (hb.mono (by omega))) : RowKit.Below w.heap.size w wq))
        have KB := Lib.hid (fun wq (hb : RowKit.Below pq w6 wq) => (⟨(hb.cell (p := ⟨w.heap.size, 0, none⟩) (by dsimp only; omega)).trans ((B6.out.cell (p := ⟨w.heap.size, 0, none⟩) hzr0).trans KC0.out), (hb.cell (p := ⟨w.heap.size, 1, none⟩) (by dsimp only; omega)).trans ((B6.out.cell (p := ⟨w.heap.size, 1, none⟩) hzr0).trans KC1.out)⟩ :
          wq.cell? ⟨w.heap.size, 0, none⟩ = some (.slice aa c.length ac) ∧ wq.cell? ⟨w.heap.size, 1, none⟩ = some (.slice (some ⟨b, off, none⟩) c.length ic)))
        clear hm hB6 hc05 hc15 hz05 d0 d1 d2 dz dlt DC0 DC1 P5
        go_wp2_with fail
        go_loopw [8, 30] (fun _ i wq => ∃ (j : Nat) (sv : Value), j ≤ m ∧ i = .int .i64 j ∧ Hid (wq.cell? ⟨pq, 0, none⟩ = some (.int .u64 id) ∧ wq.cell? ⟨pq, 1, none⟩ = some (.int .i64 pr) ∧ wq.cell? ⟨pq, 2, none⟩ = some sv ∧ (∀ o, wq.frozen? ⟨pq, o, none⟩ = false) ∧ pq < wq.heap.size) ∧
            Hid (wq.ownsRow (pq + 1) 3 1 sv j ((cSuc c i0 j).map (Value.int .i64))) ∧ Hid (RowKit.Below pq w6 wq)) (fun _ i _ => m - (intOf i).toNat)
        case atStart => exact ⟨0, _, by omega, rfl, P6.out, World.ownsRow_nil _ _ _ _, RowKit.Below.refl _ _⟩
        case round =>
          obtain ⟨j, sv, hj, rfl, hP, hO, hK2⟩ := hrel
          by_cases hj3 : j < m
          · obtain ⟨c0, c1, c2, fz, hpw⟩ := hP.out
            obtain ⟨bc0, bc1⟩ := KB.out _ hK2.out
            have bcz : w.heap.size < wr.heap.size := Nat.lt_of_lt_of_le (by have := B6.out.size; omega) hK2.out.size
            have ca2 := Lib.hid (fun wq' (hK' : RowKit.Below pq w6 wq') => CA.out hc0 wq' (KW.out wq' hK') ((i0 : Int) + 1 + (j : Int)) (by omega) (by omega))
            go_wp2_with fail
            refine wp_region_tame 7 9 (fun w' => ∃ x : Later wr, w' = x.world) (by kernel_rfl) (by kernel_rfl) ⟨⟨{ wr with drawn := wr.drawn + 1 }, (RowKit.Below.refl _ _).drew⟩, rfl⟩ ?_ ?_
            · intro d v c a w h
              cases d <;> exact h
            · simp only [List.take_succ_cons, List.take_zero, List.drop_succ_cons, List.drop_zero]
              repeat (refine wpTame_step (fun K hK => ?_); go_simp; refine hK _ ?_; clear hK K)
              refine wpTame_nil ?_
              refine wpSeqC_step (by decide) (fun R hR => ?_)
              go_wp2_with fail
              refine (ca2.out _ hK2.out.drew).mono ?_
              rintro e w8 ⟨rfl, hB8⟩
              have B8 : RowKit.Below wr.heap.size wr w8 := (bel_drew (RowKit.Below.refl _ _)).trans (hB8.mono (by simp))
              go_wp2_with fail
              refine hR _ _ ⟨⟨w8, B8⟩, rfl⟩ ?_
              clear hR R
              refine wpSeqC_step (by decide) (fun R hR => ?_)
              go_wp2_with fail
              refine hR _ _ ⟨⟨_, bel_alloc B8 _⟩, rfl⟩ ?_
              clear hR R
              refine wpSeqC_list (by decide) ?_
              have O8 := Lib.hid (owns_below hO.out B8)
              have hp8 : pq < w8.heap.size := Nat.lt_of_lt_of_le hpw B8.size
              go_wp2_with (at_builtin; refine wpList_app rfl _ _ 36 rfl (pq + 1) 3 i00 (.int .i64 0) 8 Tryz.underlying36 hi00 hz00 hz01 hz02 rfl _ j _ rfl (O8.out.alloc _) 0 _ 1 _ rfl (sl_new _ .i64 [cAt c ((i0 : Int) + 1 + (j : Int))] 3 _ 1 rfl rfl (by simp [maxLen])) (fun _ => rfl) ?qc1 ?qc2 ?qc3 ?_)
              case qc1 => simp only [maxLen]; omega
              case qc2 => omega
              case qc3 => simp; omega
              intro v7 w7 ho7 hg7
              have hown : ∀ q, sv.ownBlock = some q → pq + 1 ≤ q := fun q hq => (O8.out.lt q hq).1
              have B8a := bel_alloc B8 (.cells [Value.int IntKind.i64 (cAt c ((i0 : Int) + 1 + (j : Int)))].toArray 3)
              have hfar : ∀ b, b ≤ pq → w7.heap[b]? = wr.heap[b]? := fun b hb' => by
                rw [hg7.block b (by simp; omega) (fun e => by have := hown b e.symm; omega)]
                exact B8a.block b (by omega)
              have hp7 : pq < w7.heap.size := by have := hg7.size; simp at this; omega
              have d0 := (World.cell?_of_block (a := ⟨pq, 0, none⟩) (hfar pq (Nat.le_refl _))).trans c0
              have d1 := (World.cell?_of_block (a := ⟨pq, 1, none⟩) (hfar pq (Nat.le_refl _))).trans c1
              have d2 := (World.cell?_of_block (a := ⟨pq, 2, none⟩) (hfar pq (Nat.le_refl _))).trans c2
              have dz : ∀ o, w7.frozen? ⟨pq, o, none⟩ = false := fun o => (World.frozen?_of_block (a := ⟨pq, o, none⟩) (hfar pq (Nat.le_refl _))).trans (fz o)
              have dz2 := dz 2
              have DZ := Lib.hid dz
              have hs7 := own_slAt ho7
              obtain ⟨a7, q7, rfl, _⟩ := hs7.slice
              have O7 := Lib.hid ho7
              have K7 : Hid (RowKit.Below pq w6 w7) := (hK2.out.trans (B8a.mono (Nat.le_of_lt hpw))).grown hg7 (by have := B8a.size; omega) (fun q hq => by have := hown q hq; omega)
              clear ho7 hg7 hs7 c0 c1 c2 hfar dz B8a fz
              go_wp2_with fail
              go_roundw
              case rel =>
                refine ⟨j + 1, _, by omega, by go_num, ⟨?_, ?_, set_at d2, fun o => by rw [World.frozen?_setCell]; exact DZ.out o, by rw [size_set]; exact hp7⟩, ?_, ?_⟩
                · rw [cell_set_off _ _ _ _ _ (by decide)]; exact d0
                · rw [cell_set_off _ _ _ _ _ (by decide)]; exact d1
                · refine owns_blocks (w := w7) ?_ (fun g hg _ => Below.heap_setCell _ _ _ _ (by dsimp only; omega))
                  have := O7.out
                  simpa [cSuc, List.range_succ, nth] using this
                · exact K7.out.setCell (Nat.le_refl _) _
              case measure => go_light; simp [intOf]; omega
          · obtain rfl : j = m := by omega
            obtain ⟨c0, c1, c2, fz, hpw⟩ := hP.out
            have hs := own_ints hO.out
            rw [cSuc_len] at hs
            obtain ⟨a9, q9, rfl, _⟩ := hs.slice
            have HS := Lib.hid hs
            obtain ⟨s0, s1, s2, sz⟩ := RR.out
            have hpr1 : w.heap.size + 1 < pq := by omega
            have hz1w : w.heap.size + 1 < w6.heap.size := by have := P6.out.2.2.2.2; omega
            have u0 := (hK2.out.cell (p := ⟨w.heap.size + 1, 0, none⟩) hpr1).trans ((B6.out.cell (p := ⟨w.heap.size + 1, 0, none⟩) (by dsimp only; omega)).trans s0)
            have u1 := (hK2.out.cell (p := ⟨w.heap.size + 1, 1, none⟩) hpr1).trans ((B6.out.cell (p := ⟨w.heap.size + 1, 1, none⟩) (by dsimp only; omega)).trans s1)
            have u2 := (hK2.out.cell (p := ⟨w.heap.size + 1, 2, none⟩) hpr1).trans ((B6.out.cell (p := ⟨w.heap.size + 1, 2, none⟩) (by dsimp only; omega)).trans s2)
            have uz : ∀ o, wr.frozen? ⟨w.heap.size + 1, o, none⟩ = false := fun o => (hK2.out.frozen (p := ⟨w.heap.size + 1, o, none⟩) hpr1).trans ((B6.out.frozen (p := ⟨w.heap.size + 1, o, none⟩) (by dsimp only; omega)).trans (sz o))
            have uz0 := uz 0
            have uz1 := uz 1
            have uz2 := uz 2
            have ult : w.heap.size + 1 < wr.heap.size := Nat.lt_of_lt_of_le hz1w hK2.out.size
            have BWr := KW.out _ hK2.out
            clear s0 s1 s2 sz hs
            go_wp2_with fail
            refine bodyPost_ret (v := .tuple #[.agg #[.int .u64 id, .int .i64 pr, .slice a9 j q9], .bool true]) ?_ rfl (HP.out _ _ _ rfl ?_ ?_)
            · have y1 : (wr.setCell ⟨w.heap.size + 1, 0, none⟩ (.int .u64 id)).cell? ⟨w.heap.size + 1, 1, none⟩ = some (.int .i64 0) := by rw [cell_set_off _ _ _ _ _ (by decide)]; exact u1
              have y2 : ((wr.setCell ⟨w.heap.size + 1, 0, none⟩ (.int .u64 id)).setCell ⟨w.heap.size + 1, 1, none⟩ (.int .i64 pr)).cell? ⟨w.heap.size + 1, 2, none⟩ = some (.slice none 0 0) := by rw [cell_set_off _ _ _ _ _ (by decide), cell_set_off _ _ _ _ _ (by decide)]; exact u2
              have x0 : (((wr.setCell ⟨w.heap.size + 1, 0, none⟩ (.int .u64 id)).setCell ⟨w.heap.size + 1, 1, none⟩ (.int .i64 pr)).setCell ⟨w.heap.size + 1, 2, none⟩ (.slice a9 j q9)).cell? ⟨w.heap.size + 1, 0, none⟩ = some (.int .u64 id) := by
                rw [cell_set_off _ _ _ _ _ (by decide), cell_set_off _ _ _ _ _ (by decide)]; exact set_at u0
              have x1 : (((wr.setCell ⟨w.heap.size + 1, 0, none⟩ (.int .u64 id)).setCell ⟨w.heap.size + 1, 1, none⟩ (.int .i64 pr)).setCell ⟨w.heap.size + 1, 2, none⟩ (.slice a9 j q9)).cell? ⟨w.heap.size + 1, 1, none⟩ = some (.int .i64 pr) := by
                rw [cell_set_off _ _ _ _ _ (by decide)]; exact set_at y1
              have x2 : (((wr.setCell ⟨w.heap.size + 1, 0, none⟩ (.int .u64 id)).setCell ⟨w.heap.size + 1, 1, none⟩ (.int .i64 pr)).setCell ⟨w.heap.size + 1, 2, none⟩ (.slice a9 j q9)).cell? ⟨w.heap.size + 1, 2, none⟩ = some (.slice a9 j q9) := set_at y2
              simp [results, Tryz.results23, go_sem, x0, x1, x2]
            · rw [← HM.out]
              exact (((HS.out.set (by dsimp only; omega) _).set (by dsimp only; omega) _).set (by dsimp only; omega) _).base (by omega)
            · exact bel_set (bel_set (bel_set BWr (by dsimp only; omega) _) (by dsimp only; omega) _) (by dsimp only; omega) _
end Go.Proofs.YtahiahjhpakeiaaGreatDoor
namespace Go.Proofs.YtahiahjhpakeiaaGreatDoor
open Go.RowKit Go.Maps Go.Sort
set_option linter.unusedVariables false
set_option linter.unusedSimpArgs false
attribute [local go_sem] later_cell later_frozen later_lt cell_set_off cell_set_block

variable {S : Nat → Prop} {w : World} {rb mb : Nat} {g : Int → Nat} {f : RS}
theorem idxI_mem {c : List Int} {n : Int} (h : n ∈ c) : ¬ idxI c n < 0 := by
  rcases idxI_cases c n with h2 | ⟨i, _, h2, _⟩
  · exfalso
    unfold idxI Lib.idxBy at h2
    have key : ∀ (l : List Int) (s : Nat), n ∈ l → 0 ≤ Lib.idxByFrom (fun x y : Int => x == y) n l s := by
      intro l
      induction l with
      | nil => intro s hn; simp at hn
      | cons a l ih =>
        intro s hn
        by_cases e : n = a
        · simp [Lib.idxByFrom, e]
        · rcases List.mem_cons.1 hn with h3 | h3
          · exact absurd h3 e
          · simpa [Lib.idxByFrom, e] using ih (s + 1) h3
    have := key c 0 h
    omega
  · omega
theorem KnowPost.yes {w w' : World} {c ids : List Int} {n : Int} {e : Ending} (h : KnowPost w c ids n e w') (hge : ¬ idxI c n < 0) :
    ∃ v, e = .returned (.tuple #[.agg #[.int .u64 (nth ids (idxI c n).toNat), .int .i64 (cAt c (idxI c n - 1)), v], .bool true]) ∧
    SlAt w.heap.size (fun i => .int .i64 (nth (cSuc c (idxI c n) (cNum c)) i)) (cNum c) w' v ∧ RowKit.Below w.heap.size w w' := by
  unfold KnowPost at h; rwa [if_neg hge] at h
/-! ### The first of which something is true -/
end Go.Proofs.YtahiahjhpakeiaaGreatDoor
end
section
namespace Go.Proofs.YtahiahjhpakeiaaGreatDoor
open Go.RowKit Go.Maps Go.Sort
set_option linter.unusedVariables false
set_option linter.unusedSimpArgs false
attribute [local go_sem] later_cell later_frozen later_lt

theorem owner_sl (l : List Int) (hs : Up l) (x : Int) (v : Value) (w : World) (hl : l.length ≤ 4000000000) (hv : SlAt 0 (fun i => .int .u64 (nth l i)) l.length w v) :
    Calls Tryz.prog 74 #[v, .int .u64 x] w fun e w' => e = .returned (.int .i64 (ownerI l x)) ∧ w = w' := by
  rcases hv.parts with ⟨h0, a, cap, rfl, _⟩ | ⟨h0, b, off, cap, rfl, _, _, _, _, hc⟩
  · have := owner_any l hs x a cap w hl (fun i hi => by omega)
    rwa [h0] at this
  · exact owner_any l hs x _ cap w hl (fun i hi => ⟨b, off, rfl, hc i hi⟩)
/-- Who owns a place; -1: nobody. -/
def cOwner (c ids : List Int) (x : Int) : Int := if ownerI ids x < 0 then -1 else nth c (ownerI ids x).toNat
theorem ownerI_cases (l : List Int) (x : Int) : ownerI l x = -1 ∨ ∃ i : Nat, i < l.length ∧ ownerI l x = i := by
  have := below_le l x
  unfold ownerI
  split
  · exact Or.inl rfl
  · split
    · exact Or.inr ⟨0, by omega, rfl⟩
    · exact Or.inr ⟨below l x, by omega, rfl⟩
theorem cowner_at (w : World) (c ids : List Int) (av iv : Value) (hc : SlAt 0 (fun i => .int .i64 (nth c i)) c.length w av) (hi : SlAt 0 (fun i => .int .u64 (nth ids i)) ids.length w iv) (hci : ids.length = c.length) (hl : c.length ≤ 1000) (hu : Up ids) (x : Int) :
    Calls Tryz.prog 21 #[.agg #[av, iv], .int .u64 x] w fun e w' => e = .returned (.int .i64 (cOwner c ids x)) ∧ RowKit.Below w.heap.size w w' := by
  have CX := Lib.hid (fun wr (hb : RowKit.Below w.heap.size w wr) => owner_sl ids hu x iv wr (by omega) (hi.below hb))
  rcases ownerI_cases ids x with hx | ⟨i, hx1, hx⟩
  · have hE : Hid (cOwner c ids x = -1) := by show _ = _; unfold cOwner; rw [hx, if_pos (by decide)]
    rw [hx] at CX
    obtain ⟨aa, ac, rfl, _⟩ := hc.slice
    obtain ⟨ia, ic, rfl, _⟩ := hi.slice
    clear hc hi hx hu hci
    go_enter Tryz.func21, Tryz.ntmps21
    go_wp2_with fail
    refine (CX.out _ (by (repeat (first | exact Below.refl _ _ | (with_reducible assumption) | (with_reducible refine bel_later ?_ _) | (with_reducible refine bel_alloc ?_ _) | (with_reducible refine bel_drew ?_) | (with_reducible refine bel_drewN ?_ _) | (with_reducible refine bel_set ?_ (by first | (simp; done) | (simp; omega) | (dsimp only; omega)) _))))).mono ?_
    rintro e w1 ⟨rfl, rfl⟩
    go_wp2_with fail
    go_ret
    exact ⟨by rw [hE.out]; first | done | rfl, by (repeat (first | exact Below.refl _ _ | (with_reducible assumption) | (with_reducible refine bel_later ?_ _) | (with_reducible refine bel_alloc ?_ _) | (with_reducible refine bel_drew ?_) | (with_reducible refine bel_drewN ?_ _) | (with_reducible refine bel_set ?_ (by first | (simp; done) | (simp; omega) | (dsimp only; omega)) _)))⟩
  · have hE : Hid (cOwner c ids x = nth c i) := by show _ = _; unfold cOwner; rw [hx, if_neg (by omega)]; rfl
    rw [hx] at CX
    rw [hci] at hx1
    obtain ⟨aa, ac, rfl, _⟩ := hc.slice
    obtain ⟨b, off, rfl, _, hb, hcell⟩ := hc.at i hx1 w (RowKit.Below.refl _ _)
    obtain ⟨ia, ic, rfl, _⟩ := hi.slice
    have hz : Hid (∀ wr, RowKit.Below w.heap.size w wr → wr.cell? ⟨b, off + i, none⟩ = some (.int .i64 (nth c i)) ∧ b < wr.heap.size) := fun wr hB => ⟨(hB.cell (p := ⟨b, off + i, none⟩) hb).trans hcell, Nat.lt_of_lt_of_le hb hB.size⟩
    obtain ⟨n, hn⟩ : ∃ n, n = c.length := ⟨_, rfl⟩
    rw [hci] at CX ⊢
    rw [← hn] at hx1 CX hl ⊢
    clear hc hi hx hu hci hn
    go_enter Tryz.func21, Tryz.ntmps21
    go_wp2_with fail
    refine (CX.out _ (by (repeat (first | exact Below.refl _ _ | (with_reducible assumption) | (with_reducible refine bel_later ?_ _) | (with_reducible refine bel_alloc ?_ _) | (with_reducible refine bel_drew ?_) | (with_reducible refine bel_drewN ?_ _) | (with_reducible refine bel_set ?_ (by first | (simp; done) | (simp; omega) | (dsimp only; omega)) _))))).mono ?_
    rintro e w1 ⟨rfl, rfl⟩
    go_wp2_with fail
    go_ret
    exact ⟨by rw [hE.out]; first | done | rfl, by (repeat (first | exact Below.refl _ _ | (with_reducible assumption) | (with_reducible refine bel_later ?_ _) | (with_reducible refine bel_alloc ?_ _) | (with_reducible refine bel_drew ?_) | (with_reducible refine bel_drewN ?_ _) | (with_reducible refine bel_set ?_ (by first | (simp; done) | (simp; omega) | (dsimp only; omega)) _)))⟩
end Go.Proofs.YtahiahjhpakeiaaGreatDoor
namespace Go.Proofs.YtahiahjhpakeiaaGreatDoor
open Go.RowKit Go.Maps Go.Sort
set_option linter.unusedVariables false
set_option linter.unusedSimpArgs false
attribute [local go_sem] later_cell later_frozen later_lt cell_set_off cell_set_block

end Go.Proofs.YtahiahjhpakeiaaGreatDoor
namespace Go.Proofs.YtahiahjhpakeiaaGreatDoor
open Go.RowKit Go.Maps Go.Sort Go.WideShapes Go.ChangeShapes Go.Deep
set_option linter.unusedVariables false
set_option linter.unusedSimpArgs false
attribute [local go_sem] later_cell later_frozen later_lt cell_set_off cell_set_block

/-- So many rounds. -/
def rn : Nat → RS → RS
  | 0, f => f
  | j + 1, f => roundR (rn j f)
end Go.Proofs.YtahiahjhpakeiaaGreatDoor
namespace Go.Proofs.YtahiahjhpakeiaaGreatDoor
set_option linter.unusedVariables false
set_option linter.unusedSimpArgs false

/-- The head is the very next one. -/
def Hr (f : RS) (n : Int) : Prop := ∀ y, livesR f y = true → withinB (idR f y) (idR f n) (idR f (headR f n)) = false
/-- One's head knows one. -/
def Pr (f : RS) (k : Int) : Prop := predR f (headR f k) = k
end Go.Proofs.YtahiahjhpakeiaaGreatDoor
namespace Go.Proofs.YtahiahjhpakeiaaGreatDoor
set_option linter.unusedVariables false
set_option linter.unusedSimpArgs false

/-- The head of k is right, or it lies at least r members ahead of the base b. -/
def S1 (f : RS) (b : Int) (r : Nat) (k : Int) : Prop := Hr f k ∨ r ≤ nearer f (idR f b) (headR f k)
section
variable {f : RS} (I : Inv f)
include I
end
/-! ### Rounds -/
end Go.Proofs.YtahiahjhpakeiaaGreatDoor
namespace Go.Proofs.YtahiahjhpakeiaaGreatDoor
set_option linter.unusedVariables false
set_option linter.unusedSimpArgs false

theorem next_base {f : RS} (I : Inv f) {n : Int} : ∀ (k : Nat) (b : Int), 0 ≤ b → b < 4 → idR f b ≠ idR f n → (dist (idR f n) (idR f b)).toNat ≤ k → ∃ c, 0 ≤ c ∧ c < 4 ∧ NoSkip f n c
  | k, b, h0, h4, hne, hk => by
    by_cases hx : ∃ c, 0 ≤ c ∧ c < 4 ∧ withinB (idR f c) (idR f n) (idR f b) = true
    · obtain ⟨c, c0, c4, hc⟩ := hx
      rw [within_iff] at hc
      have h1 : idR f c ≠ idR f n ∧ dist (idR f n) (idR f c) < dist (idR f n) (idR f b) := by
        rcases hc with h | h
        · exact absurd h.1.symm hne
        · exact h.2
      have h2 : 0 ≤ dist (idR f n) (idR f c) := by unfold dist; omega
      cases k with
      | zero => omega
      | succ k => exact next_base I k c c0 c4 h1.1 (by omega)
    · refine ⟨b, h0, h4, fun c c0 c4 => ?_⟩
      cases e : withinB (idR f c) (idR f n) (idR f b)
      · rfl
      · exact absurd ⟨c, c0, c4, e⟩ hx
theorem has_base {f : RS} (I : Inv f) (n : Int) : ∃ c, 0 ≤ c ∧ c < 4 ∧ NoSkip f n c := by
  by_cases h : idR f 0 = idR f n
  · exact next_base I _ 1 (by omega) (by omega) (fun e => I.bases (b := 0) (c := 1) (by omega) (by omega) (by omega) (h.trans e.symm)) (Nat.le_refl _)
  · exact next_base I _ 0 (by omega) (by omega) h (Nat.le_refl _)
def AllHr (f : RS) : Prop := ∀ k, livesR f k = true → Hr f k
def AllPr (f : RS) : Prop := ∀ k, livesR f k = true → Pr f k
end Go.Proofs.YtahiahjhpakeiaaGreatDoor
namespace Go.Proofs.YtahiahjhpakeiaaGreatDoor
open Go.RowKit Go.Maps Go.Sort Go.WideShapes Go.ChangeShapes Go.Deep
set_option linter.unusedVariables false
set_option linter.unusedSimpArgs false

theorem live4 {f : RS} (I : Inv f) : 4 ≤ (liveL f).length := by
  have e : (List.range 32).map Int.ofNat = [0, 1, 2, 3] ++ ((List.range 32).map Int.ofNat).drop 4 := by decide
  have h : ([0, 1, 2, 3] : List Int).filter (livesR f) = [0, 1, 2, 3] := by
    simp [List.filter_cons, I.base 0 (by omega) (by omega), I.base 1 (by omega) (by omega), I.base 2 (by omega) (by omega), I.base 3 (by omega) (by omega)]
  unfold liveL
  rw [e, List.filter_append, h, List.length_append]
  simp
theorem circ_mono {f : RS} (I : Inv f) {a b : Nat} (h : a < b) (hb : b < (circ f).length) : idR f (nth (circ f) a) < idR f (nth (circ f) b) := by
  have := List.pairwise_iff_getElem.1 (circ_up I) a b (by simpa using (by omega : a < (circ f).length)) (by simpa using hb) h
  rw [nth_eq hb, nth_eq (show a < (circ f).length by omega)]
  simpa using this
end Go.Proofs.YtahiahjhpakeiaaGreatDoor
end
