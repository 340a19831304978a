
/-
  ideal.Of: the circle of the members that live.
  What a member of the circle should know.
  Circle.Peer: what an address should know.
  ideal.Is: does each member know just what it should?
-/
import Derived.Test.YtbhaapkafgieiaaGreatDoorOrd
import Derived.Test.YtbhaapkafgieiaaGreatDoorChordS
import Derived.Test.YtbhaapkafgieiaaGreatDoorShelfIdeal
import Derived.Test.YtbhaapkafgieiaaGreatDoorInts
import Derived.Deep.Cut
namespace Go.Proofs.YtbhaapkafgieiaaGreatDoor
open Go.RowKit Go.Maps Go.Sort
set_option linter.unusedVariables false
set_option linter.unusedSimpArgs false

/-- Is the place there? -/
def foundB (l : List Int) (x : Int) : Bool := decide (below l x < l.length) && (nth l (below l x) == x)
theorem search_val (l : List Int) (hs : l.Pairwise (· < ·)) (x : Int) (b off cap : Nat) (w : World) (hl : l.length ≤ 4000000000)
    (hc : ∀ i, i < l.length → w.cell? ⟨b, off + i, none⟩ = some (.int .u64 (nth l i))) :
    Calls Tryz.prog 71 #[.slice (some ⟨b, off, none⟩) l.length cap, .int .u64 x] w fun e w' => e = .returned (.tuple #[.int .i64 (below l x), .bool (foundB l x)]) ∧ w = w' := by
  have hmono : ∀ i j, i ≤ j → j < l.length → nth l i ≤ nth l j := by
    intro i j hij hj
    rw [nth_eq hj, nth_eq (by omega)]
    rcases Nat.eq_or_lt_of_le hij with rfl | h
    · exact Int.le_refl _
    · have := List.pairwise_iff_getElem.1 hs i j (by omega) hj h; omega
  have HM := Lib.hid hmono
  have HC := Lib.hid hc
  clear hmono hs hc
  go_enter Tryz.func71, Tryz.ntmps71
  go_wp2
  go_loop [7, 8] (fun i j => ∃ p q : Nat, p ≤ q ∧ q ≤ l.length ∧ i = .int .i64 p ∧ j = .int .i64 q ∧ Hid (∀ k, k < p → nth l k < x) ∧ Hid (∀ k, q ≤ k → k < l.length → x ≤ nth l k)) (fun i j => (intOf j).toNat - (intOf i).toNat)
  case atStart => exact ⟨0, l.length, Nat.zero_le _, Nat.le_refl _, rfl, rfl, fun k hk => absurd hk (by omega), fun k hk hk2 => absurd hk (by omega)⟩
  case round =>
    obtain ⟨p, q, hpq, hq, rfl, rfl, h1, h2⟩ := hrel
    by_cases hlt : p < q
    · have c1 : w.cell? ⟨b, off + (p + q) / 2, none⟩ = some (.int .u64 (nth l ((p + q) / 2))) := HC.out _ (by omega)
      go_wp2_with (first | (go_at_call 98; refine (less_any _ _ _).mono ?_; rintro e w' ⟨rfl, rfl⟩) | (go_at_call 99; refine (nan2_any _ _).mono ?_; rintro e w' ⟨rfl, rfl⟩))
      · go_round
        case rel =>
          have hx : nth l ((p + q) / 2) < x := by assumption
          go_light
          exact ⟨(p + q) / 2 + 1, q, by omega, hq, by go_num, rfl, fun k hk => by have := HM.out k ((p + q) / 2) (by omega) (by omega); omega, h2⟩
        case measure => go_light; simp [intOf]; omega
      · go_round
        case rel =>
          have hx : x ≤ nth l ((p + q) / 2) := by assumption
          go_light
          exact ⟨p, (p + q) / 2, by omega, by omega, rfl, by go_num, h1, fun k hk hk2 => by have := HM.out ((p + q) / 2) k (by omega) (by omega); omega⟩
        case measure => go_light; simp [intOf]; omega
    · obtain rfl : p = q := by omega
      have hb : Hid (below l x = p) := below_eq l x p hq h1.out h2.out
      by_cases hpl : p < l.length
      · have c2 : w.cell? ⟨b, off + p, none⟩ = some (.int .u64 (nth l p)) := HC.out _ hpl
        cases he : nth l p == x with
        | true =>
          have hf : Hid (foundB l x = true) := show foundB l x = true by unfold foundB; rw [hb.out, he]; simp [hpl]
          go_wp2_with (go_at_call 99; refine (nan2_any _ _).mono ?_; rintro e w' ⟨rfl, rfl⟩)
          go_ret2
          exact ⟨by rw [hb.out, hf.out]; rfl, rfl⟩
        | false =>
          have hf : Hid (foundB l x = false) := show foundB l x = false by unfold foundB; rw [hb.out, he]; simp
          go_wp2_with (go_at_call 99; refine (nan2_any _ _).mono ?_; rintro e w' ⟨rfl, rfl⟩)
          go_ret2
          exact ⟨by rw [hb.out, hf.out]; rfl, rfl⟩
      · have hf : Hid (foundB l x = false) := show foundB l x = false by unfold foundB; rw [hb.out]; simp [hpl]
        go_wp2_with (go_at_call 99; refine (nan2_any _ _).mono ?_; rintro e w' ⟨rfl, rfl⟩)
        go_ret2
        exact ⟨by rw [hb.out, hf.out]; rfl, rfl⟩
theorem search_none (x : Int) (a : Option Addr) (cap : Nat) (w : World) :
    Calls Tryz.prog 71 #[.slice a 0 cap, .int .u64 x] w fun e w' => e = .returned (.tuple #[.int .i64 0, .bool false]) ∧ w = w' := by
  go_enter Tryz.func71, Tryz.ntmps71
  go_wp2
  refine wp_loop_rounds 1 ?_
  rw [rounds_succ]
  go_wp2
  go_ret2
  exact ⟨rfl, rfl⟩
/-- slices.BinarySearch of rising places in memory. -/
theorem search_sl (l : List Int) (hs : Up l) (x : Int) (v : Value) (w : World) (hl : l.length ≤ 4000000000) (hv : SlAt 0 (fun i => .int .u64 (nth l i)) l.length w v) :
    Calls Tryz.prog 71 #[v, .int .u64 x] w fun e w' => e = .returned (.tuple #[.int .i64 (below l x), .bool (foundB l x)]) ∧ w = w' := by
  rcases hv.parts with ⟨h0, a, cap, rfl, _⟩ | ⟨h0, b, off, cap, rfl, _, _, _, _, hc⟩
  · have hl0 : l = [] := List.length_eq_zero_iff.1 h0
    subst hl0
    exact search_none x a cap w
  · exact search_val l hs x b off cap w hl hc

/-! ### The circle in memory -/
/-- Worlds in which one block reads as it did. -/
structure AtC (w : World) (p : Nat) (h : p < w.heap.size) where
  world : World
  cell : ∀ o, world.cell? ⟨p, o, none⟩ = w.cell? ⟨p, o, none⟩
  lt : p < world.heap.size
theorem atC_cell {w : World} {p : Nat} {h : p < w.heap.size} (x : AtC w p h) (o : Nat) : x.world.cell? ⟨p, o, none⟩ = w.cell? ⟨p, o, none⟩ := x.cell o
theorem atC_lt {w : World} {p : Nat} {h : p < w.heap.size} (x : AtC w p h) : (p < x.world.heap.size) = True := eq_true x.lt
instance {w : World} {p : Nat} {h : p < w.heap.size} : Nonempty (AtC w p h) := ⟨⟨w, fun _ => rfl, h⟩⟩
variable {S : Nat → Prop} {w : World} {rb mb : Nat} {g : Int → Nat} {f : RS}
/-- What Of answers: addresses and places in memory of its own. -/
def CircPost (w : World) (f : RS) (c : List Int) (e : Ending) (w' : World) : Prop :=
  ∃ av iv, e = .returned (.agg #[av, iv]) ∧ SlAt w.heap.size (fun i => .int .i64 (nth c i)) c.length w' av ∧ SlAt w.heap.size (fun i => .int .u64 (nth (c.map (idR f)) i)) c.length w' iv ∧ RowKit.Below w.heap.size w w'
attribute [local go_sem] later_cell later_frozen later_lt atC_cell atC_lt
set_option maxRecDepth 100000 in
set_option maxHeartbeats 8000000 in
theorem of_at (h : RAt S w rb mb g f) (I : Inv f) : Calls Tryz.prog 34 #[.pointer (some ⟨rb, 0, none⟩)] w (CircPost w f (circ f)) := by
  have H := Lib.hid h
  have CL := Lib.hid (fun wr (hb : RowKit.Below w.heap.size w wr) => live_at (h.below hb))
  have hlen := length_liveL f
  have hdm : Hid (∀ x ∈ liveL f, 0 ≤ x ∧ x < 32) := fun x hx => livesR_dom h.dom ((mem_liveL h.dom).1 hx)
  have hup : Hid (∀ k, UpId f (ordF f ((liveL f).take k))) := fun k => ordF_up _ (live_ids_nodup I _ (List.Pairwise.sublist (List.take_sublist _ _) (liveL_nodup f)) fun x hx => (mem_liveL h.dom).1 (List.mem_of_mem_take hx))
  have HP : Hid (∀ e w', CircPost w f (ordF f (liveL f)) e w' → CircPost w f (circ f) e w') := fun e w' h => h
  obtain ⟨L, hL⟩ : ∃ L, L = liveL f := ⟨_, rfl⟩
  rw [← hL] at CL hlen hdm hup HP
  clear h hL I
  go_enter Tryz.func34, Tryz.ntmps34
  go_wp2_with fail
  refine (CL.out _ (by (repeat (first | exact Below.refl _ _ | (with_reducible assumption) | (with_reducible refine bel_later ?_ _) | (with_reducible refine bel_alloc ?_ _) | (with_reducible refine bel_drew ?_) | (with_reducible refine bel_drewN ?_ _) | (with_reducible refine bel_set ?_ (by first | (simp; done) | (simp; omega) | (dsimp only; omega)) _))))).mono ?_
  rintro e w2 ⟨v2, rfl, hs2, hB2⟩
  obtain ⟨a2, q2, rfl, _⟩ := hs2.slice
  have S2 := Lib.hid hs2
  have p0 : w2.cell? ⟨w.heap.size + 1, 0, none⟩ = some (.slice none 0 0) := by rw [hB2.cell (by simp)]; simp [go_sem]
  have p1 : w2.cell? ⟨w.heap.size + 1, 1, none⟩ = some (.slice none 0 0) := by rw [hB2.cell (by simp)]; simp [go_sem]
  have pz : ∀ o, w2.frozen? ⟨w.heap.size + 1, o, none⟩ = false := fun o => by rw [hB2.frozen (by simp)]; simp [go_sem]
  have r0 : ∀ o, w2.frozen? ⟨w.heap.size, o, none⟩ = false := fun o => by rw [hB2.frozen (by simp; omega)]; simp [go_sem]
  have k0 : w2.cell? ⟨w.heap.size, 0, none⟩ = some (.slice none 0 0) := by rw [hB2.cell (by simp; omega)]; simp [go_sem]
  have k1 : w2.cell? ⟨w.heap.size, 1, none⟩ = some (.slice none 0 0) := by rw [hB2.cell (by simp; omega)]; simp [go_sem]
  have z2 : w.heap.size + 2 ≤ w2.heap.size := by have := hB2.size; simp at this; omega
  have B2 : RowKit.Below w.heap.size w w2 := bel_below (bel_alloc (bel_alloc (RowKit.Below.refl _ _) _) _) hB2
  have PZ := Lib.hid pz
  clear hs2 hB2 pz
  obtain ⟨pb, hpb⟩ : ∃ pb, pb = w.heap.size + 1 := ⟨_, rfl⟩
  rw [← hpb] at p0 p1 PZ
  have K2 := Lib.hid (Kept.refl (fun b => b = pb ∨ w2.heap.size ≤ b) w2)
  have P2 : Hid (w2.cell? ⟨pb, 0, none⟩ = some (.slice none 0 0) ∧ w2.cell? ⟨pb, 1, none⟩ = some (.slice none 0 0) ∧ (∀ o, w2.frozen? ⟨pb, o, none⟩ = false) ∧ pb < w2.heap.size) := ⟨p0, p1, PZ.out, by omega⟩
  have BW := Lib.hid (fun wr (hK : Kept (fun b => b = pb ∨ w2.heap.size ≤ b) w2 wr) => (B2.trans (hK.toBelow B2.size (fun b hb hS => by omega)) : RowKit.Below w.heap.size w wr))
  go_wp2_with fail
  rw [← hpb]
  have HPB := Lib.hid hpb
  clear hpb p0 p1
  go_loopw [5, 6, 7, 11] (fun _ _ _ i wr => ∃ (k : Nat) (av iv : Value), k ≤ L.length ∧ i = .int .i64 k ∧ Hid (wr.cell? ⟨pb, 0, none⟩ = some av ∧ wr.cell? ⟨pb, 1, none⟩ = some iv ∧ (∀ o, wr.frozen? ⟨pb, o, none⟩ = false) ∧ pb < wr.heap.size) ∧
      Hid (wr.ownsRow w2.heap.size 3 1 av k ((ordF f (L.take k)).map (Value.int .i64))) ∧ Hid (wr.ownsRow w2.heap.size 25 1 iv k (((ordF f (L.take k)).map (idR f)).map (Value.int .u64))) ∧
      Hid (∀ q, av.ownBlock = some q → iv.ownBlock ≠ some q) ∧ Hid (Kept (fun b => b = pb ∨ w2.heap.size ≤ b) w2 wr)) (fun _ _ _ i _ => L.length - (intOf i).toNat)
  case atStart => exact ⟨0, _, _, Nat.zero_le _, rfl, P2.out, World.ownsRow_nil _ _ _ _, World.ownsRow_nil _ _ _ _, (fun q hq => by cases hq), K2.out⟩
  case round =>
    obtain ⟨k, av, iv, hk, rfl, hP, hA, hI, hne, hK⟩ := hrel
    by_cases hlt : k < L.length
    · obtain ⟨b, off, rfl, hbw, hb, hc⟩ := S2.out.at k hlt w2 (RowKit.Below.refl _ _)
      have hbn : ¬ (b = pb ∨ w2.heap.size ≤ b) := by have := HPB.out; simp at hbw; omega
      have hcr : wr.cell? ⟨b, off + k, none⟩ = some (.int .i64 (nth L k)) := (World.cell?_of_block (hK.out.block b hb hbn)).trans hc
      have hbr : b < wr.heap.size := Nat.lt_of_lt_of_le hb hK.out.size
      have hin : nth L k ∈ L := nth_mem.2 ⟨k, hlt, rfl⟩
      have hdk := hdm.out _ hin
      have okx : okInt (nth L k) := okInt_dom (by omega) (by omega)
      obtain ⟨q0, q1, qz, qlt⟩ := hP.out
      obtain ⟨c, hcE⟩ : ∃ c, c = ordF f (L.take k) := ⟨_, rfl⟩
      have hcl : c.length = k := by rw [hcE, ordF_len, List.length_take]; omega
      have hcu : Up (c.map (idR f)) := by rw [hcE]; exact hup.out k
      have hnx : Hid (ordF f (L.take (k + 1)) = putAt c (below (c.map (idR f)) (idR f (nth L k))) (nth L k)) := show _ = _ by
        rw [List.take_succ_eq_append_getElem hlt, ordF_snoc, nth_eq hlt, hcE]; rfl
      rw [← hcE] at hA hI
      have CID := Lib.hid (fun w' (hb : RowKit.Below wr.heap.size wr w') => id_at (H.out.below (bel_below (BW.out wr hK.out) hb)) (nth L k) okx)
      obtain ⟨n, hn⟩ : ∃ n, n = nth L k := ⟨_, rfl⟩
      obtain ⟨x, hx⟩ : ∃ x, x = idR f n := ⟨_, rfl⟩
      rw [← hn] at hcr CID hnx okx
      rw [← hx] at CID hnx
      have hml : (c.map (idR f)).length = k := by simpa using hcl
      have hil := own_ints hI.out
      rw [hml] at hil
      obtain ⟨ia, ic, rfl, _⟩ := hil.slice
      have CBS := Lib.hid (fun w' (hb : RowKit.Below wr.heap.size wr w') => search_sl (c.map (idR f)) hcu x (.slice ia k ic) w' (by omega) (by rw [hml]; exact (hil.base (Nat.zero_le _)).below hb))
      obtain ⟨ps, hps⟩ : ∃ ps, ps = below (c.map (idR f)) x := ⟨_, rfl⟩
      have hpsk : ps ≤ k := by rw [hps, ← hml]; exact below_le _ _
      obtain ⟨fb, hfb⟩ : ∃ fb, fb = foundB (c.map (idR f)) x := ⟨_, rfl⟩
      rw [← hps, ← hfb] at CBS
      rw [← hps] at hnx
      have HX := Lib.hid hx
      clear hin hdk hn hx hps hfb hil hcE hcu
      go_wp2_with fail
      refine wp_region_calm (by kernel_rfl) (by kernel_rfl) ?_
      repeat (first | (go_big_quiet_step ((first | (go_at_call 20; exact calls_calm_same (CID.out _ (by (repeat (first | exact Below.refl _ _ | (with_reducible assumption) | (with_reducible refine bel_later ?_ _) | (with_reducible refine bel_alloc ?_ _) | (with_reducible refine bel_drew ?_) | (with_reducible refine bel_drewN ?_ _) | (with_reducible refine bel_set ?_ (by first | (simp; done) | (simp; omega) | (dsimp only; omega)) _)))))) | (go_at_call 71; exact calls_calm_same (CBS.out _ (by (repeat (first | exact Below.refl _ _ | (with_reducible assumption) | (with_reducible refine bel_later ?_ _) | (with_reducible refine bel_alloc ?_ _) | (with_reducible refine bel_drew ?_) | (with_reducible refine bel_drewN ?_ _) | (with_reducible refine bel_set ?_ (by first | (simp; done) | (simp; omega) | (dsimp only; omega)) _))))))))) | (refine wpQuiet_step (fun K hK => ?_); go_simp; first | (refine hK _ ?_; clear hK K) | (apply Exists.intro; refine ⟨fun _ => ?_, hK _ ?_⟩; (first | (go_at_call 20; exact calls_calm_same (CID.out _ (by (repeat (first | exact Below.refl _ _ | (with_reducible assumption) | (with_reducible refine bel_later ?_ _) | (with_reducible refine bel_alloc ?_ _) | (with_reducible refine bel_drew ?_) | (with_reducible refine bel_drewN ?_ _) | (with_reducible refine bel_set ?_ (by first | (simp; done) | (simp; omega) | (dsimp only; omega)) _)))))) | (go_at_call 71; exact calls_calm_same (CBS.out _ (by (repeat (first | exact Below.refl _ _ | (with_reducible assumption) | (with_reducible refine bel_later ?_ _) | (with_reducible refine bel_alloc ?_ _) | (with_reducible refine bel_drew ?_) | (with_reducible refine bel_drewN ?_ _) | (with_reducible refine bel_set ?_ (by first | (simp; done) | (simp; omega) | (dsimp only; omega)) _))))))); clear hK K)))
      refine wpQuiet_nil ?_
      intro _ hw'
      obtain ⟨xq, hw''⟩ := hw'
      subst hw''
      go_wp2_with fail
      obtain ⟨wq, hwq⟩ : ∃ z, z = xq.world := ⟨_, rfl⟩
      have Bq : RowKit.Below wr.heap.size wr wq := by rw [hwq]; exact xq.below
      rw [← hwq]
      have e0 : wq.cell? ⟨pb, 0, none⟩ = some av := (Bq.cell (p := ⟨pb, 0, none⟩) qlt).trans q0
      have e1 : wq.cell? ⟨pb, 1, none⟩ = some (.slice ia k ic) := (Bq.cell (p := ⟨pb, 1, none⟩) qlt).trans q1
      have ez : pb < wq.heap.size := Nat.lt_of_lt_of_le qlt Bq.size
      have efz : ∀ o, wq.frozen? ⟨pb, o, none⟩ = false := fun o => (Bq.frozen (p := ⟨pb, o, none⟩) qlt).trans (qz o)
      have EFZ := Lib.hid efz
      have KQ := Lib.hid (hK.out.below Bq)
      have AQ := Lib.hid (owns_below hA.out Bq)
      have IQ := Lib.hid (owns_below hI.out Bq)
      have CIQ := Lib.hid (fun w' (hb : RowKit.Below wq.heap.size wq w') => CID.out w' (bel_below Bq hb))
      clear hwq xq q0 q1 qlt qz efz CID CBS hP hA hI
      refine wp_region_heads [0, 1, 2, 3, 4] 9 (fun w' => ∃ x : AtC wq pb ez, w' = x.world) (by kernel_rfl) (by kernel_rfl) ⟨⟨{ wq with drawn := wq.drawn + 1 }, fun _ => rfl, ez⟩, rfl⟩ ?_ ?_
      · intro d v c a w h
        cases d <;> exact h
      · simp only [headOps]
        repeat (refine wpTame_step (fun K hK => ?_); go_simp; refine hK _ ?_; clear hK K)
        refine wpTame_nil ?_
        refine wpAnyC_step (f := 4) [5] (by kernel_rfl) rfl rfl (fun i hi => ?_)
        simp only [List.mem_cons, List.not_mem_nil, or_false] at hi
        subst hi
        refine ⟨_, rfl, fun R hR => ?_⟩
        go_wp2_with fail
        refine (CIQ.out _ (bel_drew (RowKit.Below.refl _ _))).mono ?_
        rintro e w6 ⟨rfl, rfl⟩
        go_wp2_with fail
        refine hR _ _ ⟨⟨wq.drew, fun _ => rfl, ez⟩, rfl⟩ ?_
        clear hR R
        refine wpAnyC_step (f := 3) [6] (by kernel_rfl) rfl rfl (fun i hi => ?_)
        simp only [List.mem_cons, List.not_mem_nil, or_false] at hi
        subst hi
        refine ⟨_, rfl, fun R hR => ?_⟩
        go_wp2_with fail
        refine hR _ _ ⟨⟨(wq.alloc (.cells #[.int .u64 x] 25)).drew, fun o => (bel_alloc (RowKit.Below.refl _ wq) _).cell (p := ⟨pb, o, none⟩) ez, by simp; omega⟩, rfl⟩ ?_
        clear hR R
        refine wpAnyC_step (f := 2) [7] (by kernel_rfl) rfl rfl (fun i hi => ?_)
        simp only [List.mem_cons, List.not_mem_nil, or_false] at hi
        subst hi
        refine ⟨_, rfl, fun R hR => ?_⟩
        have CIN : Hid (Calls Tryz.prog 72 #[.slice ia k ic, .int .i64 ps, .slice (some ⟨wq.heap.size, 0, none⟩) 1 1] ((wq.alloc (.cells #[.int .u64 x] 25)).drew) fun e w' => ∃ v', e = .returned v' ∧ w'.ownsRow w2.heap.size 25 1 v' (k + 1) ((putAt (c.map (idR f)) ps x).map (Value.int .u64)) ∧ wq.grownBy w' (Value.slice ia k ic).ownBlock ∧ (v'.ownBlock = (Value.slice ia k ic).ownBlock ∨ ∀ q, v'.ownBlock = some q → wq.heap.size ≤ q)) := by
          have := insU_any wq.drew w2.heap.size (.slice ia k ic) (c.map (idR f)) x ps (by rw [hml]; exact IQ.out) (by omega) (by omega) (by have := KQ.out.size; exact this)
          rw [hml] at this
          exact Lib.hid (this.mono fun e w' ⟨v', h1, h2, h3, h4⟩ => ⟨v', h1, h2, ⟨h3.os, h3.tape, h3.output, h3.size, h3.block⟩, h4⟩)
        go_wp2_with fail
        refine CIN.out.mono ?_
        rintro e w7 ⟨iv7, rfl, ho7, hg7, hr7⟩
        have hiq : ∀ q, (Value.slice ia k ic).ownBlock = some q → w2.heap.size ≤ q := fun q hq => (IQ.out.lt q hq).1
        have hfar : ∀ b, b < w2.heap.size → w7.heap[b]? = wq.heap[b]? := fun b hb => hg7.block b (by have := KQ.out.size; omega) (fun e => by have := hiq b e.symm; omega)
        have hpz : pb < w2.heap.size := by have := HPB.out; omega
        have f0 := (World.cell?_of_block (a := ⟨pb, 0, none⟩) (hfar pb hpz)).trans e0
        have f1 := (World.cell?_of_block (a := ⟨pb, 1, none⟩) (hfar pb hpz)).trans e1
        have ffz : ∀ o, w7.frozen? ⟨pb, o, none⟩ = false := fun o => (World.frozen?_of_block (a := ⟨pb, o, none⟩) (hfar pb hpz)).trans (EFZ.out o)
        have fz1 := ffz 1
        have FFZ := Lib.hid ffz
        have flt : pb < w7.heap.size := Nat.lt_of_lt_of_le ez hg7.size
        have A7 := Lib.hid (AQ.out.kept hg7 (by
          rcases ho : av.ownBlock with _ | q
          · exact Or.inl rfl
          · exact Or.inr (fun e => hne.out q ho e.symm)))
        have I7 := Lib.hid ho7
        have N7 : Hid (∀ q, av.ownBlock = some q → iv7.ownBlock ≠ some q) := fun q hq e => by
          rcases hr7 with h | h
          · exact hne.out q hq (h.symm.trans e)
          · have := h q e; have := (AQ.out.lt q hq).2; omega
        have K7 : Hid (Kept (fun b => b = pb ∨ w2.heap.size ≤ b) w2 w7) := KQ.out.trans ⟨hg7.os, hg7.tape, hg7.output, hg7.size, fun b hb hS => hg7.block b hb (fun e => hS (Or.inr (hiq b e.symm)))⟩
        have G7 : Hid (∀ o, w7.cell? ⟨pb, o, none⟩ = wq.cell? ⟨pb, o, none⟩) := fun o => World.cell?_of_block (a := ⟨pb, o, none⟩) (hfar pb hpz)
        obtain ⟨i7, j7, rfl, _⟩ := (own_slAt ho7).slice
        clear ho7 hg7 hr7 hfar ffz hiq
        go_wp2_with fail
        refine hR _ _ ⟨⟨w7, G7.out, flt⟩, rfl⟩ ?_
        clear hR R
        refine wpAnyC_step (f := 1) [8] (by kernel_rfl) rfl rfl (fun i hi => ?_)
        simp only [List.mem_cons, List.not_mem_nil, or_false] at hi
        subst hi
        refine ⟨_, rfl, fun R hR => ?_⟩
        go_wp2_with fail
        refine hR _ _ ⟨⟨w7, G7.out, flt⟩, rfl⟩ ?_
        clear hR R
        refine wpAnyC_end (k := 9) (by decide) rfl rfl (by kernel_rfl) ?_
        clear e0 e1 AQ IQ KQ CIN G7
        obtain ⟨w8, hw8⟩ : ∃ z, z = w7.setCell ⟨pb, 1, none⟩ (.slice i7 (k + 1) j7) := ⟨_, rfl⟩
        have hgo : ∀ g, w2.heap.size ≤ g → w8.heap[g]? = w7.heap[g]? := fun g hg => by rw [hw8]; exact Below.heap_setCell _ _ _ _ (by dsimp only; omega)
        have hz8 : w8.heap.size = w7.heap.size := by rw [hw8]; exact size_set _ _ _
        have A8 : Hid (w8.ownsRow w2.heap.size 3 1 av k (c.map (Value.int .i64))) := owns_blocks A7.out (fun g hg _ => hgo g hg)
        have I8 := Lib.hid (owns_blocks I7.out (fun g hg _ => hgo g hg))
        have g0 : w8.cell? ⟨pb, 0, none⟩ = some av := by rw [hw8, cell_set_off _ _ _ _ _ (by decide)]; exact f0
        have g1 : w8.cell? ⟨pb, 1, none⟩ = some (.slice i7 (k + 1) j7) := by rw [hw8]; exact set_at f1
        have gfz : Hid (∀ o, w8.frozen? ⟨pb, o, none⟩ = false) := fun o => by rw [hw8, World.frozen?_setCell]; exact FFZ.out o
        have K8 : Hid (Kept (fun b => b = pb ∨ w2.heap.size ≤ b) w2 w8) := by rw [hw8]; exact K7.out.set (Or.inl rfl) _
        have CIN : Hid (Calls Tryz.prog 73 #[av, .int .i64 ps, .slice (some ⟨w8.heap.size, 0, none⟩) 1 1] (w8.alloc (.cells #[.int .i64 n] 3)) fun e w' => ∃ v', e = .returned v' ∧ w'.ownsRow w2.heap.size 3 1 v' (k + 1) ((putAt c ps n).map (Value.int .i64)) ∧ w8.grownBy w' av.ownBlock ∧ (v'.ownBlock = av.ownBlock ∨ ∀ q, v'.ownBlock = some q → w8.heap.size ≤ q)) := by
          have := insI_any w8 w2.heap.size av c n ps (by rw [hcl]; exact A8.out) (by omega) (by omega) (by have := K8.out.size; exact this)
          rw [hcl] at this
          exact Lib.hid this
        have HW8 := Lib.hid hw8
        have hfz7 := FFZ.out 1
        clear hw8 hgo A7 I7 K7
        go_wp2_with fail
        rw [← HW8.out, ← hz8]
        refine CIN.out.mono ?_
        rintro e w9 ⟨av9, rfl, ho9, hg9, hr9⟩
        have haq : ∀ q, av.ownBlock = some q → w2.heap.size ≤ q := fun q hq => (A8.out.lt q hq).1
        have hfar : ∀ b, b < w2.heap.size → w9.heap[b]? = w8.heap[b]? := fun b hb => hg9.block b (by have := K8.out.size; omega) (fun e => by have := haq b e.symm; omega)
        have h0 := (World.cell?_of_block (a := ⟨pb, 0, none⟩) (hfar pb hpz)).trans g0
        have h1 := (World.cell?_of_block (a := ⟨pb, 1, none⟩) (hfar pb hpz)).trans g1
        have hfz : ∀ o, w9.frozen? ⟨pb, o, none⟩ = false := fun o => (World.frozen?_of_block (a := ⟨pb, o, none⟩) (hfar pb hpz)).trans (gfz.out o)
        have hfz0 := hfz 0
        have HFZ := Lib.hid hfz
        have hlt9 : pb < w9.heap.size := by have := hg9.size; omega
        have I9 := Lib.hid (I8.out.kept hg9 (by
          rcases ho : (Value.slice i7 (k + 1) j7).ownBlock with _ | q
          · exact Or.inl rfl
          · exact Or.inr (fun e => N7.out q e.symm ho)))
        have N9 : Hid (∀ q, av9.ownBlock = some q → (Value.slice i7 (k + 1) j7).ownBlock ≠ some q) := fun q hq e => by
          rcases hr9 with h | h
          · exact N7.out q (h.symm.trans hq) e
          · have := h q hq; have := (I8.out.lt q e).2; omega
        have K9 : Hid (Kept (fun b => b = pb ∨ w2.heap.size ≤ b) w2 w9) := K8.out.trans ⟨hg9.os, hg9.tape, hg9.output, hg9.size, fun b hb hS => hg9.block b hb (fun e => hS (Or.inr (haq b e.symm)))⟩
        have O9 := Lib.hid ho9
        obtain ⟨a9, j9, rfl, _⟩ := (own_slAt ho9).slice
        clear ho9 hg9 hr9 hfar hfz haq g0 g1 A8 I8 K8 CIN f0 f1 fz1 hfz7
        go_wp2_with fail
        go_roundw
        case rel =>
          go_light
          refine ⟨k + 1, _, _, by omega, by go_num, ⟨set_at h0, ?_, fun o => by rw [World.frozen?_setCell]; exact HFZ.out o, by rw [size_set]; exact hlt9⟩, ?_, ?_, N9.out, ?_⟩
          · rw [cell_set_off _ _ _ _ _ (by decide)]; exact h1
          · rw [hnx.out]
            exact owns_blocks O9.out (fun g hg _ => Below.heap_setCell _ _ _ _ (by dsimp only; omega))
          · rw [hnx.out, map_putAt, ← HX.out]
            exact owns_blocks I9.out (fun g hg _ => Below.heap_setCell _ _ _ _ (by dsimp only; omega))
          · exact K9.out.set (Or.inl rfl) _
        case measure => go_light; simp [intOf]; omega
    · obtain rfl : k = L.length := by omega
      obtain ⟨q0, q1, qz, qlt⟩ := hP.out
      have hAl := own_ints hA.out
      have hIl := own_ints hI.out
      rw [List.take_length] at hAl hIl
      have hc1 : (ordF f L).length = L.length := ordF_len f L
      have hc2 : ((ordF f L).map (idR f)).length = L.length := by simpa using hc1
      rw [hc1] at hAl
      rw [hc2] at hIl
      obtain ⟨aa, ac, rfl, _⟩ := hAl.slice
      obtain ⟨ia, ic, rfl, _⟩ := hIl.slice
      have HAl := Lib.hid hAl
      have HIl := Lib.hid hIl
      have hrn : ¬ (w.heap.size = pb ∨ w2.heap.size ≤ w.heap.size) := by have := HPB.out; omega
      have hrz : w.heap.size < w2.heap.size := by omega
      have s0 := (World.cell?_of_block (a := ⟨w.heap.size, 0, none⟩) (hK.out.block _ hrz hrn)).trans k0
      have s1 := (World.cell?_of_block (a := ⟨w.heap.size, 1, none⟩) (hK.out.block _ hrz hrn)).trans k1
      have sz0 := (World.frozen?_of_block (a := ⟨w.heap.size, 0, none⟩) (hK.out.block _ hrz hrn)).trans (r0 0)
      have sz1 := (World.frozen?_of_block (a := ⟨w.heap.size, 1, none⟩) (hK.out.block _ hrz hrn)).trans (r0 1)
      have slt : w.heap.size < wr.heap.size := Nat.lt_of_lt_of_le hrz hK.out.size
      have BWr := BW.out wr hK.out
      clear hAl hIl k0 k1 r0 hrn
      go_wp2_with fail
      refine bodyPost_ret (v := .agg #[.slice aa L.length ac, .slice ia L.length ic]) ?_ rfl (HP.out _ _ ⟨_, _, rfl, ?_, ?_, ?_⟩)
      · have t0 : ((wr.setCell ⟨w.heap.size, 0, none⟩ (.slice aa L.length ac)).setCell ⟨w.heap.size, 1, none⟩ (.slice ia L.length ic)).cell? ⟨w.heap.size, 0, none⟩ = some (.slice aa L.length ac) := by
          rw [cell_set_off _ _ _ _ _ (by decide)]; exact set_at s0
        have t1 : ((wr.setCell ⟨w.heap.size, 0, none⟩ (.slice aa L.length ac)).setCell ⟨w.heap.size, 1, none⟩ (.slice ia L.length ic)).cell? ⟨w.heap.size, 1, none⟩ = some (.slice ia L.length ic) :=
          set_at (by rw [cell_set_off _ _ _ _ _ (by decide)]; exact s1)
        simp [results, Tryz.results34, go_sem, t0, t1]
      · rw [hc1]
        exact ((HAl.out.set (by dsimp only; omega) _).set (by dsimp only; omega) _).base (by omega)
      · rw [hc1]
        exact ((HIl.out.set (by dsimp only; omega) _).set (by dsimp only; omega) _).base (by omega)
      · exact bel_set (bel_set BWr (Nat.le_refl _) _) (Nat.le_refl _) _
end Go.Proofs.YtbhaapkafgieiaaGreatDoor
namespace Go.Proofs.YtbhaapkafgieiaaGreatDoor
open Go.RowKit Go.Maps Go.Sort
set_option linter.unusedVariables false
set_option linter.unusedSimpArgs false
attribute [local go_sem] later_cell later_frozen later_lt

/-- Number i, round the circle. -/
def cAt (c : List Int) (i : Int) : Int := nth c (i % (c.length : Int)).toNat
theorem indexi_any (w : World) (v : Value) (l : List Int) (h : SlAt 0 (fun i => .int .i64 (nth l i)) l.length w v) (hl : l.length ≤ 4000000000) (x : Int) :
    Calls Tryz.prog 77 #[v, .int .i64 x] w fun e w' => e = .returned (.int .i64 (idxI l x)) ∧ w = w' := by
  rcases h.parts with ⟨h0, a, cap, rfl, _⟩ | ⟨h0, b, off, cap, rfl, h1, h2, _, _, hc⟩
  · have e : idxI l x = -1 := by rw [List.length_eq_zero_iff.1 h0]; rfl
    rw [e]
    exact (AnyE.slices_Index_empty Tryz.indexI a cap (.int .i64 x) w).mono fun e w' h => ⟨h.1, h.2.symm⟩
  · have := AnyE.slices_Index Tryz.indexI (Value.int .i64) (fun x y => x == y) (EqlAt.int _ _ .i64) b off l.length cap l x w (Nat.le_refl _) (by omega) (fun j hj => by rw [getL]; exact hc j hj)
    rw [List.take_length] at this
    exact Calls.mono this fun e w' h => ⟨h.1, h.2.symm⟩
/-- Do two members know the same? -/
def sameK (i1 p1 : Int) (l1 : List Int) (i2 p2 : Int) (l2 : List Int) : Bool := i1 == i2 && (p1 == p2 && sameI l1 l2)
end Go.Proofs.YtbhaapkafgieiaaGreatDoor
namespace Go.Proofs.YtbhaapkafgieiaaGreatDoor
open Go.RowKit Go.Maps Go.Sort
set_option linter.unusedVariables false
set_option linter.unusedSimpArgs false
attribute [local go_sem] later_cell later_frozen later_lt cell_set_off cell_set_block

/-- Who comes behind number i of a circle: j of them. -/
def cSuc (c : List Int) (i : Int) (j : Nat) : List Int := (List.range j).map fun t : Nat => cAt c (i + 1 + (t : Int))
def cNum (c : List Int) : Nat := min 3 (c.length - 1)
/-- What an address should know: told so, or that it is none. -/
def KnowPost (w : World) (c ids : List Int) (n : Int) (e : Ending) (w' : World) : Prop :=
  if idxI c n < 0 then e = .returned (.tuple #[.agg #[.int .u64 0, .int .i64 0, .slice none 0 0], .bool false]) ∧ RowKit.Below w.heap.size w w'
  else ∃ v, e = .returned (.tuple #[.agg #[.int .u64 (nth ids (idxI c n).toNat), .int .i64 (cAt c (idxI c n - 1)), v], .bool true]) ∧
    SlAt w.heap.size (fun i => .int .i64 (nth (cSuc c (idxI c n) (cNum c)) i)) (cNum c) w' v ∧ RowKit.Below w.heap.size w w'
theorem idxI_cases (c : List Int) (n : Int) : idxI c n = -1 ∨ ∃ i : Nat, i < c.length ∧ idxI c n = i ∧ nth c i = n := by
  unfold idxI Lib.idxBy
  have key : ∀ (l : List Int) (s : Nat), Lib.idxByFrom (fun x y : Int => x == y) n l s = -1 ∨ ∃ i : Nat, i < l.length ∧ Lib.idxByFrom (fun x y : Int => x == y) n l s = ((s + i : Nat) : Int) ∧ nth l i = n := by
    intro l
    induction l with
    | nil => intro s; exact Or.inl rfl
    | cons a l ih =>
      intro s
      by_cases h : n = a
      · exact Or.inr ⟨0, by simp, by simp [Lib.idxByFrom, h], by simp [nth_zero, h]⟩
      · rcases ih (s + 1) with h2 | ⟨i, h2, h3, h4⟩
        · exact Or.inl (by simp [Lib.idxByFrom, h, h2])
        · exact Or.inr ⟨i + 1, by simp; omega, by simp [Lib.idxByFrom, h, h3]; omega, by simpa [nth_succ] using h4⟩
  rcases key c 0 with h | ⟨i, h1, h2, h3⟩
  · exact Or.inl h
  · exact Or.inr ⟨i, h1, by simpa using h2, h3⟩

theorem cSuc_len (c : List Int) (i : Int) (j : Nat) : (cSuc c i j).length = j := by simp [cSuc]
end Go.Proofs.YtbhaapkafgieiaaGreatDoor
namespace Go.Proofs.YtbhaapkafgieiaaGreatDoor
open Go.RowKit Go.Maps Go.Sort
set_option linter.unusedVariables false
set_option linter.unusedSimpArgs false
attribute [local go_sem] later_cell later_frozen later_lt cell_set_off cell_set_block

def okN (f : RS) (c : List Int) (n : Int) : Bool := sameK (idR f n) (predR f n) (succR f n) (nth (c.map (idR f)) (idxI c n).toNat) (cAt c (idxI c n - 1)) (cSuc c (idxI c n) (cNum c))
def isB (f : RS) : Bool := (circ f).all (okN f (circ f))
variable {S : Nat → Prop} {w : World} {rb mb : Nat} {g : Int → Nat} {f : RS}
theorem idxI_mem {c : List Int} {n : Int} (h : n ∈ c) : ¬ idxI c n < 0 := by
  rcases idxI_cases c n with h2 | ⟨i, _, h2, _⟩
  · exfalso
    unfold idxI Lib.idxBy at h2
    have key : ∀ (l : List Int) (s : Nat), n ∈ l → 0 ≤ Lib.idxByFrom (fun x y : Int => x == y) n l s := by
      intro l
      induction l with
      | nil => intro s hn; simp at hn
      | cons a l ih =>
        intro s hn
        by_cases e : n = a
        · simp [Lib.idxByFrom, e]
        · rcases List.mem_cons.1 hn with h3 | h3
          · exact absurd h3 e
          · simpa [Lib.idxByFrom, e] using ih (s + 1) h3
    have := key c 0 h
    omega
  · omega
theorem KnowPost.yes {w w' : World} {c ids : List Int} {n : Int} {e : Ending} (h : KnowPost w c ids n e w') (hge : ¬ idxI c n < 0) :
    ∃ v, e = .returned (.tuple #[.agg #[.int .u64 (nth ids (idxI c n).toNat), .int .i64 (cAt c (idxI c n - 1)), v], .bool true]) ∧
    SlAt w.heap.size (fun i => .int .i64 (nth (cSuc c (idxI c n) (cNum c)) i)) (cNum c) w' v ∧ RowKit.Below w.heap.size w w' := by
  unfold KnowPost at h; rwa [if_neg hge] at h
/-! ### The first of which something is true -/
theorem isB_any (f : RS) : isB f = !((circ f).any fun n => !okN f (circ f) n) := by
  unfold isB
  rw [List.not_any_eq_all_not]
  simp
end Go.Proofs.YtbhaapkafgieiaaGreatDoor
