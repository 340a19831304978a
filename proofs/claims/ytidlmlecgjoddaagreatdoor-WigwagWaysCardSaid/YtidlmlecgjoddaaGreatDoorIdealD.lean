
/-
  ideal.Of: the circle of the members that live.
  What a member of the circle should know.
  Circle.Peer: what an address should know.
  ideal.Is: does each member know just what it should?
-/
import Derived.Test.YtidlmlecgjoddaaGreatDoorOrd
import Derived.Test.YtidlmlecgjoddaaGreatDoorChordS
import Derived.Test.YtidlmlecgjoddaaGreatDoorShelfIdeal
import Derived.Test.YtidlmlecgjoddaaGreatDoorInts
import Derived.Deep.Cut
namespace Go.Proofs.YtidlmlecgjoddaaGreatDoor
open Go.RowKit Go.Maps Go.Sort
set_option linter.unusedVariables false
set_option linter.unusedSimpArgs false

/-- Is the place there? -/
def foundB (l : List Int) (x : Int) : Bool := decide (below l x < l.length) && (nth l (below l x) == x)
theorem search_val (l : List Int) (hs : l.Pairwise (· < ·)) (x : Int) (b off cap : Nat) (w : World) (hl : l.length ≤ 4000000000)
    (hc : ∀ i, i < l.length → w.cell? ⟨b, off + i, none⟩ = some (.int .u64 (nth l i))) :
    Calls Tryz.prog 49 #[.slice (some ⟨b, off, none⟩) l.length cap, .int .u64 x] w fun e w' => e = .returned (.tuple #[.int .i64 (below l x), .bool (foundB l x)]) ∧ w = w' := by
  have hmono : ∀ i j, i ≤ j → j < l.length → nth l i ≤ nth l j := by
    intro i j hij hj
    rw [nth_eq hj, nth_eq (by omega)]
    rcases Nat.eq_or_lt_of_le hij with rfl | h
    · exact Int.le_refl _
    · have := List.pairwise_iff_getElem.1 hs i j (by omega) hj h; omega
  have HM := Lib.hid hmono
  have HC := Lib.hid hc
  clear hmono hs hc
  go_enter Tryz.func49, Tryz.ntmps49
  go_wp2
  go_loop [7, 8] (fun i j => ∃ p q : Nat, p ≤ q ∧ q ≤ l.length ∧ i = .int .i64 p ∧ j = .int .i64 q ∧ Hid (∀ k, k < p → nth l k < x) ∧ Hid (∀ k, q ≤ k → k < l.length → x ≤ nth l k)) (fun i j => (intOf j).toNat - (intOf i).toNat)
  case atStart => exact ⟨0, l.length, Nat.zero_le _, Nat.le_refl _, rfl, rfl, fun k hk => absurd hk (by omega), fun k hk hk2 => absurd hk (by omega)⟩
  case round =>
    obtain ⟨p, q, hpq, hq, rfl, rfl, h1, h2⟩ := hrel
    by_cases hlt : p < q
    · have c1 : w.cell? ⟨b, off + (p + q) / 2, none⟩ = some (.int .u64 (nth l ((p + q) / 2))) := HC.out _ (by omega)
      go_wp2_with (first | (go_at_call 107; refine (less_any _ _ _).mono ?_; rintro e w' ⟨rfl, rfl⟩) | (go_at_call 108; refine (nan2_any _ _).mono ?_; rintro e w' ⟨rfl, rfl⟩))
      · go_round
        case rel =>
          have hx : nth l ((p + q) / 2) < x := by assumption
          go_light
          exact ⟨(p + q) / 2 + 1, q, by omega, hq, by go_num, rfl, fun k hk => by have := HM.out k ((p + q) / 2) (by omega) (by omega); omega, h2⟩
        case measure => go_light; simp [intOf]; omega
      · go_round
        case rel =>
          have hx : x ≤ nth l ((p + q) / 2) := by assumption
          go_light
          exact ⟨p, (p + q) / 2, by omega, by omega, rfl, by go_num, h1, fun k hk hk2 => by have := HM.out ((p + q) / 2) k (by omega) (by omega); omega⟩
        case measure => go_light; simp [intOf]; omega
    · obtain rfl : p = q := by omega
      have hb : Hid (below l x = p) := below_eq l x p hq h1.out h2.out
      by_cases hpl : p < l.length
      · have c2 : w.cell? ⟨b, off + p, none⟩ = some (.int .u64 (nth l p)) := HC.out _ hpl
        cases he : nth l p == x with
        | true =>
          have hf : Hid (foundB l x = true) := show foundB l x = true by unfold foundB; rw [hb.out, he]; simp [hpl]
          go_wp2_with (go_at_call 108; refine (nan2_any _ _).mono ?_; rintro e w' ⟨rfl, rfl⟩)
          go_ret2
          exact ⟨by rw [hb.out, hf.out]; rfl, rfl⟩
        | false =>
          have hf : Hid (foundB l x = false) := show foundB l x = false by unfold foundB; rw [hb.out, he]; simp
          go_wp2_with (go_at_call 108; refine (nan2_any _ _).mono ?_; rintro e w' ⟨rfl, rfl⟩)
          go_ret2
          exact ⟨by rw [hb.out, hf.out]; rfl, rfl⟩
      · have hf : Hid (foundB l x = false) := show foundB l x = false by unfold foundB; rw [hb.out]; simp [hpl]
        go_wp2_with (go_at_call 108; refine (nan2_any _ _).mono ?_; rintro e w' ⟨rfl, rfl⟩)
        go_ret2
        exact ⟨by rw [hb.out, hf.out]; rfl, rfl⟩
theorem search_none (x : Int) (a : Option Addr) (cap : Nat) (w : World) :
    Calls Tryz.prog 49 #[.slice a 0 cap, .int .u64 x] w fun e w' => e = .returned (.tuple #[.int .i64 0, .bool false]) ∧ w = w' := by
  go_enter Tryz.func49, Tryz.ntmps49
  go_wp2
  refine wp_loop_rounds 1 ?_
  rw [rounds_succ]
  go_wp2
  go_ret2
  exact ⟨rfl, rfl⟩
/-- slices.BinarySearch of rising places in memory. -/
theorem search_sl (l : List Int) (hs : Up l) (x : Int) (v : Value) (w : World) (hl : l.length ≤ 4000000000) (hv : SlAt 0 (fun i => .int .u64 (nth l i)) l.length w v) :
    Calls Tryz.prog 49 #[v, .int .u64 x] w fun e w' => e = .returned (.tuple #[.int .i64 (below l x), .bool (foundB l x)]) ∧ w = w' := by
  rcases hv.parts with ⟨h0, a, cap, rfl, _⟩ | ⟨h0, b, off, cap, rfl, _, _, _, _, hc⟩
  · have hl0 : l = [] := List.length_eq_zero_iff.1 h0
    subst hl0
    exact search_none x a cap w
  · exact search_val l hs x b off cap w hl hc

/-! ### The circle in memory -/
/-- Worlds in which one block reads as it did. -/
structure AtC (w : World) (p : Nat) (h : p < w.heap.size) where
  world : World
  cell : ∀ o, world.cell? ⟨p, o, none⟩ = w.cell? ⟨p, o, none⟩
  lt : p < world.heap.size
theorem atC_cell {w : World} {p : Nat} {h : p < w.heap.size} (x : AtC w p h) (o : Nat) : x.world.cell? ⟨p, o, none⟩ = w.cell? ⟨p, o, none⟩ := x.cell o
theorem atC_lt {w : World} {p : Nat} {h : p < w.heap.size} (x : AtC w p h) : (p < x.world.heap.size) = True := eq_true x.lt
instance {w : World} {p : Nat} {h : p < w.heap.size} : Nonempty (AtC w p h) := ⟨⟨w, fun _ => rfl, h⟩⟩
variable {S : Nat → Prop} {w : World} {rb mb : Nat} {g : Int → Nat} {f : RS}
/-- What Of answers: addresses and places in memory of its own. -/
def CircPost (w : World) (f : RS) (c : List Int) (e : Ending) (w' : World) : Prop :=
  ∃ av iv, e = .returned (.agg #[av, iv]) ∧ SlAt w.heap.size (fun i => .int .i64 (nth c i)) c.length w' av ∧ SlAt w.heap.size (fun i => .int .u64 (nth (c.map (idR f)) i)) c.length w' iv ∧ RowKit.Below w.heap.size w w'
attribute [local go_sem] later_cell later_frozen later_lt atC_cell atC_lt
set_option maxRecDepth 100000 in
set_option maxHeartbeats 8000000 in
theorem of_at (h : RAt S w rb mb g f) (I : Inv f) : Calls Tryz.prog 11 #[.pointer (some ⟨rb, 0, none⟩)] w (CircPost w f (circ f)) := by
  have H := Lib.hid h
  have CL := Lib.hid (fun wr (hb : RowKit.Below w.heap.size w wr) => live_at (h.below hb))
  have hlen := length_liveL f
  have hdm : Hid (∀ x ∈ liveL f, 0 ≤ x ∧ x < 32) := fun x hx => livesR_dom h.dom ((mem_liveL h.dom).1 hx)
  have hup : Hid (∀ k, UpId f (ordF f ((liveL f).take k))) := fun k => ordF_up _ (live_ids_nodup I _ (List.Pairwise.sublist (List.take_sublist _ _) (liveL_nodup f)) fun x hx => (mem_liveL h.dom).1 (List.mem_of_mem_take hx))
  have HP : Hid (∀ e w', CircPost w f (ordF f (liveL f)) e w' → CircPost w f (circ f) e w') := fun e w' h => h
  obtain ⟨L, hL⟩ : ∃ L, L = liveL f := ⟨_, rfl⟩
  rw [← hL] at CL hlen hdm hup HP
  clear h hL I
  go_enter Tryz.func11, Tryz.ntmps11
  go_wp2_with fail
  refine (CL.out _ (by (repeat (first | exact Below.refl _ _ | (with_reducible assumption) | (with_reducible refine bel_later ?_ _) | (with_reducible refine bel_alloc ?_ _) | (with_reducible refine bel_drew ?_) | (with_reducible refine bel_drewN ?_ _) | (with_reducible refine bel_set ?_ (by first | (simp; done) | (simp; omega) | (dsimp only; omega)) _))))).mono ?_
  rintro e w2 ⟨v2, rfl, hs2, hB2⟩
  obtain ⟨a2, q2, rfl, _⟩ := hs2.slice
  have S2 := Lib.hid hs2
  have p0 : w2.cell? ⟨w.heap.size + 1, 0, none⟩ = some (.slice none 0 0) := by rw [hB2.cell (by simp)]; simp [go_sem]
  have p1 : w2.cell? ⟨w.heap.size + 1, 1, none⟩ = some (.slice none 0 0) := by rw [hB2.cell (by simp)]; simp [go_sem]
  have pz : ∀ o, w2.frozen? ⟨w.heap.size + 1, o, none⟩ = false := fun o => by rw [hB2.frozen (by simp)]; simp [go_sem]
  have r0 : ∀ o, w2.frozen? ⟨w.heap.size, o, none⟩ = false := fun o => by rw [hB2.frozen (by simp; omega)]; simp [go_sem]
  have k0 : w2.cell? ⟨w.heap.size, 0, none⟩ = some (.slice none 0 0) := by rw [hB2.cell (by simp; omega)]; simp [go_sem]
  have k1 : w2.cell? ⟨w.heap.size, 1, none⟩ = some (.slice none 0 0) := by rw [hB2.cell (by simp; omega)]; simp [go_sem]
  have z2 : w.heap.size + 2 ≤ w2.heap.size := by have := hB2.size; simp at this; omega
  have B2 : RowKit.Below w.heap.size w w2 := bel_below (bel_alloc (bel_alloc (RowKit.Below.refl _ _) _) _) hB2
  have PZ := Lib.hid pz
  clear hs2 hB2 pz
  obtain ⟨pb, hpb⟩ : ∃ pb, pb = w.heap.size + 1 := ⟨_, rfl⟩
  rw [← hpb] at p0 p1 PZ
  have K2 := Lib.hid (Kept.refl (fun b => b = pb ∨ w2.heap.size ≤ b) w2)
  have P2 : Hid (w2.cell? ⟨pb, 0, none⟩ = some (.slice none 0 0) ∧ w2.cell? ⟨pb, 1, none⟩ = some (.slice none 0 0) ∧ (∀ o, w2.frozen? ⟨pb, o, none⟩ = false) ∧ pb < w2.heap.size) := ⟨p0, p1, PZ.out, by omega⟩
  have BW := Lib.hid (fun wr (hK : Kept (fun b => b = pb ∨ w2.heap.size ≤ b) w2 wr) => (B2.trans (hK.toBelow B2.size (fun b hb hS => by omega)) : RowKit.Below w.heap.size w wr))
  go_wp2_with fail
  rw [← hpb]
  have HPB := Lib.hid hpb
  clear hpb p0 p1
  go_loopw [5, 6, 7, 11] (fun _ _ _ i wr => ∃ (k : Nat) (av iv : Value), k ≤ L.length ∧ i = .int .i64 k ∧ Hid (wr.cell? ⟨pb, 0, none⟩ = some av ∧ wr.cell? ⟨pb, 1, none⟩ = some iv ∧ (∀ o, wr.frozen? ⟨pb, o, none⟩ = false) ∧ pb < wr.heap.size) ∧
      Hid (wr.ownsRow w2.heap.size 3 1 av k ((ordF f (L.take k)).map (Value.int .i64))) ∧ Hid (wr.ownsRow w2.heap.size 43 1 iv k (((ordF f (L.take k)).map (idR f)).map (Value.int .u64))) ∧
      Hid (∀ q, av.ownBlock = some q → iv.ownBlock ≠ some q) ∧ Hid (Kept (fun b => b = pb ∨ w2.heap.size ≤ b) w2 wr)) (fun _ _ _ i _ => L.length - (intOf i).toNat)
  case atStart => exact ⟨0, _, _, Nat.zero_le _, rfl, P2.out, World.ownsRow_nil _ _ _ _, World.ownsRow_nil _ _ _ _, (fun q hq => by cases hq), K2.out⟩
  case round =>
    obtain ⟨k, av, iv, hk, rfl, hP, hA, hI, hne, hK⟩ := hrel
    by_cases hlt : k < L.length
    · obtain ⟨b, off, rfl, hbw, hb, hc⟩ := S2.out.at k hlt w2 (RowKit.Below.refl _ _)
      have hbn : ¬ (b = pb ∨ w2.heap.size ≤ b) := by have := HPB.out; simp at hbw; omega
      have hcr : wr.cell? ⟨b, off + k, none⟩ = some (.int .i64 (nth L k)) := (World.cell?_of_block (hK.out.block b hb hbn)).trans hc
      have hbr : b < wr.heap.size := Nat.lt_of_lt_of_le hb hK.out.size
      have hin : nth L k ∈ L := nth_mem.2 ⟨k, hlt, rfl⟩
      have hdk := hdm.out _ hin
      have okx : okInt (nth L k) := okInt_dom (by omega) (by omega)
      obtain ⟨q0, q1, qz, qlt⟩ := hP.out
      obtain ⟨c, hcE⟩ : ∃ c, c = ordF f (L.take k) := ⟨_, rfl⟩
      have hcl : c.length = k := by rw [hcE, ordF_len, List.length_take]; omega
      have hcu : Up (c.map (idR f)) := by rw [hcE]; exact hup.out k
      have hnx : Hid (ordF f (L.take (k + 1)) = putAt c (below (c.map (idR f)) (idR f (nth L k))) (nth L k)) := show _ = _ by
        rw [List.take_succ_eq_append_getElem hlt, ordF_snoc, nth_eq hlt, hcE]; rfl
      rw [← hcE] at hA hI
      have CID := Lib.hid (fun w' (hb : RowKit.Below wr.heap.size wr w') => id_at (H.out.below (bel_below (BW.out wr hK.out) hb)) (nth L k) okx)
      obtain ⟨n, hn⟩ : ∃ n, n = nth L k := ⟨_, rfl⟩
      obtain ⟨x, hx⟩ : ∃ x, x = idR f n := ⟨_, rfl⟩
      rw [← hn] at hcr CID hnx okx
      rw [← hx] at CID hnx
      have hml : (c.map (idR f)).length = k := by simpa using hcl
      have hil := own_ints hI.out
      rw [hml] at hil
      obtain ⟨ia, ic, rfl, _⟩ := hil.slice
      have CBS := Lib.hid (fun w' (hb : RowKit.Below wr.heap.size wr w') => search_sl (c.map (idR f)) hcu x (.slice ia k ic) w' (by omega) (by rw [hml]; exact (hil.base (Nat.zero_le _)).below hb))
      obtain ⟨ps, hps⟩ : ∃ ps, ps = below (c.map (idR f)) x := ⟨_, rfl⟩
      have hpsk : ps ≤ k := by rw [hps, ← hml]; exact below_le _ _
      obtain ⟨fb, hfb⟩ : ∃ fb, fb = foundB (c.map (idR f)) x := ⟨_, rfl⟩
      rw [← hps, ← hfb] at CBS
      rw [← hps] at hnx
      have HX := Lib.hid hx
      clear hin hdk hn hx hps hfb hil hcE hcu
      go_wp2_with fail
      refine wp_region_calm (by kernel_rfl) (by kernel_rfl) ?_
      repeat (first | (go_big_quiet_step ((first | (go_at_call 50; exact calls_calm_same (CID.out _ (by (repeat (first | exact Below.refl _ _ | (with_reducible assumption) | (with_reducible refine bel_later ?_ _) | (with_reducible refine bel_alloc ?_ _) | (with_reducible refine bel_drew ?_) | (with_reducible refine bel_drewN ?_ _) | (with_reducible refine bel_set ?_ (by first | (simp; done) | (simp; omega) | (dsimp only; omega)) _)))))) | (go_at_call 49; exact calls_calm_same (CBS.out _ (by (repeat (first | exact Below.refl _ _ | (with_reducible assumption) | (with_reducible refine bel_later ?_ _) | (with_reducible refine bel_alloc ?_ _) | (with_reducible refine bel_drew ?_) | (with_reducible refine bel_drewN ?_ _) | (with_reducible refine bel_set ?_ (by first | (simp; done) | (simp; omega) | (dsimp only; omega)) _))))))))) | (refine wpQuiet_step (fun K hK => ?_); go_simp; first | (refine hK _ ?_; clear hK K) | (apply Exists.intro; refine ⟨fun _ => ?_, hK _ ?_⟩; (first | (go_at_call 50; exact calls_calm_same (CID.out _ (by (repeat (first | exact Below.refl _ _ | (with_reducible assumption) | (with_reducible refine bel_later ?_ _) | (with_reducible refine bel_alloc ?_ _) | (with_reducible refine bel_drew ?_) | (with_reducible refine bel_drewN ?_ _) | (with_reducible refine bel_set ?_ (by first | (simp; done) | (simp; omega) | (dsimp only; omega)) _)))))) | (go_at_call 49; exact calls_calm_same (CBS.out _ (by (repeat (first | exact Below.refl _ _ | (with_reducible assumption) | (with_reducible refine bel_later ?_ _) | (with_reducible refine bel_alloc ?_ _) | (with_reducible refine bel_drew ?_) | (with_reducible refine bel_drewN ?_ _) | (with_reducible refine bel_set ?_ (by first | (simp; done) | (simp; omega) | (dsimp only; omega)) _))))))); clear hK K)))
      refine wpQuiet_nil ?_
      intro _ hw'
      obtain ⟨xq, hw''⟩ := hw'
      subst hw''
      go_wp2_with fail
      obtain ⟨wq, hwq⟩ : ∃ z, z = xq.world := ⟨_, rfl⟩
      have Bq : RowKit.Below wr.heap.size wr wq := by rw [hwq]; exact xq.below
      rw [← hwq]
      have e0 : wq.cell? ⟨pb, 0, none⟩ = some av := (Bq.cell (p := ⟨pb, 0, none⟩) qlt).trans q0
      have e1 : wq.cell? ⟨pb, 1, none⟩ = some (.slice ia k ic) := (Bq.cell (p := ⟨pb, 1, none⟩) qlt).trans q1
      have ez : pb < wq.heap.size := Nat.lt_of_lt_of_le qlt Bq.size
      have efz : ∀ o, wq.frozen? ⟨pb, o, none⟩ = false := fun o => (Bq.frozen (p := ⟨pb, o, none⟩) qlt).trans (qz o)
      have EFZ := Lib.hid efz
      have KQ := Lib.hid (hK.out.below Bq)
      have AQ := Lib.hid (owns_below hA.out Bq)
      have IQ := Lib.hid (owns_below hI.out Bq)
      have CIQ := Lib.hid (fun w' (hb : RowKit.Below wq.heap.size wq w') => CID.out w' (bel_below Bq hb))
      clear hwq xq q0 q1 qlt qz efz CID CBS hP hA hI
      refine wp_region_heads [0, 1, 2, 3, 4] 9 (fun w' => ∃ x : AtC wq pb ez, w' = x.world) (by kernel_rfl) (by kernel_rfl) ⟨⟨{ wq with drawn := wq.drawn + 1 }, fun _ => rfl, ez⟩, rfl⟩ ?_ ?_
      · intro d v c a w h
        cases d <;> exact h
      · simp only [headOps]
        repeat (refine wpTame_step (fun K hK => ?_); go_simp; refine hK _ ?_; clear hK K)
        refine wpTame_nil ?_
        refine wpAnyC_step (f := 4) [5] (by kernel_rfl) rfl rfl (fun i hi => ?_)
        simp only [List.mem_cons, List.not_mem_nil, or_false] at hi
        subst hi
        refine ⟨_, rfl, fun R hR => ?_⟩
        go_wp2_with fail
        refine (CIQ.out _ (bel_drew (RowKit.Below.refl _ _))).mono ?_
        rintro e w6 ⟨rfl, rfl⟩
        go_wp2_with fail
        refine hR _ _ ⟨⟨wq.drew, fun _ => rfl, ez⟩, rfl⟩ ?_
        clear hR R
        refine wpAnyC_step (f := 3) [6] (by kernel_rfl) rfl rfl (fun i hi => ?_)
        simp only [List.mem_cons, List.not_mem_nil, or_false] at hi
        subst hi
        refine ⟨_, rfl, fun R hR => ?_⟩
        go_wp2_with fail
        refine hR _ _ ⟨⟨(wq.alloc (.cells #[.int .u64 x] 43)).drew, fun o => (bel_alloc (RowKit.Below.refl _ wq) _).cell (p := ⟨pb, o, none⟩) ez, by simp; omega⟩, rfl⟩ ?_
        clear hR R
        refine wpAnyC_step (f := 2) [7] (by kernel_rfl) rfl rfl (fun i hi => ?_)
        simp only [List.mem_cons, List.not_mem_nil, or_false] at hi
        subst hi
        refine ⟨_, rfl, fun R hR => ?_⟩
        have CIN : Hid (Calls Tryz.prog 51 #[.slice ia k ic, .int .i64 ps, .slice (some ⟨wq.heap.size, 0, none⟩) 1 1] ((wq.alloc (.cells #[.int .u64 x] 43)).drew) fun e w' => ∃ v', e = .returned v' ∧ w'.ownsRow w2.heap.size 43 1 v' (k + 1) ((putAt (c.map (idR f)) ps x).map (Value.int .u64)) ∧ wq.grownBy w' (Value.slice ia k ic).ownBlock ∧ (v'.ownBlock = (Value.slice ia k ic).ownBlock ∨ ∀ q, v'.ownBlock = some q → wq.heap.size ≤ q)) := by
          have := insU_any wq.drew w2.heap.size (.slice ia k ic) (c.map (idR f)) x ps (by rw [hml]; exact IQ.out) (by omega) (by omega) (by have := KQ.out.size; exact this)
          rw [hml] at this
          exact Lib.hid (this.mono fun e w' ⟨v', h1, h2, h3, h4⟩ => ⟨v', h1, h2, ⟨h3.os, h3.tape, h3.output, h3.size, h3.block⟩, h4⟩)
        go_wp2_with fail
        refine CIN.out.mono ?_
        rintro e w7 ⟨iv7, rfl, ho7, hg7, hr7⟩
        have hiq : ∀ q, (Value.slice ia k ic).ownBlock = some q → w2.heap.size ≤ q := fun q hq => (IQ.out.lt q hq).1
        have hfar : ∀ b, b < w2.heap.size → w7.heap[b]? = wq.heap[b]? := fun b hb => hg7.block b (by have := KQ.out.size; omega) (fun e => by have := hiq b e.symm; omega)
        have hpz : pb < w2.heap.size := by have := HPB.out; omega
        have f0 := (World.cell?_of_block (a := ⟨pb, 0, none⟩) (hfar pb hpz)).trans e0
        have f1 := (World.cell?_of_block (a := ⟨pb, 1, none⟩) (hfar pb hpz)).trans e1
        have ffz : ∀ o, w7.frozen? ⟨pb, o, none⟩ = false := fun o => (World.frozen?_of_block (a := ⟨pb, o, none⟩) (hfar pb hpz)).trans (EFZ.out o)
        have fz1 := ffz 1
        have FFZ := Lib.hid ffz
        have flt : pb < w7.heap.size := Nat.lt_of_lt_of_le ez hg7.size
        have A7 := Lib.hid (AQ.out.kept hg7 (by
          rcases ho : av.ownBlock with _ | q
          · exact Or.inl rfl
          · exact Or.inr (fun e => hne.out q ho e.symm)))
        have I7 := Lib.hid ho7
        have N7 : Hid (∀ q, av.ownBlock = some q → iv7.ownBlock ≠ some q) := fun q hq e => by
          rcases hr7 with h | h
          · exact hne.out q hq (h.symm.trans e)
          · have := h q e; have := (AQ.out.lt q hq).2; omega
        have K7 : Hid (Kept (fun b => b = pb ∨ w2.heap.size ≤ b) w2 w7) := KQ.out.trans ⟨hg7.os, hg7.tape, hg7.output, hg7.size, fun b hb hS => hg7.block b hb (fun e => hS (Or.inr (hiq b e.symm)))⟩
        have G7 : Hid (∀ o, w7.cell? ⟨pb, o, none⟩ = wq.cell? ⟨pb, o, none⟩) := fun o => World.cell?_of_block (a := ⟨pb, o, none⟩) (hfar pb hpz)
        obtain ⟨i7, j7, rfl, _⟩ := (own_slAt ho7).slice
        clear ho7 hg7 hr7 hfar ffz hiq
        go_wp2_with fail
        refine hR _ _ ⟨⟨w7, G7.out, flt⟩, rfl⟩ ?_
        clear hR R
        refine wpAnyC_step (f := 1) [8] (by kernel_rfl) rfl rfl (fun i hi => ?_)
        simp only [List.mem_cons, List.not_mem_nil, or_false] at hi
        subst hi
        refine ⟨_, rfl, fun R hR => ?_⟩
        go_wp2_with fail
        refine hR _ _ ⟨⟨w7, G7.out, flt⟩, rfl⟩ ?_
        clear hR R
        refine wpAnyC_end (k := 9) (by decide) rfl rfl (by kernel_rfl) ?_
        clear e0 e1 AQ IQ KQ CIN G7
        obtain ⟨w8, hw8⟩ : ∃ z, z = w7.setCell ⟨pb, 1, none⟩ (.slice i7 (k + 1) j7) := ⟨_, rfl⟩
        have hgo : ∀ g, w2.heap.size ≤ g → w8.heap[g]? = w7.heap[g]? := fun g hg => by rw [hw8]; exact Below.heap_setCell _ _ _ _ (by dsimp only; omega)
        have hz8 : w8.heap.size = w7.heap.size := by rw [hw8]; exact size_set _ _ _
        have A8 : Hid (w8.ownsRow w2.heap.size 3 1 av k (c.map (Value.int .i64))) := owns_blocks A7.out (fun g hg _ => hgo g hg)
        have I8 := Lib.hid (owns_blocks I7.out (fun g hg _ => hgo g hg))
        have g0 : w8.cell? ⟨pb, 0, none⟩ = some av := by rw [hw8, cell_set_off _ _ _ _ _ (by decide)]; exact f0
        have g1 : w8.cell? ⟨pb, 1, none⟩ = some (.slice i7 (k + 1) j7) := by rw [hw8]; exact set_at f1
        have gfz : Hid (∀ o, w8.frozen? ⟨pb, o, none⟩ = false) := fun o => by rw [hw8, World.frozen?_setCell]; exact FFZ.out o
        have K8 : Hid (Kept (fun b => b = pb ∨ w2.heap.size ≤ b) w2 w8) := by rw [hw8]; exact K7.out.set (Or.inl rfl) _
        have CIN : Hid (Calls Tryz.prog 52 #[av, .int .i64 ps, .slice (some ⟨w8.heap.size, 0, none⟩) 1 1] (w8.alloc (.cells #[.int .i64 n] 3)) fun e w' => ∃ v', e = .returned v' ∧ w'.ownsRow w2.heap.size 3 1 v' (k + 1) ((putAt c ps n).map (Value.int .i64)) ∧ w8.grownBy w' av.ownBlock ∧ (v'.ownBlock = av.ownBlock ∨ ∀ q, v'.ownBlock = some q → w8.heap.size ≤ q)) := by
          have := insI_any w8 w2.heap.size av c n ps (by rw [hcl]; exact A8.out) (by omega) (by omega) (by have := K8.out.size; exact this)
          rw [hcl] at this
          exact Lib.hid this
        have HW8 := Lib.hid hw8
        have hfz7 := FFZ.out 1
        clear hw8 hgo A7 I7 K7
        go_wp2_with fail
        rw [← HW8.out, ← hz8]
        refine CIN.out.mono ?_
        rintro e w9 ⟨av9, rfl, ho9, hg9, hr9⟩
        have haq : ∀ q, av.ownBlock = some q → w2.heap.size ≤ q := fun q hq => (A8.out.lt q hq).1
        have hfar : ∀ b, b < w2.heap.size → w9.heap[b]? = w8.heap[b]? := fun b hb => hg9.block b (by have := K8.out.size; omega) (fun e => by have := haq b e.symm; omega)
        have h0 := (World.cell?_of_block (a := ⟨pb, 0, none⟩) (hfar pb hpz)).trans g0
        have h1 := (World.cell?_of_block (a := ⟨pb, 1, none⟩) (hfar pb hpz)).trans g1
        have hfz : ∀ o, w9.frozen? ⟨pb, o, none⟩ = false := fun o => (World.frozen?_of_block (a := ⟨pb, o, none⟩) (hfar pb hpz)).trans (gfz.out o)
        have hfz0 := hfz 0
        have HFZ := Lib.hid hfz
        have hlt9 : pb < w9.heap.size := by have := hg9.size; omega
        have I9 := Lib.hid (I8.out.kept hg9 (by
          rcases ho : (Value.slice i7 (k + 1) j7).ownBlock with _ | q
          · exact Or.inl rfl
          · exact Or.inr (fun e => N7.out q e.symm ho)))
        have N9 : Hid (∀ q, av9.ownBlock = some q → (Value.slice i7 (k + 1) j7).ownBlock ≠ some q) := fun q hq e => by
          rcases hr9 with h | h
          · exact N7.out q (h.symm.trans hq) e
          · have := h q hq; have := (I8.out.lt q e).2; omega
        have K9 : Hid (Kept (fun b => b = pb ∨ w2.heap.size ≤ b) w2 w9) := K8.out.trans ⟨hg9.os, hg9.tape, hg9.output, hg9.size, fun b hb hS => hg9.block b hb (fun e => hS (Or.inr (haq b e.symm)))⟩
        have O9 := Lib.hid ho9
        obtain ⟨a9, j9, rfl, _⟩ := (own_slAt ho9).slice
        clear ho9 hg9 hr9 hfar hfz haq g0 g1 A8 I8 K8 CIN f0 f1 fz1 hfz7
        go_wp2_with fail
        go_roundw
        case rel =>
          go_light
          refine ⟨k + 1, _, _, by omega, by go_num, ⟨set_at h0, ?_, fun o => by rw [World.frozen?_setCell]; exact HFZ.out o, by rw [size_set]; exact hlt9⟩, ?_, ?_, N9.out, ?_⟩
          · rw [cell_set_off _ _ _ _ _ (by decide)]; exact h1
          · rw [hnx.out]
            exact owns_blocks O9.out (fun g hg _ => Below.heap_setCell _ _ _ _ (by dsimp only; omega))
          · rw [hnx.out, map_putAt, ← HX.out]
            exact owns_blocks I9.out (fun g hg _ => Below.heap_setCell _ _ _ _ (by dsimp only; omega))
          · exact K9.out.set (Or.inl rfl) _
        case measure => go_light; simp [intOf]; omega
    · obtain rfl : k = L.length := by omega
      obtain ⟨q0, q1, qz, qlt⟩ := hP.out
      have hAl := own_ints hA.out
      have hIl := own_ints hI.out
      rw [List.take_length] at hAl hIl
      have hc1 : (ordF f L).length = L.length := ordF_len f L
      have hc2 : ((ordF f L).map (idR f)).length = L.length := by simpa using hc1
      rw [hc1] at hAl
      rw [hc2] at hIl
      obtain ⟨aa, ac, rfl, _⟩ := hAl.slice
      obtain ⟨ia, ic, rfl, _⟩ := hIl.slice
      have HAl := Lib.hid hAl
      have HIl := Lib.hid hIl
      have hrn : ¬ (w.heap.size = pb ∨ w2.heap.size ≤ w.heap.size) := by have := HPB.out; omega
      have hrz : w.heap.size < w2.heap.size := by omega
      have s0 := (World.cell?_of_block (a := ⟨w.heap.size, 0, none⟩) (hK.out.block _ hrz hrn)).trans k0
      have s1 := (World.cell?_of_block (a := ⟨w.heap.size, 1, none⟩) (hK.out.block _ hrz hrn)).trans k1
      have sz0 := (World.frozen?_of_block (a := ⟨w.heap.size, 0, none⟩) (hK.out.block _ hrz hrn)).trans (r0 0)
      have sz1 := (World.frozen?_of_block (a := ⟨w.heap.size, 1, none⟩) (hK.out.block _ hrz hrn)).trans (r0 1)
      have slt : w.heap.size < wr.heap.size := Nat.lt_of_lt_of_le hrz hK.out.size
      have BWr := BW.out wr hK.out
      clear hAl hIl k0 k1 r0 hrn
      go_wp2_with fail
      refine bodyPost_ret (v := .agg #[.slice aa L.length ac, .slice ia L.length ic]) ?_ rfl (HP.out _ _ ⟨_, _, rfl, ?_, ?_, ?_⟩)
      · have t0 : ((wr.setCell ⟨w.heap.size, 0, none⟩ (.slice aa L.length ac)).setCell ⟨w.heap.size, 1, none⟩ (.slice ia L.length ic)).cell? ⟨w.heap.size, 0, none⟩ = some (.slice aa L.length ac) := by
          rw [cell_set_off _ _ _ _ _ (by decide)]; exact set_at s0
        have t1 : ((wr.setCell ⟨w.heap.size, 0, none⟩ (.slice aa L.length ac)).setCell ⟨w.heap.size, 1, none⟩ (.slice ia L.length ic)).cell? ⟨w.heap.size, 1, none⟩ = some (.slice ia L.length ic) :=
          set_at (by rw [cell_set_off _ _ _ _ _ (by decide)]; exact s1)
        simp [results, Tryz.results11, go_sem, t0, t1]
      · rw [hc1]
        exact ((HAl.out.set (by dsimp only; omega) _).set (by dsimp only; omega) _).base (by omega)
      · rw [hc1]
        exact ((HIl.out.set (by dsimp only; omega) _).set (by dsimp only; omega) _).base (by omega)
      · exact bel_set (bel_set BWr (Nat.le_refl _) _) (Nat.le_refl _) _
end Go.Proofs.YtidlmlecgjoddaaGreatDoor
namespace Go.Proofs.YtidlmlecgjoddaaGreatDoor
open Go.RowKit Go.Maps Go.Sort
set_option linter.unusedVariables false
set_option linter.unusedSimpArgs false
attribute [local go_sem] later_cell later_frozen later_lt

/-- Number i, round the circle. -/
def cAt (c : List Int) (i : Int) : Int := nth c (i % (c.length : Int)).toNat
theorem circ_at (w : World) (c : List Int) (av iv : Value) (hc : SlAt 0 (fun i => .int .i64 (nth c i)) c.length w av) (h0 : 0 < c.length) (hl : c.length ≤ 1000) (i : Int) (hi : -1 ≤ i) (hi2 : i ≤ 2000) :
    Calls Tryz.prog 84 #[.agg #[av, iv], .int .i64 i] w fun e w' => e = .returned (.int .i64 (cAt c i)) ∧ RowKit.Below w.heap.size w w' := by
  obtain ⟨aa, ac, rfl, _⟩ := hc.slice
  obtain ⟨n, hn⟩ : ∃ n, n = c.length := ⟨_, rfl⟩
  have HC := Lib.hid hc
  rw [← hn] at hc h0 hl ⊢
  obtain ⟨r, hr, hr1, hr2⟩ : ∃ r, i.tmod (n : Int) = r ∧ -(n : Int) < r ∧ r < (n : Int) := ⟨_, rfl, by have := Int.lt_tmod_of_pos i (show (0 : Int) < n by omega); omega, by have := Int.tmod_lt_of_pos i (show (0 : Int) < n by omega); omega⟩
  obtain ⟨j, hj, hjn⟩ : ∃ j : Nat, (i % (n : Int)) = (j : Int) ∧ j < n := ⟨(i % (n : Int)).toNat, by have := Int.emod_nonneg i (show (n : Int) ≠ 0 by omega); omega, by have := Int.emod_lt_of_pos i (show (0 : Int) < n by omega); have := Int.emod_nonneg i (show (n : Int) ≠ 0 by omega); omega⟩
  have ht : (r + (n : Int)).tmod (n : Int) = (j : Int) := by
    rw [Int.tmod_eq_emod_of_nonneg (by omega), ← hj, ← hr]
    rw [Int.add_emod_right]
    by_cases hi0 : 0 ≤ i
    · rw [Int.tmod_eq_emod_of_nonneg hi0, Int.emod_emod]
    · obtain rfl : i = -1 := by omega
      rw [show (-1 : Int).tmod (n : Int) = -(1 % (n : Int)) from by rw [Int.neg_tmod, Int.tmod_eq_emod_of_nonneg (by omega)]]
      by_cases h1 : n = 1
      · subst h1; rfl
      · rw [show (1 : Int) % (n : Int) = 1 from Int.emod_eq_of_lt (by omega) (by omega)]
  have hE : Hid (cAt c i = nth c j) := show cAt c i = nth c j by unfold cAt; rw [← hn, hj]; rfl
  obtain ⟨b, off, rfl, _, hb, hcell⟩ := HC.out.at j (by omega) w (RowKit.Below.refl _ _)
  have hn0 : ¬ ((n : Int) = 0) := by omega
  have hz : Hid (∀ wr, RowKit.Below w.heap.size w wr → wr.cell? ⟨b, off + j, none⟩ = some (.int .i64 (nth c j)) ∧ b < wr.heap.size) := fun wr hB => ⟨(hB.cell (p := ⟨b, off + j, none⟩) hb).trans hcell, Nat.lt_of_lt_of_le hb hB.size⟩
  clear hc hj HC hn
  go_enter Tryz.func84, Tryz.ntmps84
  go_wp2_with fail
  refine wp_region_calm (by kernel_rfl) (by kernel_rfl) ?_
  repeat (first | (go_big_quiet_step ((fail))) | (refine wpQuiet_step (fun K hK => ?_); go_simp; first | (refine hK _ ?_; clear hK K) | (apply Exists.intro; refine ⟨fun _ => ?_, hK _ ?_⟩; (fail); clear hK K)))
  refine wpQuiet_nil ?_
  intro _ hw'
  obtain ⟨xq, hw''⟩ := hw'
  subst hw''
  go_wp2_with fail
  go_ret
  exact ⟨by rw [hE.out]; first | done | rfl, by (repeat (first | exact Below.refl _ _ | (with_reducible assumption) | (with_reducible refine bel_later ?_ _) | (with_reducible refine bel_alloc ?_ _) | (with_reducible refine bel_drew ?_) | (with_reducible refine bel_drewN ?_ _) | (with_reducible refine bel_set ?_ (by first | (simp; done) | (simp; omega) | (dsimp only; omega)) _)))⟩
theorem circ_lenC (w : World) (aa : Option Addr) (n ac : Nat) (iv : Value) : Calls Tryz.prog 39 #[.agg #[.slice aa n ac, iv]] w fun e w' => e = .returned (.int .i64 n) ∧ RowKit.Below w.heap.size w w' := by
  go_enter Tryz.func39, Tryz.ntmps39
  go_wp2
  go_ret
  exact ⟨rfl, by (repeat (first | exact Below.refl _ _ | (with_reducible assumption) | (with_reducible refine bel_later ?_ _) | (with_reducible refine bel_alloc ?_ _) | (with_reducible refine bel_drew ?_) | (with_reducible refine bel_drewN ?_ _) | (with_reducible refine bel_set ?_ (by first | (simp; done) | (simp; omega) | (dsimp only; omega)) _)))⟩

theorem indexi_any (w : World) (v : Value) (l : List Int) (h : SlAt 0 (fun i => .int .i64 (nth l i)) l.length w v) (hl : l.length ≤ 4000000000) (x : Int) :
    Calls Tryz.prog 83 #[v, .int .i64 x] w fun e w' => e = .returned (.int .i64 (idxI l x)) ∧ w = w' := by
  rcases h.parts with ⟨h0, a, cap, rfl, _⟩ | ⟨h0, b, off, cap, rfl, h1, h2, _, _, hc⟩
  · have e : idxI l x = -1 := by rw [List.length_eq_zero_iff.1 h0]; rfl
    rw [e]
    exact (AnyE.slices_Index_empty Tryz.indexI a cap (.int .i64 x) w).mono fun e w' h => ⟨h.1, h.2.symm⟩
  · have := AnyE.slices_Index Tryz.indexI (Value.int .i64) (fun x y => x == y) (EqlAt.int _ _ .i64) b off l.length cap l x w (Nat.le_refl _) (by omega) (fun j hj => by rw [getL]; exact hc j hj)
    rw [List.take_length] at this
    exact Calls.mono this fun e w' h => ⟨h.1, h.2.symm⟩
theorem equali_any (w : World) (av bv : Value) (l m : List Int) (ha : SlAt 0 (fun i => .int .i64 (nth l i)) l.length w av) (hb : SlAt 0 (fun i => .int .i64 (nth m i)) m.length w bv) (hlm : l.length ≤ 4000000000) :
    Calls Tryz.prog 143 #[av, bv] w fun e w' => e = .returned (.bool (sameI l m)) ∧ RowKit.Below w.heap.size w w' := by
  obtain ⟨aa, ac, rfl, hac, _, _, ha⟩ := ha
  obtain ⟨ba, bc, rfl, hbc, _, _, hb⟩ := hb
  by_cases h : l.length = m.length
  · have hne : ((l.length : Int) != (m.length : Int)) = false := by simp [h]
    have hE := Lib.hid h
    have hm0 : m.length ≤ 4000000000 := by omega
    have hc := Lib.hid fun (k : Nat) (hk : k < l.length) (wr : World) (hB : RowKit.Below w.heap.size w wr) => (by
      obtain ⟨b, off, rfl, _, h1, h2⟩ := ha.resolve_left (by omega)
      obtain ⟨b', off', rfl, _, h1', h2'⟩ := hb.resolve_left (by omega)
      exact ⟨b, off, b', off', rfl, rfl, Nat.lt_of_lt_of_le h1 hB.size, Nat.lt_of_lt_of_le h1' hB.size, (hB.cell (p := ⟨b, off + k, none⟩) h1).trans (h2 k hk), (hB.cell (p := ⟨b', off' + k, none⟩) h1').trans (h2' k (by omega))⟩ :
        ∃ b off b' off' : Nat, aa = some ⟨b, off, none⟩ ∧ ba = some ⟨b', off', none⟩ ∧ b < wr.heap.size ∧ b' < wr.heap.size ∧ wr.cell? ⟨b, off + k, none⟩ = some (.int .i64 (nth l k)) ∧ wr.cell? ⟨b', off' + k, none⟩ = some (.int .i64 (nth m k)))
    clear ha hb h
    go_enter Tryz.func143, Tryz.ntmps143
    go_wp2
    go_loopw [5, 13] (fun _ i wr => ∃ k : Nat, k ≤ l.length ∧ i = .int .i64 k ∧ RowKit.Below w.heap.size w wr ∧ Hid (∀ j, j < k → nth l j = nth m j)) (fun _ i _ => l.length - (intOf i).toNat)
    case atStart => exact ⟨0, Nat.zero_le _, rfl, RowKit.Below.refl _ _, fun j hj => absurd hj (by omega)⟩
    case round =>
      obtain ⟨k, hk, rfl, hB, hall⟩ := hrel
      by_cases hlt : k < l.length
      · obtain ⟨b, off, b', off', rfl, rfl, hb1, hb2, c1, c2⟩ := hc.out k hlt wr hB
        have hkm : k < m.length := by have := hE.out; omega
        go_wp2
        refine wp_region_calm (by kernel_rfl) (by kernel_rfl) ?_
        repeat (first | (go_big_quiet_step ((fail))) | (refine wpQuiet_step (fun K hK => ?_); go_simp; first | (refine hK _ ?_; clear hK K) | (apply Exists.intro; refine ⟨fun _ => ?_, hK _ ?_⟩; (fail); clear hK K)))
        refine wpQuiet_nil ?_
        intro _ hw'
        obtain ⟨xq, hw''⟩ := hw'
        subst hw''
        go_wp2
        · have h1 : (nth l k != nth m k) = true := by assumption
          go_ret
          exact ⟨by rw [sameI_at (bne_iff_ne.1 h1)]; first | done | rfl, by (repeat (first | exact Below.refl _ _ | (with_reducible assumption) | (with_reducible refine bel_later ?_ _) | (with_reducible refine bel_alloc ?_ _) | (with_reducible refine bel_drew ?_) | (with_reducible refine bel_drewN ?_ _) | (with_reducible refine bel_set ?_ (by first | (simp; done) | (simp; omega) | (dsimp only; omega)) _)))⟩
        · have h1 : (nth l k != nth m k) = false := by assumption
          go_roundw
          case rel =>
            go_light
            refine ⟨k + 1, by omega, by go_num, by (repeat (first | exact Below.refl _ _ | (with_reducible assumption) | (with_reducible refine bel_later ?_ _) | (with_reducible refine bel_alloc ?_ _) | (with_reducible refine bel_drew ?_) | (with_reducible refine bel_drewN ?_ _) | (with_reducible refine bel_set ?_ (by first | (simp; done) | (simp; omega) | (dsimp only; omega)) _))), fun j hj => ?_⟩
            by_cases e : j = k
            · subst e; exact bne_eq_false_iff_eq.1 h1
            · exact hall.out j (by omega)
          case measure => go_light; simp [intOf]; omega
      · go_wp2
        go_ret
        obtain rfl : k = l.length := by omega
        exact ⟨by rw [sameI_all hE.out hall.out]; first | done | rfl, hB⟩
  · have hne : ((l.length : Int) != (m.length : Int)) = true := by simp; omega
    have hE := Lib.hid (sameI_len h)
    clear ha hb h
    go_enter Tryz.func143, Tryz.ntmps143
    go_wp2
    go_ret
    exact ⟨by rw [hE.out]; first | done | rfl, RowKit.Below.refl _ _⟩

/-- Do two members know the same? -/
def sameK (i1 p1 : Int) (l1 : List Int) (i2 p2 : Int) (l2 : List Int) : Bool := i1 == i2 && (p1 == p2 && sameI l1 l2)
set_option maxRecDepth 100000 in
theorem samep_any (w : World) (i1 p1 : Int) (v1 : Value) (l1 : List Int) (i2 p2 : Int) (v2 : Value) (l2 : List Int) (h1 : SlAt 0 (fun i => .int .i64 (nth l1 i)) l1.length w v1) (h2 : SlAt 0 (fun i => .int .i64 (nth l2 i)) l2.length w v2) (hl : l1.length ≤ 4000000000) :
    Calls Tryz.prog 101 #[.agg #[.int .u64 i1, .int .i64 p1, v1], .agg #[.int .u64 i2, .int .i64 p2, v2]] w fun e w' => e = .returned (.bool (sameK i1 p1 l1 i2 p2 l2)) ∧ RowKit.Below w.heap.size w w' := by
  have CE := Lib.hid (fun wr (hb : RowKit.Below w.heap.size w wr) => equali_any wr v1 v2 l1 l2 (h1.below hb) (h2.below hb) hl)
  obtain ⟨a1, c1, rfl, _⟩ := h1.slice
  obtain ⟨a2, c2, rfl, _⟩ := h2.slice
  unfold sameK
  clear h1 h2
  cases q1 : i1 == i2 with
  | false =>
    go_enter Tryz.func101, Tryz.ntmps101
    go_wp2_with fail
    go_ret
    exact ⟨by simp, by (repeat (first | exact Below.refl _ _ | (with_reducible assumption) | (with_reducible refine bel_later ?_ _) | (with_reducible refine bel_alloc ?_ _) | (with_reducible refine bel_drew ?_) | (with_reducible refine bel_drewN ?_ _) | (with_reducible refine bel_set ?_ (by first | (simp; done) | (simp; omega) | (dsimp only; omega)) _)))⟩
  | true =>
    cases q2 : p1 == p2 with
    | false =>
      go_enter Tryz.func101, Tryz.ntmps101
      go_wp2_with fail
      go_ret
      exact ⟨by simp, by (repeat (first | exact Below.refl _ _ | (with_reducible assumption) | (with_reducible refine bel_later ?_ _) | (with_reducible refine bel_alloc ?_ _) | (with_reducible refine bel_drew ?_) | (with_reducible refine bel_drewN ?_ _) | (with_reducible refine bel_set ?_ (by first | (simp; done) | (simp; omega) | (dsimp only; omega)) _)))⟩
    | true =>
      go_enter Tryz.func101, Tryz.ntmps101
      go_wp2_with fail
      refine (CE.out _ (by (repeat (first | exact Below.refl _ _ | (with_reducible assumption) | (with_reducible refine bel_later ?_ _) | (with_reducible refine bel_alloc ?_ _) | (with_reducible refine bel_drew ?_) | (with_reducible refine bel_drewN ?_ _) | (with_reducible refine bel_set ?_ (by first | (simp; done) | (simp; omega) | (dsimp only; omega)) _))))).mono ?_
      rintro e w1 ⟨rfl, hB1⟩
      have B1 := Lib.hid (bel_below (bel_alloc (bel_alloc (RowKit.Below.refl _ w) _) _) hB1)
      clear hB1
      go_wp2_with fail
      go_ret
      exact ⟨by simp, B1.out⟩
end Go.Proofs.YtidlmlecgjoddaaGreatDoor
namespace Go.Proofs.YtidlmlecgjoddaaGreatDoor
open Go.RowKit Go.Maps Go.Sort
set_option linter.unusedVariables false
set_option linter.unusedSimpArgs false
attribute [local go_sem] later_cell later_frozen later_lt cell_set_off cell_set_block

/-- Who comes behind number i of a circle: j of them. -/
def cSuc (c : List Int) (i : Int) (j : Nat) : List Int := (List.range j).map fun t : Nat => cAt c (i + 1 + (t : Int))
def cNum (c : List Int) : Nat := min 3 (c.length - 1)
/-- What an address should know: told so, or that it is none. -/
def KnowPost (w : World) (c ids : List Int) (n : Int) (e : Ending) (w' : World) : Prop :=
  if idxI c n < 0 then e = .returned (.tuple #[.agg #[.int .u64 0, .int .i64 0, .slice none 0 0], .bool false]) ∧ RowKit.Below w.heap.size w w'
  else ∃ v, e = .returned (.tuple #[.agg #[.int .u64 (nth ids (idxI c n).toNat), .int .i64 (cAt c (idxI c n - 1)), v], .bool true]) ∧
    SlAt w.heap.size (fun i => .int .i64 (nth (cSuc c (idxI c n) (cNum c)) i)) (cNum c) w' v ∧ RowKit.Below w.heap.size w w'
theorem idxI_cases (c : List Int) (n : Int) : idxI c n = -1 ∨ ∃ i : Nat, i < c.length ∧ idxI c n = i ∧ nth c i = n := by
  unfold idxI Lib.idxBy
  have key : ∀ (l : List Int) (s : Nat), Lib.idxByFrom (fun x y : Int => x == y) n l s = -1 ∨ ∃ i : Nat, i < l.length ∧ Lib.idxByFrom (fun x y : Int => x == y) n l s = ((s + i : Nat) : Int) ∧ nth l i = n := by
    intro l
    induction l with
    | nil => intro s; exact Or.inl rfl
    | cons a l ih =>
      intro s
      by_cases h : n = a
      · exact Or.inr ⟨0, by simp, by simp [Lib.idxByFrom, h], by simp [nth_zero, h]⟩
      · rcases ih (s + 1) with h2 | ⟨i, h2, h3, h4⟩
        · exact Or.inl (by simp [Lib.idxByFrom, h, h2])
        · exact Or.inr ⟨i + 1, by simp; omega, by simp [Lib.idxByFrom, h, h3]; omega, by simpa [nth_succ] using h4⟩
  rcases key c 0 with h | ⟨i, h1, h2, h3⟩
  · exact Or.inl h
  · exact Or.inr ⟨i, h1, by simpa using h2, h3⟩

theorem cSuc_len (c : List Int) (i : Int) (j : Nat) : (cSuc c i j).length = j := by simp [cSuc]
set_option maxRecDepth 100000 in
set_option maxHeartbeats 8000000 in
theorem cpeer_at (w : World) (c ids : List Int) (av iv : Value) (hc : SlAt 0 (fun i => .int .i64 (nth c i)) c.length w av) (hi : SlAt 0 (fun i => .int .u64 (nth ids i)) ids.length w iv) (hci : ids.length = c.length) (hl : c.length ≤ 1000) (n : Int) :
    Calls Tryz.prog 24 #[.agg #[av, iv], .int .i64 n] w (KnowPost w c ids n) := by
  obtain ⟨i00, hi00, hz00, hz01, hz02⟩ : ∃ i0, Tryz.prog.info? 3 = some i0 ∧ i0.zero = some (Value.int .i64 0) ∧ i0.size = 1 ∧ i0.bytes = 8 := ⟨intI, intI_at, by kernel_rfl, by kernel_rfl, by kernel_rfl⟩
  have CX := Lib.hid (fun wr (hb : RowKit.Below w.heap.size w wr) => indexi_any wr av c (hc.below hb) (by omega) n)
  have CA := Lib.hid (fun (h0 : 0 < c.length) wr (hb : RowKit.Below w.heap.size w wr) (i : Int) (h1 : -1 ≤ i) (h2 : i ≤ 2000) => circ_at wr c av iv (hc.below hb) h0 hl i h1 h2)
  obtain ⟨aa, ac, rfl, _⟩ := hc.slice
  obtain ⟨ia, ic, rfl, _⟩ := hi.slice
  have HI := Lib.hid hi
  rw [hci] at CA ⊢
  rcases idxI_cases c n with hx | ⟨i0, hi1, hx, hi3⟩
  · rw [hx] at CX
    have HP : Hid (∀ e w', (e = .returned (.tuple #[.agg #[.int .u64 0, .int .i64 0, .slice none 0 0], .bool false]) ∧ RowKit.Below w.heap.size w w') → KnowPost w c ids n e w') := fun e w' h => by unfold KnowPost; rw [hx, if_pos (by decide)]; exact h
    clear hc hi hx
    go_enter Tryz.func24, Tryz.ntmps24
    go_wp2_with fail
    refine (CX.out _ (by (repeat (first | exact Below.refl _ _ | (with_reducible assumption) | (with_reducible refine bel_later ?_ _) | (with_reducible refine bel_alloc ?_ _) | (with_reducible refine bel_drew ?_) | (with_reducible refine bel_drewN ?_ _) | (with_reducible refine bel_set ?_ (by first | (simp; done) | (simp; omega) | (dsimp only; omega)) _))))).mono ?_
    rintro e w1 ⟨rfl, rfl⟩
    go_wp2_with fail
    refine bodyPost_ret (v := .tuple #[.agg #[.int .u64 0, .int .i64 0, .slice none 0 0], .bool false]) ?_ rfl (HP.out _ _ ⟨rfl, ?_⟩)
    · simp [results, Tryz.results24, go_sem]
    · (repeat (first | exact Below.refl _ _ | (with_reducible assumption) | (with_reducible refine bel_later ?_ _) | (with_reducible refine bel_alloc ?_ _) | (with_reducible refine bel_drew ?_) | (with_reducible refine bel_drewN ?_ _) | (with_reducible refine bel_set ?_ (by first | (simp; done) | (simp; omega) | (dsimp only; omega)) _)))
  · rw [hx] at CX
    have hc0 : 0 < c.length := by omega
    have HP : Hid (∀ e w' v, e = .returned (.tuple #[.agg #[.int .u64 (nth ids i0), .int .i64 (cAt c ((i0 : Int) - 1)), v], .bool true]) → SlAt w.heap.size (fun t => .int .i64 (nth (cSuc c i0 (cNum c)) t)) (cNum c) w' v → RowKit.Below w.heap.size w w' → KnowPost w c ids n e w') :=
      fun e w' v h1 h2 h3 => by unfold KnowPost; rw [hx, if_neg (by omega)]; exact ⟨v, by simpa using h1, h2, h3⟩
    obtain ⟨b, off, rfl, _, hb, hcell⟩ := HI.out.at i0 (by omega) w (RowKit.Below.refl _ _)
    obtain ⟨id, hid⟩ : ∃ id, id = nth ids i0 := ⟨_, rfl⟩
    obtain ⟨pr, hpr⟩ : ∃ pr, pr = cAt c ((i0 : Int) - 1) := ⟨_, rfl⟩
    have CP := Lib.hid (fun wr (hb : RowKit.Below w.heap.size w wr) => CA.out hc0 wr hb ((i0 : Int) - 1) (by omega) (by omega))
    rw [← hid] at hcell HP
    rw [← hpr] at HP CP
    clear hc hi hx hi3 hid hpr HI
    go_enter Tryz.func24, Tryz.ntmps24
    go_wp2_with fail
    refine (CX.out _ (by (repeat (first | exact Below.refl _ _ | (with_reducible assumption) | (with_reducible refine bel_later ?_ _) | (with_reducible refine bel_alloc ?_ _) | (with_reducible refine bel_drew ?_) | (with_reducible refine bel_drewN ?_ _) | (with_reducible refine bel_set ?_ (by first | (simp; done) | (simp; omega) | (dsimp only; omega)) _))))).mono ?_
    rintro e w1 ⟨rfl, rfl⟩
    obtain ⟨wr, hwr⟩ : ∃ z, z = (w.alloc (.cells #[.slice aa c.length ac, .slice (some ⟨b, off, none⟩) c.length ic] 38)).alloc (.cells #[.int .u64 0, .int .i64 0, .slice none 0 0] 67) := ⟨_, rfl⟩
    have c0 : wr.cell? ⟨w.heap.size, 0, none⟩ = some (.slice aa c.length ac) := by rw [hwr]; simp [go_sem]
    have c1 : wr.cell? ⟨w.heap.size, 1, none⟩ = some (.slice (some ⟨b, off, none⟩) c.length ic) := by rw [hwr]; simp [go_sem]
    have rr0 : wr.cell? ⟨w.heap.size + 1, 0, none⟩ = some (.int .u64 0) := by rw [hwr]; simp [go_sem]
    have rr1 : wr.cell? ⟨w.heap.size + 1, 1, none⟩ = some (.int .i64 0) := by rw [hwr]; simp [go_sem]
    have rr2 : wr.cell? ⟨w.heap.size + 1, 2, none⟩ = some (.slice none 0 0) := by rw [hwr]; simp [go_sem]
    have rrz : ∀ o, wr.frozen? ⟨w.heap.size + 1, o, none⟩ = false := fun o => by rw [hwr]; simp [go_sem]
    have RR := Lib.hid (And.intro rr0 (And.intro rr1 (And.intro rr2 rrz)))
    clear rr0 rr1 rr2 rrz
    have Bw : RowKit.Below w.heap.size w wr := by rw [hwr]; (repeat (first | exact Below.refl _ _ | (with_reducible assumption) | (with_reducible refine bel_later ?_ _) | (with_reducible refine bel_alloc ?_ _) | (with_reducible refine bel_drew ?_) | (with_reducible refine bel_drewN ?_ _) | (with_reducible refine bel_set ?_ (by first | (simp; done) | (simp; omega) | (dsimp only; omega)) _)))
    have cid : wr.cell? ⟨b, off + i0, none⟩ = some (.int .u64 id) := (Bw.cell (p := ⟨b, off + i0, none⟩) hb).trans hcell
    have hbr : b < wr.heap.size := Nat.lt_of_lt_of_le hb Bw.size
    have hzr : w.heap.size + 2 = wr.heap.size := by rw [hwr]; simp
    have hzr0 : w.heap.size < wr.heap.size := by omega
    rw [← hwr]
    clear hwr
    go_wp2_with fail
    refine wp_region_heads [0, 1, 2, 3, 4, 5, 6, 7] 11 (fun w' => ∃ x : Later wr, w' = x.world) (by kernel_rfl) (by kernel_rfl) ⟨⟨{ wr with drawn := wr.drawn + 1 }, (RowKit.Below.refl _ _).drew⟩, rfl⟩ ?_ ?_
    · intro d v c a w h
      cases d <;> exact h
    · simp only [headOps]
      repeat (refine wpTame_step (fun K hK => ?_); go_simp; refine hK _ ?_; clear hK K)
      refine wpTame_nil ?_
      refine wpAnyC_step (f := 3) [8, 10] (by kernel_rfl) rfl rfl (fun i hi => ?_)
      simp only [List.mem_cons, List.not_mem_nil, or_false] at hi
      rcases hi with rfl | rfl
      · refine ⟨_, rfl, fun R hR => ?_⟩
        go_wp2_with fail
        refine (CP.out _ (bel_drew Bw)).mono ?_
        rintro e w6 ⟨rfl, hB6⟩
        have B6 : RowKit.Below wr.heap.size wr w6 := (bel_drew (RowKit.Below.refl _ _)).trans (hB6.mono (by simp))
        go_wp2_with fail
        refine hR _ _ ⟨⟨w6, B6⟩, rfl⟩ ?_
        clear hR R hB6
        refine wpAnyC_step (f := 2) [9, 10] (by kernel_rfl) rfl rfl (fun i hi => ?_)
        simp only [List.mem_cons, List.not_mem_nil, or_false] at hi
        obtain ⟨W, hW⟩ : ∃ z, z = w6.alloc (.cells #[.int .u64 0, .int .i64 0, .slice none 0 0] 67) := ⟨_, rfl⟩
        have BW : RowKit.Below wr.heap.size wr W := by rw [hW]; exact bel_alloc B6 _
        obtain ⟨pq, hpq⟩ : ∃ z, z = w6.heap.size := ⟨_, rfl⟩
        have b0 : W.cell? ⟨pq, 0, none⟩ = some (.int .u64 0) := by rw [hW, hpq]; simp [go_sem]
        have b1 : W.cell? ⟨pq, 1, none⟩ = some (.int .i64 0) := by rw [hW, hpq]; simp [go_sem]
        have b2 : W.cell? ⟨pq, 2, none⟩ = some (.slice none 0 0) := by rw [hW, hpq]; simp [go_sem]
        have bfz : ∀ o, W.frozen? ⟨pq, o, none⟩ = false := fun o => by rw [hW, hpq]; simp [go_sem]
        have bz : pq < W.heap.size := by rw [hW, hpq]; simp
        have bq : wr.heap.size ≤ pq := by rw [hpq]; exact B6.size
        have HW := Lib.hid hW
        have HPQ := Lib.hid hpq
        clear hW hpq
        rcases hi with rfl | rfl
        · refine ⟨_, rfl, fun R hR => ?_⟩
          go_wp2_with fail
          refine hR _ _ ⟨⟨w6, B6⟩, rfl⟩ ?_
          clear hR R
          refine wpAnyC_step (f := 1) [10] (by kernel_rfl) rfl rfl (fun i hi => ?_)
          simp only [List.mem_cons, List.not_mem_nil, or_false] at hi
          subst hi
          refine ⟨_, rfl, fun R hR => ?_⟩
          go_wp2_with fail
          rw [← HPQ.out, ← HW.out]
          refine hR _ _ ⟨⟨W, BW⟩, rfl⟩ ?_
          clear hR R
          refine wpAnyC_end (k := 11) (by decide) rfl rfl (by kernel_rfl) ?_
          have bfz0 := bfz 0
          have bfz1 := bfz 1
          have bfz2 := bfz 2
          have t1 : (W.setCell ⟨pq, 0, none⟩ (.int .u64 id)).cell? ⟨pq, 1, none⟩ = some (.int .i64 0) := by rw [cell_set_off _ _ _ _ _ (by decide)]; exact b1
          have t2 : ((W.setCell ⟨pq, 0, none⟩ (.int .u64 id)).setCell ⟨pq, 1, none⟩ (.int .i64 pr)).cell? ⟨pq, 2, none⟩ = some (.slice none 0 0) := by rw [cell_set_off _ _ _ _ _ (by decide), cell_set_off _ _ _ _ _ (by decide)]; exact b2
          obtain ⟨W5, hW5⟩ : ∃ z, z = ((W.setCell ⟨pq, 0, none⟩ (.int .u64 id)).setCell ⟨pq, 1, none⟩ (.int .i64 pr)).setCell ⟨pq, 2, none⟩ (.slice none 0 0) := ⟨_, rfl⟩
          have P5 : Hid (W5.cell? ⟨pq, 0, none⟩ = some (.int .u64 id) ∧ W5.cell? ⟨pq, 1, none⟩ = some (.int .i64 pr) ∧ W5.cell? ⟨pq, 2, none⟩ = some (.slice none 0 0) ∧ (∀ o, W5.frozen? ⟨pq, o, none⟩ = false) ∧ pq < W5.heap.size) := by
            show _ ∧ _
            rw [hW5]
            refine ⟨?_, ?_, set_at t2, fun o => by rw [World.frozen?_setCell, World.frozen?_setCell, World.frozen?_setCell]; exact bfz o, by rw [size_set, size_set, size_set]; exact bz⟩
            · rw [cell_set_off _ _ _ _ _ (by decide), cell_set_off _ _ _ _ _ (by decide)]; exact set_at b0
            · rw [cell_set_off _ _ _ _ _ (by decide)]; exact set_at t1
          have B5 : Hid (RowKit.Below wr.heap.size wr W5) := by rw [hW5]; exact bel_set (bel_set (bel_set BW bq _) bq _) bq _
          have HW5 := Lib.hid hW5
          clear hW5 BW
          obtain ⟨d0, d1, d2, dz, dlt⟩ := P5.out
          have DC0 := Lib.hid ((B5.out.cell (p := ⟨w.heap.size, 0, none⟩) hzr0).trans c0)
          have DC1 := Lib.hid ((B5.out.cell (p := ⟨w.heap.size, 1, none⟩) hzr0).trans c1)
          have hc05 := DC0.out
          have hc15 := DC1.out
          have hz05 : w.heap.size < W5.heap.size := Nat.lt_of_lt_of_le hzr0 B5.out.size
          go_upto_region 5 with (fail)
          rw [← HW5.out]
          have KC0 := Lib.hid c0
          have KC1 := Lib.hid c1
          clear t1 t2 b0 b1 b2 bfz bfz0 bfz1 bfz2 c0 c1 cid HW5
          go_wp2_with fail
          refine (circ_lenC _ _ _ _ _).mono ?_
          rintro e w6 ⟨rfl, hB6⟩
          obtain ⟨m, hm⟩ : ∃ m, m = cNum c := ⟨_, rfl⟩
          have hmin : min (3 : Int) ((c.length : Int) - 1) = (m : Int) := by rw [hm]; unfold cNum; omega
          have hm3 : m ≤ 3 := by rw [hm]; unfold cNum; omega
          have hpos : 1 ≤ c.length := by omega
          have HM := Lib.hid hm
          have B6 := Lib.hid (bel_below B5.out hB6)
          have P6 : Hid (w6.cell? ⟨pq, 0, none⟩ = some (.int .u64 id) ∧ w6.cell? ⟨pq, 1, none⟩ = some (.int .i64 pr) ∧ w6.cell? ⟨pq, 2, none⟩ = some (.slice none 0 0) ∧ (∀ o, w6.frozen? ⟨pq, o, none⟩ = false) ∧ pq < w6.heap.size) :=
            ⟨(hB6.cell (p := ⟨pq, 0, none⟩) dlt).trans d0, (hB6.cell (p := ⟨pq, 1, none⟩) dlt).trans d1, (hB6.cell (p := ⟨pq, 2, none⟩) dlt).trans d2, fun o => (hB6.frozen (p := ⟨pq, o, none⟩) dlt).trans (dz o), Nat.lt_of_lt_of_le dlt hB6.size⟩
          have KW := Lib.hid (fun wq (hb : RowKit.Below pq w6 wq) => (Bw.trans ((B6.out.mono (Nat.le_of_lt hzr0)).trans (hb.mono (by omega))) : RowKit.Below w.heap.size w wq))
          have KB := Lib.hid (fun wq (hb : RowKit.Below pq w6 wq) => (⟨(hb.cell (p := ⟨w.heap.size, 0, none⟩) (by dsimp only; omega)).trans ((B6.out.cell (p := ⟨w.heap.size, 0, none⟩) hzr0).trans KC0.out), (hb.cell (p := ⟨w.heap.size, 1, none⟩) (by dsimp only; omega)).trans ((B6.out.cell (p := ⟨w.heap.size, 1, none⟩) hzr0).trans KC1.out)⟩ :
            wq.cell? ⟨w.heap.size, 0, none⟩ = some (.slice aa c.length ac) ∧ wq.cell? ⟨w.heap.size, 1, none⟩ = some (.slice (some ⟨b, off, none⟩) c.length ic)))
          clear hm hB6 hc05 hc15 hz05 d0 d1 d2 dz dlt DC0 DC1 P5
          go_wp2_with fail
          go_loopw [8, 30] (fun _ i wq => ∃ (j : Nat) (sv : Value), j ≤ m ∧ i = .int .i64 j ∧ Hid (wq.cell? ⟨pq, 0, none⟩ = some (.int .u64 id) ∧ wq.cell? ⟨pq, 1, none⟩ = some (.int .i64 pr) ∧ wq.cell? ⟨pq, 2, none⟩ = some sv ∧ (∀ o, wq.frozen? ⟨pq, o, none⟩ = false) ∧ pq < wq.heap.size) ∧
              Hid (wq.ownsRow (pq + 1) 3 1 sv j ((cSuc c i0 j).map (Value.int .i64))) ∧ Hid (RowKit.Below pq w6 wq)) (fun _ i _ => m - (intOf i).toNat)
          case atStart => exact ⟨0, _, by omega, rfl, P6.out, World.ownsRow_nil _ _ _ _, RowKit.Below.refl _ _⟩
          case round =>
            obtain ⟨j, sv, hj, rfl, hP, hO, hK2⟩ := hrel
            by_cases hj3 : j < m
            · obtain ⟨c0, c1, c2, fz, hpw⟩ := hP.out
              obtain ⟨bc0, bc1⟩ := KB.out _ hK2.out
              have bcz : w.heap.size < wr.heap.size := Nat.lt_of_lt_of_le (by have := B6.out.size; omega) hK2.out.size
              have ca2 := Lib.hid (fun wq' (hK' : RowKit.Below pq w6 wq') => CA.out hc0 wq' (KW.out wq' hK') ((i0 : Int) + 1 + (j : Int)) (by omega) (by omega))
              go_wp2_with fail
              refine wp_region_tame 7 9 (fun w' => ∃ x : Later wr, w' = x.world) (by kernel_rfl) (by kernel_rfl) ⟨⟨{ wr with drawn := wr.drawn + 1 }, (RowKit.Below.refl _ _).drew⟩, rfl⟩ ?_ ?_
              · intro d v c a w h
                cases d <;> exact h
              · simp only [List.take_succ_cons, List.take_zero, List.drop_succ_cons, List.drop_zero]
                repeat (refine wpTame_step (fun K hK => ?_); go_simp; refine hK _ ?_; clear hK K)
                refine wpTame_nil ?_
                refine wpSeqC_step (by decide) (fun R hR => ?_)
                go_wp2_with fail
                refine (ca2.out _ hK2.out.drew).mono ?_
                rintro e w8 ⟨rfl, hB8⟩
                have B8 : RowKit.Below wr.heap.size wr w8 := (bel_drew (RowKit.Below.refl _ _)).trans (hB8.mono (by simp))
                go_wp2_with fail
                refine hR _ _ ⟨⟨w8, B8⟩, rfl⟩ ?_
                clear hR R
                refine wpSeqC_step (by decide) (fun R hR => ?_)
                go_wp2_with fail
                refine hR _ _ ⟨⟨_, bel_alloc B8 _⟩, rfl⟩ ?_
                clear hR R
                refine wpSeqC_list (by decide) ?_
                have O8 := Lib.hid (owns_below hO.out B8)
                have hp8 : pq < w8.heap.size := Nat.lt_of_lt_of_le hpw B8.size
                go_wp2_with (at_builtin; refine wpList_app rfl _ _ 36 rfl (pq + 1) 3 i00 (.int .i64 0) 8 Tryz.underlying36 hi00 hz00 hz01 hz02 rfl _ j _ rfl (O8.out.alloc _) 0 _ 1 _ rfl (sl_new _ .i64 [cAt c ((i0 : Int) + 1 + (j : Int))] 3 _ 1 rfl rfl (by simp [maxLen])) (fun _ => rfl) ?qc1 ?qc2 ?qc3 ?_)
                case qc1 => simp only [maxLen]; omega
                case qc2 => omega
                case qc3 => simp; omega
                intro v7 w7 ho7 hg7
                have hown : ∀ q, sv.ownBlock = some q → pq + 1 ≤ q := fun q hq => (O8.out.lt q hq).1
                have B8a := bel_alloc B8 (.cells [Value.int IntKind.i64 (cAt c ((i0 : Int) + 1 + (j : Int)))].toArray 3)
                have hfar : ∀ b, b ≤ pq → w7.heap[b]? = wr.heap[b]? := fun b hb' => by
                  rw [hg7.block b (by simp; omega) (fun e => by have := hown b e.symm; omega)]
                  exact B8a.block b (by omega)
                have hp7 : pq < w7.heap.size := by have := hg7.size; simp at this; omega
                have d0 := (World.cell?_of_block (a := ⟨pq, 0, none⟩) (hfar pq (Nat.le_refl _))).trans c0
                have d1 := (World.cell?_of_block (a := ⟨pq, 1, none⟩) (hfar pq (Nat.le_refl _))).trans c1
                have d2 := (World.cell?_of_block (a := ⟨pq, 2, none⟩) (hfar pq (Nat.le_refl _))).trans c2
                have dz : ∀ o, w7.frozen? ⟨pq, o, none⟩ = false := fun o => (World.frozen?_of_block (a := ⟨pq, o, none⟩) (hfar pq (Nat.le_refl _))).trans (fz o)
                have dz2 := dz 2
                have DZ := Lib.hid dz
                have hs7 := own_slAt ho7
                obtain ⟨a7, q7, rfl, _⟩ := hs7.slice
                have O7 := Lib.hid ho7
                have K7 : Hid (RowKit.Below pq w6 w7) := (hK2.out.trans (B8a.mono (Nat.le_of_lt hpw))).grown hg7 (by have := B8a.size; omega) (fun q hq => by have := hown q hq; omega)
                clear ho7 hg7 hs7 c0 c1 c2 hfar dz B8a fz
                go_wp2_with fail
                go_roundw
                case rel =>
                  refine ⟨j + 1, _, by omega, by go_num, ⟨?_, ?_, set_at d2, fun o => by rw [World.frozen?_setCell]; exact DZ.out o, by rw [size_set]; exact hp7⟩, ?_, ?_⟩
                  · rw [cell_set_off _ _ _ _ _ (by decide)]; exact d0
                  · rw [cell_set_off _ _ _ _ _ (by decide)]; exact d1
                  · refine owns_blocks (w := w7) ?_ (fun g hg _ => Below.heap_setCell _ _ _ _ (by dsimp only; omega))
                    have := O7.out
                    simpa [cSuc, List.range_succ, nth] using this
                  · exact K7.out.setCell (Nat.le_refl _) _
                case measure => go_light; simp [intOf]; omega
            · obtain rfl : j = m := by omega
              obtain ⟨c0, c1, c2, fz, hpw⟩ := hP.out
              have hs := own_ints hO.out
              rw [cSuc_len] at hs
              obtain ⟨a9, q9, rfl, _⟩ := hs.slice
              have HS := Lib.hid hs
              obtain ⟨s0, s1, s2, sz⟩ := RR.out
              have hpr1 : w.heap.size + 1 < pq := by omega
              have hz1w : w.heap.size + 1 < w6.heap.size := by have := P6.out.2.2.2.2; omega
              have u0 := (hK2.out.cell (p := ⟨w.heap.size + 1, 0, none⟩) hpr1).trans ((B6.out.cell (p := ⟨w.heap.size + 1, 0, none⟩) (by dsimp only; omega)).trans s0)
              have u1 := (hK2.out.cell (p := ⟨w.heap.size + 1, 1, none⟩) hpr1).trans ((B6.out.cell (p := ⟨w.heap.size + 1, 1, none⟩) (by dsimp only; omega)).trans s1)
              have u2 := (hK2.out.cell (p := ⟨w.heap.size + 1, 2, none⟩) hpr1).trans ((B6.out.cell (p := ⟨w.heap.size + 1, 2, none⟩) (by dsimp only; omega)).trans s2)
              have uz : ∀ o, wr.frozen? ⟨w.heap.size + 1, o, none⟩ = false := fun o => (hK2.out.frozen (p := ⟨w.heap.size + 1, o, none⟩) hpr1).trans ((B6.out.frozen (p := ⟨w.heap.size + 1, o, none⟩) (by dsimp only; omega)).trans (sz o))
              have uz0 := uz 0
              have uz1 := uz 1
              have uz2 := uz 2
              have ult : w.heap.size + 1 < wr.heap.size := Nat.lt_of_lt_of_le hz1w hK2.out.size
              have BWr := KW.out _ hK2.out
              clear s0 s1 s2 sz hs
              go_wp2_with fail
              refine bodyPost_ret (v := .tuple #[.agg #[.int .u64 id, .int .i64 pr, .slice a9 j q9], .bool true]) ?_ rfl (HP.out _ _ _ rfl ?_ ?_)
              · have y1 : (wr.setCell ⟨w.heap.size + 1, 0, none⟩ (.int .u64 id)).cell? ⟨w.heap.size + 1, 1, none⟩ = some (.int .i64 0) := by rw [cell_set_off _ _ _ _ _ (by decide)]; exact u1
                have y2 : ((wr.setCell ⟨w.heap.size + 1, 0, none⟩ (.int .u64 id)).setCell ⟨w.heap.size + 1, 1, none⟩ (.int .i64 pr)).cell? ⟨w.heap.size + 1, 2, none⟩ = some (.slice none 0 0) := by rw [cell_set_off _ _ _ _ _ (by decide), cell_set_off _ _ _ _ _ (by decide)]; exact u2
                have x0 : (((wr.setCell ⟨w.heap.size + 1, 0, none⟩ (.int .u64 id)).setCell ⟨w.heap.size + 1, 1, none⟩ (.int .i64 pr)).setCell ⟨w.heap.size + 1, 2, none⟩ (.slice a9 j q9)).cell? ⟨w.heap.size + 1, 0, none⟩ = some (.int .u64 id) := by
                  rw [cell_set_off _ _ _ _ _ (by decide), cell_set_off _ _ _ _ _ (by decide)]; exact set_at u0
                have x1 : (((wr.setCell ⟨w.heap.size + 1, 0, none⟩ (.int .u64 id)).setCell ⟨w.heap.size + 1, 1, none⟩ (.int .i64 pr)).setCell ⟨w.heap.size + 1, 2, none⟩ (.slice a9 j q9)).cell? ⟨w.heap.size + 1, 1, none⟩ = some (.int .i64 pr) := by
                  rw [cell_set_off _ _ _ _ _ (by decide)]; exact set_at y1
                have x2 : (((wr.setCell ⟨w.heap.size + 1, 0, none⟩ (.int .u64 id)).setCell ⟨w.heap.size + 1, 1, none⟩ (.int .i64 pr)).setCell ⟨w.heap.size + 1, 2, none⟩ (.slice a9 j q9)).cell? ⟨w.heap.size + 1, 2, none⟩ = some (.slice a9 j q9) := set_at y2
                simp [results, Tryz.results24, go_sem, x0, x1, x2]
              · rw [← HM.out]
                exact (((HS.out.set (by dsimp only; omega) _).set (by dsimp only; omega) _).set (by dsimp only; omega) _).base (by omega)
              · exact bel_set (bel_set (bel_set BWr (by dsimp only; omega) _) (by dsimp only; omega) _) (by dsimp only; omega) _
        · refine ⟨_, rfl, fun R hR => ?_⟩
          go_wp2_with fail
          rw [← HPQ.out, ← HW.out]
          refine hR _ _ ⟨⟨W, BW⟩, rfl⟩ ?_
          clear hR R
          refine wpAnyC_step (f := 1) [9] (by kernel_rfl) rfl rfl (fun i hi => ?_)
          simp only [List.mem_cons, List.not_mem_nil, or_false] at hi
          subst hi
          refine ⟨_, rfl, fun R hR => ?_⟩
          go_wp2_with fail
          refine hR _ _ ⟨⟨W, BW⟩, rfl⟩ ?_
          clear hR R
          refine wpAnyC_end (k := 11) (by decide) rfl rfl (by kernel_rfl) ?_
          have bfz0 := bfz 0
          have bfz1 := bfz 1
          have bfz2 := bfz 2
          have t1 : (W.setCell ⟨pq, 0, none⟩ (.int .u64 id)).cell? ⟨pq, 1, none⟩ = some (.int .i64 0) := by rw [cell_set_off _ _ _ _ _ (by decide)]; exact b1
          have t2 : ((W.setCell ⟨pq, 0, none⟩ (.int .u64 id)).setCell ⟨pq, 1, none⟩ (.int .i64 pr)).cell? ⟨pq, 2, none⟩ = some (.slice none 0 0) := by rw [cell_set_off _ _ _ _ _ (by decide), cell_set_off _ _ _ _ _ (by decide)]; exact b2
          obtain ⟨W5, hW5⟩ : ∃ z, z = ((W.setCell ⟨pq, 0, none⟩ (.int .u64 id)).setCell ⟨pq, 1, none⟩ (.int .i64 pr)).setCell ⟨pq, 2, none⟩ (.slice none 0 0) := ⟨_, rfl⟩
          have P5 : Hid (W5.cell? ⟨pq, 0, none⟩ = some (.int .u64 id) ∧ W5.cell? ⟨pq, 1, none⟩ = some (.int .i64 pr) ∧ W5.cell? ⟨pq, 2, none⟩ = some (.slice none 0 0) ∧ (∀ o, W5.frozen? ⟨pq, o, none⟩ = false) ∧ pq < W5.heap.size) := by
            show _ ∧ _
            rw [hW5]
            refine ⟨?_, ?_, set_at t2, fun o => by rw [World.frozen?_setCell, World.frozen?_setCell, World.frozen?_setCell]; exact bfz o, by rw [size_set, size_set, size_set]; exact bz⟩
            · rw [cell_set_off _ _ _ _ _ (by decide), cell_set_off _ _ _ _ _ (by decide)]; exact set_at b0
            · rw [cell_set_off _ _ _ _ _ (by decide)]; exact set_at t1
          have B5 : Hid (RowKit.Below wr.heap.size wr W5) := by rw [hW5]; exact bel_set (bel_set (bel_set BW bq _) bq _) bq _
          have HW5 := Lib.hid hW5
          clear hW5 BW
          obtain ⟨d0, d1, d2, dz, dlt⟩ := P5.out
          have DC0 := Lib.hid ((B5.out.cell (p := ⟨w.heap.size, 0, none⟩) hzr0).trans c0)
          have DC1 := Lib.hid ((B5.out.cell (p := ⟨w.heap.size, 1, none⟩) hzr0).trans c1)
          have hc05 := DC0.out
          have hc15 := DC1.out
          have hz05 : w.heap.size < W5.heap.size := Nat.lt_of_lt_of_le hzr0 B5.out.size
          go_upto_region 5 with (fail)
          rw [← HW5.out]
          have KC0 := Lib.hid c0
          have KC1 := Lib.hid c1
          clear t1 t2 b0 b1 b2 bfz bfz0 bfz1 bfz2 c0 c1 cid HW5
          go_wp2_with fail
          refine (circ_lenC _ _ _ _ _).mono ?_
          rintro e w6 ⟨rfl, hB6⟩
          obtain ⟨m, hm⟩ : ∃ m, m = cNum c := ⟨_, rfl⟩
          have hmin : min (3 : Int) ((c.length : Int) - 1) = (m : Int) := by rw [hm]; unfold cNum; omega
          have hm3 : m ≤ 3 := by rw [hm]; unfold cNum; omega
          have hpos : 1 ≤ c.length := by omega
          have HM := Lib.hid hm
          have B6 := Lib.hid (bel_below B5.out hB6)
          have P6 : Hid (w6.cell? ⟨pq, 0, none⟩ = some (.int .u64 id) ∧ w6.cell? ⟨pq, 1, none⟩ = some (.int .i64 pr) ∧ w6.cell? ⟨pq, 2, none⟩ = some (.slice none 0 0) ∧ (∀ o, w6.frozen? ⟨pq, o, none⟩ = false) ∧ pq < w6.heap.size) :=
            ⟨(hB6.cell (p := ⟨pq, 0, none⟩) dlt).trans d0, (hB6.cell (p := ⟨pq, 1, none⟩) dlt).trans d1, (hB6.cell (p := ⟨pq, 2, none⟩) dlt).trans d2, fun o => (hB6.frozen (p := ⟨pq, o, none⟩) dlt).trans (dz o), Nat.lt_of_lt_of_le dlt hB6.size⟩
          have KW := Lib.hid (fun wq (hb : RowKit.Below pq w6 wq) => (Bw.trans ((B6.out.mono (Nat.le_of_lt hzr0)).trans (hb.mono (by omega))) : RowKit.Below w.heap.size w wq))
          have KB := Lib.hid (fun wq (hb : RowKit.Below pq w6 wq) => (⟨(hb.cell (p := ⟨w.heap.size, 0, none⟩) (by dsimp only; omega)).trans ((B6.out.cell (p := ⟨w.heap.size, 0, none⟩) hzr0).trans KC0.out), (hb.cell (p := ⟨w.heap.size, 1, none⟩) (by dsimp only; omega)).trans ((B6.out.cell (p := ⟨w.heap.size, 1, none⟩) hzr0).trans KC1.out)⟩ :
            wq.cell? ⟨w.heap.size, 0, none⟩ = some (.slice aa c.length ac) ∧ wq.cell? ⟨w.heap.size, 1, none⟩ = some (.slice (some ⟨b, off, none⟩) c.length ic)))
          clear hm hB6 hc05 hc15 hz05 d0 d1 d2 dz dlt DC0 DC1 P5
          go_wp2_with fail
          go_loopw [8, 30] (fun _ i wq => ∃ (j : Nat) (sv : Value), j ≤ m ∧ i = .int .i64 j ∧ Hid (wq.cell? ⟨pq, 0, none⟩ = some (.int .u64 id) ∧ wq.cell? ⟨pq, 1, none⟩ = some (.int .i64 pr) ∧ wq.cell? ⟨pq, 2, none⟩ = some sv ∧ (∀ o, wq.frozen? ⟨pq, o, none⟩ = false) ∧ pq < wq.heap.size) ∧
              Hid (wq.ownsRow (pq + 1) 3 1 sv j ((cSuc c i0 j).map (Value.int .i64))) ∧ Hid (RowKit.Below pq w6 wq)) (fun _ i _ => m - (intOf i).toNat)
          case atStart => exact ⟨0, _, by omega, rfl, P6.out, World.ownsRow_nil _ _ _ _, RowKit.Below.refl _ _⟩
          case round =>
            obtain ⟨j, sv, hj, rfl, hP, hO, hK2⟩ := hrel
            by_cases hj3 : j < m
            · obtain ⟨c0, c1, c2, fz, hpw⟩ := hP.out
              obtain ⟨bc0, bc1⟩ := KB.out _ hK2.out
              have bcz : w.heap.size < wr.heap.size := Nat.lt_of_lt_of_le (by have := B6.out.size; omega) hK2.out.size
              have ca2 := Lib.hid (fun wq' (hK' : RowKit.Below pq w6 wq') => CA.out hc0 wq' (KW.out wq' hK') ((i0 : Int) + 1 + (j : Int)) (by omega) (by omega))
              go_wp2_with fail
              refine wp_region_tame 7 9 (fun w' => ∃ x : Later wr, w' = x.world) (by kernel_rfl) (by kernel_rfl) ⟨⟨{ wr with drawn := wr.drawn + 1 }, (RowKit.Below.refl _ _).drew⟩, rfl⟩ ?_ ?_
              · intro d v c a w h
                cases d <;> exact h
              · simp only [List.take_succ_cons, List.take_zero, List.drop_succ_cons, List.drop_zero]
                repeat (refine wpTame_step (fun K hK => ?_); go_simp; refine hK _ ?_; clear hK K)
                refine wpTame_nil ?_
                refine wpSeqC_step (by decide) (fun R hR => ?_)
                go_wp2_with fail
                refine (ca2.out _ hK2.out.drew).mono ?_
                rintro e w8 ⟨rfl, hB8⟩
                have B8 : RowKit.Below wr.heap.size wr w8 := (bel_drew (RowKit.Below.refl _ _)).trans (hB8.mono (by simp))
                go_wp2_with fail
                refine hR _ _ ⟨⟨w8, B8⟩, rfl⟩ ?_
                clear hR R
                refine wpSeqC_step (by decide) (fun R hR => ?_)
                go_wp2_with fail
                refine hR _ _ ⟨⟨_, bel_alloc B8 _⟩, rfl⟩ ?_
                clear hR R
                refine wpSeqC_list (by decide) ?_
                have O8 := Lib.hid (owns_below hO.out B8)
                have hp8 : pq < w8.heap.size := Nat.lt_of_lt_of_le hpw B8.size
                go_wp2_with (at_builtin; refine wpList_app rfl _ _ 36 rfl (pq + 1) 3 i00 (.int .i64 0) 8 Tryz.underlying36 hi00 hz00 hz01 hz02 rfl _ j _ rfl (O8.out.alloc _) 0 _ 1 _ rfl (sl_new _ .i64 [cAt c ((i0 : Int) + 1 + (j : Int))] 3 _ 1 rfl rfl (by simp [maxLen])) (fun _ => rfl) ?qc1 ?qc2 ?qc3 ?_)
                case qc1 => simp only [maxLen]; omega
                case qc2 => omega
                case qc3 => simp; omega
                intro v7 w7 ho7 hg7
                have hown : ∀ q, sv.ownBlock = some q → pq + 1 ≤ q := fun q hq => (O8.out.lt q hq).1
                have B8a := bel_alloc B8 (.cells [Value.int IntKind.i64 (cAt c ((i0 : Int) + 1 + (j : Int)))].toArray 3)
                have hfar : ∀ b, b ≤ pq → w7.heap[b]? = wr.heap[b]? := fun b hb' => by
                  rw [hg7.block b (by simp; omega) (fun e => by have := hown b e.symm; omega)]
                  exact B8a.block b (by omega)
                have hp7 : pq < w7.heap.size := by have := hg7.size; simp at this; omega
                have d0 := (World.cell?_of_block (a := ⟨pq, 0, none⟩) (hfar pq (Nat.le_refl _))).trans c0
                have d1 := (World.cell?_of_block (a := ⟨pq, 1, none⟩) (hfar pq (Nat.le_refl _))).trans c1
                have d2 := (World.cell?_of_block (a := ⟨pq, 2, none⟩) (hfar pq (Nat.le_refl _))).trans c2
                have dz : ∀ o, w7.frozen? ⟨pq, o, none⟩ = false := fun o => (World.frozen?_of_block (a := ⟨pq, o, none⟩) (hfar pq (Nat.le_refl _))).trans (fz o)
                have dz2 := dz 2
                have DZ := Lib.hid dz
                have hs7 := own_slAt ho7
                obtain ⟨a7, q7, rfl, _⟩ := hs7.slice
                have O7 := Lib.hid ho7
                have K7 : Hid (RowKit.Below pq w6 w7) := (hK2.out.trans (B8a.mono (Nat.le_of_lt hpw))).grown hg7 (by have := B8a.size; omega) (fun q hq => by have := hown q hq; omega)
                clear ho7 hg7 hs7 c0 c1 c2 hfar dz B8a fz
                go_wp2_with fail
                go_roundw
                case rel =>
                  refine ⟨j + 1, _, by omega, by go_num, ⟨?_, ?_, set_at d2, fun o => by rw [World.frozen?_setCell]; exact DZ.out o, by rw [size_set]; exact hp7⟩, ?_, ?_⟩
                  · rw [cell_set_off _ _ _ _ _ (by decide)]; exact d0
                  · rw [cell_set_off _ _ _ _ _ (by decide)]; exact d1
                  · refine owns_blocks (w := w7) ?_ (fun g hg _ => Below.heap_setCell _ _ _ _ (by dsimp only; omega))
                    have := O7.out
                    simpa [cSuc, List.range_succ, nth] using this
                  · exact K7.out.setCell (Nat.le_refl _) _
                case measure => go_light; simp [intOf]; omega
            · obtain rfl : j = m := by omega
              obtain ⟨c0, c1, c2, fz, hpw⟩ := hP.out
              have hs := own_ints hO.out
              rw [cSuc_len] at hs
              obtain ⟨a9, q9, rfl, _⟩ := hs.slice
              have HS := Lib.hid hs
              obtain ⟨s0, s1, s2, sz⟩ := RR.out
              have hpr1 : w.heap.size + 1 < pq := by omega
              have hz1w : w.heap.size + 1 < w6.heap.size := by have := P6.out.2.2.2.2; omega
              have u0 := (hK2.out.cell (p := ⟨w.heap.size + 1, 0, none⟩) hpr1).trans ((B6.out.cell (p := ⟨w.heap.size + 1, 0, none⟩) (by dsimp only; omega)).trans s0)
              have u1 := (hK2.out.cell (p := ⟨w.heap.size + 1, 1, none⟩) hpr1).trans ((B6.out.cell (p := ⟨w.heap.size + 1, 1, none⟩) (by dsimp only; omega)).trans s1)
              have u2 := (hK2.out.cell (p := ⟨w.heap.size + 1, 2, none⟩) hpr1).trans ((B6.out.cell (p := ⟨w.heap.size + 1, 2, none⟩) (by dsimp only; omega)).trans s2)
              have uz : ∀ o, wr.frozen? ⟨w.heap.size + 1, o, none⟩ = false := fun o => (hK2.out.frozen (p := ⟨w.heap.size + 1, o, none⟩) hpr1).trans ((B6.out.frozen (p := ⟨w.heap.size + 1, o, none⟩) (by dsimp only; omega)).trans (sz o))
              have uz0 := uz 0
              have uz1 := uz 1
              have uz2 := uz 2
              have ult : w.heap.size + 1 < wr.heap.size := Nat.lt_of_lt_of_le hz1w hK2.out.size
              have BWr := KW.out _ hK2.out
              clear s0 s1 s2 sz hs
              go_wp2_with fail
              refine bodyPost_ret (v := .tuple #[.agg #[.int .u64 id, .int .i64 pr, .slice a9 j q9], .bool true]) ?_ rfl (HP.out _ _ _ rfl ?_ ?_)
              · have y1 : (wr.setCell ⟨w.heap.size + 1, 0, none⟩ (.int .u64 id)).cell? ⟨w.heap.size + 1, 1, none⟩ = some (.int .i64 0) := by rw [cell_set_off _ _ _ _ _ (by decide)]; exact u1
                have y2 : ((wr.setCell ⟨w.heap.size + 1, 0, none⟩ (.int .u64 id)).setCell ⟨w.heap.size + 1, 1, none⟩ (.int .i64 pr)).cell? ⟨w.heap.size + 1, 2, none⟩ = some (.slice none 0 0) := by rw [cell_set_off _ _ _ _ _ (by decide), cell_set_off _ _ _ _ _ (by decide)]; exact u2
                have x0 : (((wr.setCell ⟨w.heap.size + 1, 0, none⟩ (.int .u64 id)).setCell ⟨w.heap.size + 1, 1, none⟩ (.int .i64 pr)).setCell ⟨w.heap.size + 1, 2, none⟩ (.slice a9 j q9)).cell? ⟨w.heap.size + 1, 0, none⟩ = some (.int .u64 id) := by
                  rw [cell_set_off _ _ _ _ _ (by decide), cell_set_off _ _ _ _ _ (by decide)]; exact set_at u0
                have x1 : (((wr.setCell ⟨w.heap.size + 1, 0, none⟩ (.int .u64 id)).setCell ⟨w.heap.size + 1, 1, none⟩ (.int .i64 pr)).setCell ⟨w.heap.size + 1, 2, none⟩ (.slice a9 j q9)).cell? ⟨w.heap.size + 1, 1, none⟩ = some (.int .i64 pr) := by
                  rw [cell_set_off _ _ _ _ _ (by decide)]; exact set_at y1
                have x2 : (((wr.setCell ⟨w.heap.size + 1, 0, none⟩ (.int .u64 id)).setCell ⟨w.heap.size + 1, 1, none⟩ (.int .i64 pr)).setCell ⟨w.heap.size + 1, 2, none⟩ (.slice a9 j q9)).cell? ⟨w.heap.size + 1, 2, none⟩ = some (.slice a9 j q9) := set_at y2
                simp [results, Tryz.results24, go_sem, x0, x1, x2]
              · rw [← HM.out]
                exact (((HS.out.set (by dsimp only; omega) _).set (by dsimp only; omega) _).set (by dsimp only; omega) _).base (by omega)
              · exact bel_set (bel_set (bel_set BWr (by dsimp only; omega) _) (by dsimp only; omega) _) (by dsimp only; omega) _
      · refine ⟨_, rfl, fun R hR => ?_⟩
        go_wp2_with fail
        obtain ⟨W0, hW0⟩ : ∃ z, z = (wr.alloc (.cells #[.int .u64 0, .int .i64 0, .slice none 0 0] 67)).drew := ⟨_, rfl⟩
        have BW0 : RowKit.Below wr.heap.size wr W0 := by rw [hW0]; exact bel_drew (bel_alloc (RowKit.Below.refl _ _) _)
        obtain ⟨pq, hpq⟩ : ∃ z, z = wr.heap.size := ⟨_, rfl⟩
        have a0 : W0.cell? ⟨pq, 0, none⟩ = some (.int .u64 0) := by rw [hW0, hpq]; simp [go_sem]
        have a1 : W0.cell? ⟨pq, 1, none⟩ = some (.int .i64 0) := by rw [hW0, hpq]; simp [go_sem]
        have a2 : W0.cell? ⟨pq, 2, none⟩ = some (.slice none 0 0) := by rw [hW0, hpq]; simp [go_sem]
        have afz : ∀ o, W0.frozen? ⟨pq, o, none⟩ = false := fun o => by rw [hW0, hpq]; simp [go_sem]
        have az : pq < W0.heap.size := by rw [hW0, hpq]; simp
        have bq : wr.heap.size ≤ pq := by omega
        rw [← hW0, ← hpq]
        refine hR _ _ ⟨⟨W0, BW0⟩, rfl⟩ ?_
        clear hR R hW0 hpq
        refine wpAnyC_step (f := 2) [8] (by kernel_rfl) rfl rfl (fun i hi => ?_)
        simp only [List.mem_cons, List.not_mem_nil, or_false] at hi
        subst hi
        refine ⟨_, rfl, fun R hR => ?_⟩
        go_wp2_with fail
        refine (CP.out _ (bel_below Bw BW0)).mono ?_
        rintro e W ⟨rfl, hB6⟩
        have BW : RowKit.Below wr.heap.size wr W := bel_below BW0 hB6
        have b0 := (hB6.cell (p := ⟨pq, 0, none⟩) az).trans a0
        have b1 := (hB6.cell (p := ⟨pq, 1, none⟩) az).trans a1
        have b2 := (hB6.cell (p := ⟨pq, 2, none⟩) az).trans a2
        have bfz : ∀ o, W.frozen? ⟨pq, o, none⟩ = false := fun o => (hB6.frozen (p := ⟨pq, o, none⟩) az).trans (afz o)
        have bz := Nat.lt_of_lt_of_le az hB6.size
        clear a0 a1 a2 afz az hB6 BW0
        go_wp2_with fail
        refine hR _ _ ⟨⟨W, BW⟩, rfl⟩ ?_
        clear hR R
        refine wpAnyC_step (f := 1) [9] (by kernel_rfl) rfl rfl (fun i hi => ?_)
        simp only [List.mem_cons, List.not_mem_nil, or_false] at hi
        subst hi
        refine ⟨_, rfl, fun R hR => ?_⟩
        go_wp2_with fail
        refine hR _ _ ⟨⟨W, BW⟩, rfl⟩ ?_
        clear hR R
        refine wpAnyC_end (k := 11) (by decide) rfl rfl (by kernel_rfl) ?_
        have bfz0 := bfz 0
        have bfz1 := bfz 1
        have bfz2 := bfz 2
        have t1 : (W.setCell ⟨pq, 0, none⟩ (.int .u64 id)).cell? ⟨pq, 1, none⟩ = some (.int .i64 0) := by rw [cell_set_off _ _ _ _ _ (by decide)]; exact b1
        have t2 : ((W.setCell ⟨pq, 0, none⟩ (.int .u64 id)).setCell ⟨pq, 1, none⟩ (.int .i64 pr)).cell? ⟨pq, 2, none⟩ = some (.slice none 0 0) := by rw [cell_set_off _ _ _ _ _ (by decide), cell_set_off _ _ _ _ _ (by decide)]; exact b2
        obtain ⟨W5, hW5⟩ : ∃ z, z = ((W.setCell ⟨pq, 0, none⟩ (.int .u64 id)).setCell ⟨pq, 1, none⟩ (.int .i64 pr)).setCell ⟨pq, 2, none⟩ (.slice none 0 0) := ⟨_, rfl⟩
        have P5 : Hid (W5.cell? ⟨pq, 0, none⟩ = some (.int .u64 id) ∧ W5.cell? ⟨pq, 1, none⟩ = some (.int .i64 pr) ∧ W5.cell? ⟨pq, 2, none⟩ = some (.slice none 0 0) ∧ (∀ o, W5.frozen? ⟨pq, o, none⟩ = false) ∧ pq < W5.heap.size) := by
          show _ ∧ _
          rw [hW5]
          refine ⟨?_, ?_, set_at t2, fun o => by rw [World.frozen?_setCell, World.frozen?_setCell, World.frozen?_setCell]; exact bfz o, by rw [size_set, size_set, size_set]; exact bz⟩
          · rw [cell_set_off _ _ _ _ _ (by decide), cell_set_off _ _ _ _ _ (by decide)]; exact set_at b0
          · rw [cell_set_off _ _ _ _ _ (by decide)]; exact set_at t1
        have B5 : Hid (RowKit.Below wr.heap.size wr W5) := by rw [hW5]; exact bel_set (bel_set (bel_set BW bq _) bq _) bq _
        have HW5 := Lib.hid hW5
        clear hW5 BW
        obtain ⟨d0, d1, d2, dz, dlt⟩ := P5.out
        have DC0 := Lib.hid ((B5.out.cell (p := ⟨w.heap.size, 0, none⟩) hzr0).trans c0)
        have DC1 := Lib.hid ((B5.out.cell (p := ⟨w.heap.size, 1, none⟩) hzr0).trans c1)
        have hc05 := DC0.out
        have hc15 := DC1.out
        have hz05 : w.heap.size < W5.heap.size := Nat.lt_of_lt_of_le hzr0 B5.out.size
        go_upto_region 5 with (fail)
        rw [← HW5.out]
        have KC0 := Lib.hid c0
        have KC1 := Lib.hid c1
        clear t1 t2 b0 b1 b2 bfz bfz0 bfz1 bfz2 c0 c1 cid HW5
        go_wp2_with fail
        refine (circ_lenC _ _ _ _ _).mono ?_
        rintro e w6 ⟨rfl, hB6⟩
        obtain ⟨m, hm⟩ : ∃ m, m = cNum c := ⟨_, rfl⟩
        have hmin : min (3 : Int) ((c.length : Int) - 1) = (m : Int) := by rw [hm]; unfold cNum; omega
        have hm3 : m ≤ 3 := by rw [hm]; unfold cNum; omega
        have hpos : 1 ≤ c.length := by omega
        have HM := Lib.hid hm
        have B6 := Lib.hid (bel_below B5.out hB6)
        have P6 : Hid (w6.cell? ⟨pq, 0, none⟩ = some (.int .u64 id) ∧ w6.cell? ⟨pq, 1, none⟩ = some (.int .i64 pr) ∧ w6.cell? ⟨pq, 2, none⟩ = some (.slice none 0 0) ∧ (∀ o, w6.frozen? ⟨pq, o, none⟩ = false) ∧ pq < w6.heap.size) :=
          ⟨(hB6.cell (p := ⟨pq, 0, none⟩) dlt).trans d0, (hB6.cell (p := ⟨pq, 1, none⟩) dlt).trans d1, (hB6.cell (p := ⟨pq, 2, none⟩) dlt).trans d2, fun o => (hB6.frozen (p := ⟨pq, o, none⟩) dlt).trans (dz o), Nat.lt_of_lt_of_le dlt hB6.size⟩
        have KW := Lib.hid (fun wq (hb : RowKit.Below pq w6 wq) => (Bw.trans ((B6.out.mono (Nat.le_of_lt hzr0)).trans (hb.mono (by omega))) : RowKit.Below w.heap.size w wq))
        have KB := Lib.hid (fun wq (hb : RowKit.Below pq w6 wq) => (⟨(hb.cell (p := ⟨w.heap.size, 0, none⟩) (by dsimp only; omega)).trans ((B6.out.cell (p := ⟨w.heap.size, 0, none⟩) hzr0).trans KC0.out), (hb.cell (p := ⟨w.heap.size, 1, none⟩) (by dsimp only; omega)).trans ((B6.out.cell (p := ⟨w.heap.size, 1, none⟩) hzr0).trans KC1.out)⟩ :
          wq.cell? ⟨w.heap.size, 0, none⟩ = some (.slice aa c.length ac) ∧ wq.cell? ⟨w.heap.size, 1, none⟩ = some (.slice (some ⟨b, off, none⟩) c.length ic)))
        clear hm hB6 hc05 hc15 hz05 d0 d1 d2 dz dlt DC0 DC1 P5
        go_wp2_with fail
        go_loopw [8, 30] (fun _ i wq => ∃ (j : Nat) (sv : Value), j ≤ m ∧ i = .int .i64 j ∧ Hid (wq.cell? ⟨pq, 0, none⟩ = some (.int .u64 id) ∧ wq.cell? ⟨pq, 1, none⟩ = some (.int .i64 pr) ∧ wq.cell? ⟨pq, 2, none⟩ = some sv ∧ (∀ o, wq.frozen? ⟨pq, o, none⟩ = false) ∧ pq < wq.heap.size) ∧
            Hid (wq.ownsRow (pq + 1) 3 1 sv j ((cSuc c i0 j).map (Value.int .i64))) ∧ Hid (RowKit.Below pq w6 wq)) (fun _ i _ => m - (intOf i).toNat)
        case atStart => exact ⟨0, _, by omega, rfl, P6.out, World.ownsRow_nil _ _ _ _, RowKit.Below.refl _ _⟩
        case round =>
          obtain ⟨j, sv, hj, rfl, hP, hO, hK2⟩ := hrel
          by_cases hj3 : j < m
          · obtain ⟨c0, c1, c2, fz, hpw⟩ := hP.out
            obtain ⟨bc0, bc1⟩ := KB.out _ hK2.out
            have bcz : w.heap.size < wr.heap.size := Nat.lt_of_lt_of_le (by have := B6.out.size; omega) hK2.out.size
            have ca2 := Lib.hid (fun wq' (hK' : RowKit.Below pq w6 wq') => CA.out hc0 wq' (KW.out wq' hK') ((i0 : Int) + 1 + (j : Int)) (by omega) (by omega))
            go_wp2_with fail
            refine wp_region_tame 7 9 (fun w' => ∃ x : Later wr, w' = x.world) (by kernel_rfl) (by kernel_rfl) ⟨⟨{ wr with drawn := wr.drawn + 1 }, (RowKit.Below.refl _ _).drew⟩, rfl⟩ ?_ ?_
            · intro d v c a w h
              cases d <;> exact h
            · simp only [List.take_succ_cons, List.take_zero, List.drop_succ_cons, List.drop_zero]
              repeat (refine wpTame_step (fun K hK => ?_); go_simp; refine hK _ ?_; clear hK K)
              refine wpTame_nil ?_
              refine wpSeqC_step (by decide) (fun R hR => ?_)
              go_wp2_with fail
              refine (ca2.out _ hK2.out.drew).mono ?_
              rintro e w8 ⟨rfl, hB8⟩
              have B8 : RowKit.Below wr.heap.size wr w8 := (bel_drew (RowKit.Below.refl _ _)).trans (hB8.mono (by simp))
              go_wp2_with fail
              refine hR _ _ ⟨⟨w8, B8⟩, rfl⟩ ?_
              clear hR R
              refine wpSeqC_step (by decide) (fun R hR => ?_)
              go_wp2_with fail
              refine hR _ _ ⟨⟨_, bel_alloc B8 _⟩, rfl⟩ ?_
              clear hR R
              refine wpSeqC_list (by decide) ?_
              have O8 := Lib.hid (owns_below hO.out B8)
              have hp8 : pq < w8.heap.size := Nat.lt_of_lt_of_le hpw B8.size
              go_wp2_with (at_builtin; refine wpList_app rfl _ _ 36 rfl (pq + 1) 3 i00 (.int .i64 0) 8 Tryz.underlying36 hi00 hz00 hz01 hz02 rfl _ j _ rfl (O8.out.alloc _) 0 _ 1 _ rfl (sl_new _ .i64 [cAt c ((i0 : Int) + 1 + (j : Int))] 3 _ 1 rfl rfl (by simp [maxLen])) (fun _ => rfl) ?qc1 ?qc2 ?qc3 ?_)
              case qc1 => simp only [maxLen]; omega
              case qc2 => omega
              case qc3 => simp; omega
              intro v7 w7 ho7 hg7
              have hown : ∀ q, sv.ownBlock = some q → pq + 1 ≤ q := fun q hq => (O8.out.lt q hq).1
              have B8a := bel_alloc B8 (.cells [Value.int IntKind.i64 (cAt c ((i0 : Int) + 1 + (j : Int)))].toArray 3)
              have hfar : ∀ b, b ≤ pq → w7.heap[b]? = wr.heap[b]? := fun b hb' => by
                rw [hg7.block b (by simp; omega) (fun e => by have := hown b e.symm; omega)]
                exact B8a.block b (by omega)
              have hp7 : pq < w7.heap.size := by have := hg7.size; simp at this; omega
              have d0 := (World.cell?_of_block (a := ⟨pq, 0, none⟩) (hfar pq (Nat.le_refl _))).trans c0
              have d1 := (World.cell?_of_block (a := ⟨pq, 1, none⟩) (hfar pq (Nat.le_refl _))).trans c1
              have d2 := (World.cell?_of_block (a := ⟨pq, 2, none⟩) (hfar pq (Nat.le_refl _))).trans c2
              have dz : ∀ o, w7.frozen? ⟨pq, o, none⟩ = false := fun o => (World.frozen?_of_block (a := ⟨pq, o, none⟩) (hfar pq (Nat.le_refl _))).trans (fz o)
              have dz2 := dz 2
              have DZ := Lib.hid dz
              have hs7 := own_slAt ho7
              obtain ⟨a7, q7, rfl, _⟩ := hs7.slice
              have O7 := Lib.hid ho7
              have K7 : Hid (RowKit.Below pq w6 w7) := (hK2.out.trans (B8a.mono (Nat.le_of_lt hpw))).grown hg7 (by have := B8a.size; omega) (fun q hq => by have := hown q hq; omega)
              clear ho7 hg7 hs7 c0 c1 c2 hfar dz B8a fz
              go_wp2_with fail
              go_roundw
              case rel =>
                refine ⟨j + 1, _, by omega, by go_num, ⟨?_, ?_, set_at d2, fun o => by rw [World.frozen?_setCell]; exact DZ.out o, by rw [size_set]; exact hp7⟩, ?_, ?_⟩
                · rw [cell_set_off _ _ _ _ _ (by decide)]; exact d0
                · rw [cell_set_off _ _ _ _ _ (by decide)]; exact d1
                · refine owns_blocks (w := w7) ?_ (fun g hg _ => Below.heap_setCell _ _ _ _ (by dsimp only; omega))
                  have := O7.out
                  simpa [cSuc, List.range_succ, nth] using this
                · exact K7.out.setCell (Nat.le_refl _) _
              case measure => go_light; simp [intOf]; omega
          · obtain rfl : j = m := by omega
            obtain ⟨c0, c1, c2, fz, hpw⟩ := hP.out
            have hs := own_ints hO.out
            rw [cSuc_len] at hs
            obtain ⟨a9, q9, rfl, _⟩ := hs.slice
            have HS := Lib.hid hs
            obtain ⟨s0, s1, s2, sz⟩ := RR.out
            have hpr1 : w.heap.size + 1 < pq := by omega
            have hz1w : w.heap.size + 1 < w6.heap.size := by have := P6.out.2.2.2.2; omega
            have u0 := (hK2.out.cell (p := ⟨w.heap.size + 1, 0, none⟩) hpr1).trans ((B6.out.cell (p := ⟨w.heap.size + 1, 0, none⟩) (by dsimp only; omega)).trans s0)
            have u1 := (hK2.out.cell (p := ⟨w.heap.size + 1, 1, none⟩) hpr1).trans ((B6.out.cell (p := ⟨w.heap.size + 1, 1, none⟩) (by dsimp only; omega)).trans s1)
            have u2 := (hK2.out.cell (p := ⟨w.heap.size + 1, 2, none⟩) hpr1).trans ((B6.out.cell (p := ⟨w.heap.size + 1, 2, none⟩) (by dsimp only; omega)).trans s2)
            have uz : ∀ o, wr.frozen? ⟨w.heap.size + 1, o, none⟩ = false := fun o => (hK2.out.frozen (p := ⟨w.heap.size + 1, o, none⟩) hpr1).trans ((B6.out.frozen (p := ⟨w.heap.size + 1, o, none⟩) (by dsimp only; omega)).trans (sz o))
            have uz0 := uz 0
            have uz1 := uz 1
            have uz2 := uz 2
            have ult : w.heap.size + 1 < wr.heap.size := Nat.lt_of_lt_of_le hz1w hK2.out.size
            have BWr := KW.out _ hK2.out
            clear s0 s1 s2 sz hs
            go_wp2_with fail
            refine bodyPost_ret (v := .tuple #[.agg #[.int .u64 id, .int .i64 pr, .slice a9 j q9], .bool true]) ?_ rfl (HP.out _ _ _ rfl ?_ ?_)
            · have y1 : (wr.setCell ⟨w.heap.size + 1, 0, none⟩ (.int .u64 id)).cell? ⟨w.heap.size + 1, 1, none⟩ = some (.int .i64 0) := by rw [cell_set_off _ _ _ _ _ (by decide)]; exact u1
              have y2 : ((wr.setCell ⟨w.heap.size + 1, 0, none⟩ (.int .u64 id)).setCell ⟨w.heap.size + 1, 1, none⟩ (.int .i64 pr)).cell? ⟨w.heap.size + 1, 2, none⟩ = some (.slice none 0 0) := by rw [cell_set_off _ _ _ _ _ (by decide), cell_set_off _ _ _ _ _ (by decide)]; exact u2
              have x0 : (((wr.setCell ⟨w.heap.size + 1, 0, none⟩ (.int .u64 id)).setCell ⟨w.heap.size + 1, 1, none⟩ (.int .i64 pr)).setCell ⟨w.heap.size + 1, 2, none⟩ (.slice a9 j q9)).cell? ⟨w.heap.size + 1, 0, none⟩ = some (.int .u64 id) := by
                rw [cell_set_off _ _ _ _ _ (by decide), cell_set_off _ _ _ _ _ (by decide)]; exact set_at u0
              have x1 : (((wr.setCell ⟨w.heap.size + 1, 0, none⟩ (.int .u64 id)).setCell ⟨w.heap.size + 1, 1, none⟩ (.int .i64 pr)).setCell ⟨w.heap.size + 1, 2, none⟩ (.slice a9 j q9)).cell? ⟨w.heap.size + 1, 1, none⟩ = some (.int .i64 pr) := by
                rw [cell_set_off _ _ _ _ _ (by decide)]; exact set_at y1
              have x2 : (((wr.setCell ⟨w.heap.size + 1, 0, none⟩ (.int .u64 id)).setCell ⟨w.heap.size + 1, 1, none⟩ (.int .i64 pr)).setCell ⟨w.heap.size + 1, 2, none⟩ (.slice a9 j q9)).cell? ⟨w.heap.size + 1, 2, none⟩ = some (.slice a9 j q9) := set_at y2
              simp [results, Tryz.results24, go_sem, x0, x1, x2]
            · rw [← HM.out]
              exact (((HS.out.set (by dsimp only; omega) _).set (by dsimp only; omega) _).set (by dsimp only; omega) _).base (by omega)
            · exact bel_set (bel_set (bel_set BWr (by dsimp only; omega) _) (by dsimp only; omega) _) (by dsimp only; omega) _
end Go.Proofs.YtidlmlecgjoddaaGreatDoor
namespace Go.Proofs.YtidlmlecgjoddaaGreatDoor
open Go.RowKit Go.Maps Go.Sort
set_option linter.unusedVariables false
set_option linter.unusedSimpArgs false
attribute [local go_sem] later_cell later_frozen later_lt cell_set_off cell_set_block

def okN (f : RS) (c : List Int) (n : Int) : Bool := sameK (idR f n) (predR f n) (succR f n) (nth (c.map (idR f)) (idxI c n).toNat) (cAt c (idxI c n - 1)) (cSuc c (idxI c n) (cNum c))
def isB (f : RS) : Bool := (circ f).all (okN f (circ f))
variable {S : Nat → Prop} {w : World} {rb mb : Nat} {g : Int → Nat} {f : RS}
theorem idxI_mem {c : List Int} {n : Int} (h : n ∈ c) : ¬ idxI c n < 0 := by
  rcases idxI_cases c n with h2 | ⟨i, _, h2, _⟩
  · exfalso
    unfold idxI Lib.idxBy at h2
    have key : ∀ (l : List Int) (s : Nat), n ∈ l → 0 ≤ Lib.idxByFrom (fun x y : Int => x == y) n l s := by
      intro l
      induction l with
      | nil => intro s hn; simp at hn
      | cons a l ih =>
        intro s hn
        by_cases e : n = a
        · simp [Lib.idxByFrom, e]
        · rcases List.mem_cons.1 hn with h3 | h3
          · exact absurd h3 e
          · simpa [Lib.idxByFrom, e] using ih (s + 1) h3
    have := key c 0 h
    omega
  · omega
theorem KnowPost.yes {w w' : World} {c ids : List Int} {n : Int} {e : Ending} (h : KnowPost w c ids n e w') (hge : ¬ idxI c n < 0) :
    ∃ v, e = .returned (.tuple #[.agg #[.int .u64 (nth ids (idxI c n).toNat), .int .i64 (cAt c (idxI c n - 1)), v], .bool true]) ∧
    SlAt w.heap.size (fun i => .int .i64 (nth (cSuc c (idxI c n) (cNum c)) i)) (cNum c) w' v ∧ RowKit.Below w.heap.size w w' := by
  unfold KnowPost at h; rwa [if_neg hge] at h
set_option maxRecDepth 100000 in
set_option maxHeartbeats 4000000 in
theorem is1_at (h : RAt S w rb mb g f) (c : List Int) (av iv : Value) (hc : SlAt 0 (fun i => .int .i64 (nth c i)) c.length w av) (hi : SlAt 0 (fun i => .int .u64 (nth (c.map (idR f)) i)) c.length w iv) (hl : c.length ≤ 1000)
    (b1 b2 : Nat) (h1 : w.cell? ⟨b1, 0, none⟩ = some (.pointer (some ⟨rb, 0, none⟩))) (h20 : w.cell? ⟨b2, 0, none⟩ = some av) (h21 : w.cell? ⟨b2, 1, none⟩ = some iv) (z1 : b1 < w.heap.size) (z2 : b2 < w.heap.size) (n : Int) (hn : n ∈ c) (hnl : livesR f n = true) :
    Calls Tryz.prog 99 #[.int .i64 n, .pointer (some ⟨b1, 0, none⟩), .pointer (some ⟨b2, 0, none⟩)] w fun e w' => e = .returned (.bool (!okN f c n)) ∧ RowKit.Below w.heap.size w w' := by
  have hdn := livesR_dom h.dom hnl
  have hs3 := (succR_dom h.dom n).1
  have CP := Lib.hid (peer_at h n (okInt_dom (by omega) (by omega)))
  have CC := Lib.hid (fun wr (hb : RowKit.Below w.heap.size w wr) => cpeer_at wr c (c.map (idR f)) av iv (hc.below hb) (by have := hi.below hb; simpa using this) (by simp) hl n |>.mono fun e w' hp => hp.yes (idxI_mem hn))
  unfold TellPost at CP
  rw [hnl] at CP
  unfold okN
  obtain ⟨i1, hi1⟩ : ∃ z, z = idR f n := ⟨_, rfl⟩
  obtain ⟨p1, hp1⟩ : ∃ z, z = predR f n := ⟨_, rfl⟩
  obtain ⟨l1, hl1⟩ : ∃ z, z = succR f n := ⟨_, rfl⟩
  obtain ⟨i2, hi2⟩ : ∃ z, z = nth (c.map (idR f)) (idxI c n).toNat := ⟨_, rfl⟩
  obtain ⟨p2, hp2⟩ : ∃ z, z = cAt c (idxI c n - 1) := ⟨_, rfl⟩
  obtain ⟨l2, hl2⟩ : ∃ z, z = cSuc c (idxI c n) (cNum c) := ⟨_, rfl⟩
  have hl2n : l2.length = cNum c := by rw [hl2, cSuc_len]
  rw [← hi1, ← hp1, ← hl1] at CP
  rw [← hi2, ← hp2, ← hl2, ← hl2n] at CC
  rw [← hi1, ← hp1, ← hl1, ← hi2, ← hp2, ← hl2]
  rw [← hl1] at hs3
  obtain ⟨aa, ac, rfl, _⟩ := hc.slice
  obtain ⟨ia, ic, rfl, _⟩ := hi.slice
  clear h hc hi hn hnl hi1 hp1 hl1 hi2 hp2 hl2 hl2n
  go_enter Tryz.func99, Tryz.ntmps99
  go_wp2_with fail
  refine CP.out.mono ?_
  intro e w3 hq
  rw [if_pos trivial] at hq
  obtain ⟨v3, rfl, hs, hB3⟩ := hq
  obtain ⟨a3, q3, rfl, _⟩ := hs.slice
  have S3 := Lib.hid hs
  obtain ⟨w4, hw4⟩ : ∃ z, z = w3.alloc (.cells #[.int .u64 i1, .int .i64 p1, .slice a3 l1.length q3] 67) := ⟨_, rfl⟩
  have B4 : RowKit.Below w.heap.size w w4 := by rw [hw4]; exact bel_alloc hB3 _
  have d0 := (B4.cell (p := ⟨b2, 0, none⟩) z2).trans h20
  have d1 := (B4.cell (p := ⟨b2, 1, none⟩) z2).trans h21
  have dz := Nat.lt_of_lt_of_le z2 B4.size
  have p0 : w4.cell? ⟨w3.heap.size, 0, none⟩ = some (.int .u64 i1) := by rw [hw4]; simp [go_sem]
  have p1' : w4.cell? ⟨w3.heap.size, 1, none⟩ = some (.int .i64 p1) := by rw [hw4]; simp [go_sem]
  have p2' : w4.cell? ⟨w3.heap.size, 2, none⟩ = some (.slice a3 l1.length q3) := by rw [hw4]; simp [go_sem]
  have pz : w3.heap.size < w4.heap.size := by rw [hw4]; simp
  have S4 : Hid (SlAt 0 (fun i => .int .i64 (nth l1 i)) l1.length w4 (.slice a3 l1.length q3)) := (S3.out.base (Nat.zero_le _)).below (by rw [hw4]; exact bel_alloc (RowKit.Below.refl _ _) _)
  have HW4 := Lib.hid hw4
  clear hw4 hs hB3
  go_upto_region 2 with (fail)
  rw [← HW4.out]
  go_wp2_with fail
  refine (CC.out _ B4).mono ?_
  rintro e w5 ⟨v5, rfl, hs5, hB5⟩
  obtain ⟨a5, q5, rfl, _⟩ := hs5.slice
  have e0 := (hB5.cell (p := ⟨w3.heap.size, 0, none⟩) pz).trans p0
  have e1 := (hB5.cell (p := ⟨w3.heap.size, 1, none⟩) pz).trans p1'
  have e2 := (hB5.cell (p := ⟨w3.heap.size, 2, none⟩) pz).trans p2'
  have ez := Nat.lt_of_lt_of_le pz hB5.size
  have B5 := Lib.hid (bel_below B4 hB5)
  have CS := Lib.hid (fun wr (hb : RowKit.Below w5.heap.size w5 wr) => samep_any wr i1 p1 (.slice a3 l1.length q3) l1 i2 p2 (.slice a5 l2.length q5) l2 ((S4.out.below hB5).below hb) ((hs5.base (Nat.zero_le _)).below hb) (by omega))
  clear hs5 hB5 d0 d1 dz p0 p1' p2' pz S4 HW4 CP CC
  go_wp2_with fail
  refine (CS.out _ (by (repeat (first | exact Below.refl _ _ | (with_reducible assumption) | (with_reducible refine bel_later ?_ _) | (with_reducible refine bel_alloc ?_ _) | (with_reducible refine bel_drew ?_) | (with_reducible refine bel_drewN ?_ _) | (with_reducible refine bel_set ?_ (by first | (simp; done) | (simp; omega) | (dsimp only; omega)) _))))).mono ?_
  rintro e w6 ⟨rfl, hB6⟩
  have B6 := Lib.hid (bel_below (bel_alloc B5.out _) hB6)
  clear hB6
  go_wp2_with fail
  go_ret
  exact ⟨rfl, B6.out⟩

/-! ### The first of which something is true -/
theorem indexp_at (w : World) (v : Value) (l : List Int) (p : Int → Bool) (gf : Nat) (lb : Array Value) (hl : SlAt 0 (fun i => .int .i64 (nth l i)) l.length w v) (hlm : l.length ≤ 4000000000)
    (heg : ∀ args w, (callFunc gf args).run Tryz.prog w = .ok (.enter gf args) w)
    (hp : ∀ wr, RowKit.Below w.heap.size w wr → ∀ x ∈ l, Calls Tryz.prog gf (#[.int .i64 x] ++ lb) wr fun e w' => e = .returned (.bool (p x)) ∧ RowKit.Below wr.heap.size wr w') :
    Calls Tryz.prog 62 #[v, .func (.func gf) #[] lb] w fun e w' => ∃ r : Int, e = .returned (.int .i64 r) ∧ (decide (0 ≤ r) = l.any p) ∧ RowKit.Below w.heap.size w w' := by
  have HL := Lib.hid hl
  have HPP := Lib.hid hp
  obtain ⟨a, cap, rfl, _⟩ := hl.slice
  clear hl hp
  go_enter Tryz.func62, Tryz.ntmps62
  go_wp2
  go_loopw [5, 8] (fun _ i wr => ∃ k : Nat, k ≤ l.length ∧ i = .int .i64 k ∧ RowKit.Below w.heap.size w wr ∧ Hid (∀ j, j < k → p (nth l j) = false)) (fun _ i _ => l.length - (intOf i).toNat)
  case atStart => exact ⟨0, Nat.zero_le _, rfl, RowKit.Below.refl _ _, fun j hj => absurd hj (by omega)⟩
  case round =>
    obtain ⟨k, hk, rfl, hB, hno⟩ := hrel
    by_cases hlt : k < l.length
    · obtain ⟨b, off, rfl, _, hb, hc⟩ := HL.out.at k hlt wr hB
      have hin : nth l k ∈ l := nth_mem.2 ⟨k, hlt, rfl⟩
      have CP := Lib.hid (HPP.out wr hB _ hin)
      cases hq : p (nth l k) with
      | true =>
        have hany : Hid (l.any p = true) := List.any_eq_true.2 ⟨_, hin, hq⟩
        rw [hq] at CP
        clear hq hin
        go_wp2_with fail
        refine CP.out.mono ?_
        rintro e w5 ⟨rfl, hB5⟩
        have B5 := Lib.hid (bel_below hB hB5)
        clear hB5
        go_wp2_with fail
        go_ret
        exact ⟨k, rfl, by rw [hany.out]; simp, B5.out⟩
      | false =>
        have HQ := Lib.hid hq
        rw [hq] at CP
        clear hq hin
        go_wp2_with fail
        refine CP.out.mono ?_
        rintro e w5 ⟨rfl, hB5⟩
        have B5 := Lib.hid (bel_below hB hB5)
        clear hB5
        go_wp2_with fail
        go_roundw
        case rel =>
          go_light
          refine ⟨k + 1, by omega, by go_num, B5.out, fun j hj => ?_⟩
          by_cases e : j = k
          · subst e; exact HQ.out
          · exact hno.out j (by omega)
        case measure => go_light; simp [intOf]; omega
    · obtain rfl : k = l.length := by omega
      have hany : Hid (l.any p = false) := show l.any p = false by
        rw [List.any_eq_false]
        intro x hx
        obtain ⟨j, hj, rfl⟩ := nth_mem.1 hx
        simp [hno.out j hj]
      go_wp2_with fail
      go_ret
      exact ⟨-1, rfl, by rw [hany.out]; rfl, hB⟩
theorem contains_at (w : World) (v : Value) (l : List Int) (p : Int → Bool) (gf : Nat) (lb : Array Value) (hl : SlAt 0 (fun i => .int .i64 (nth l i)) l.length w v) (hlm : l.length ≤ 4000000000)
    (heg : ∀ args w, (callFunc gf args).run Tryz.prog w = .ok (.enter gf args) w)
    (hp : ∀ wr, RowKit.Below w.heap.size w wr → ∀ x ∈ l, Calls Tryz.prog gf (#[.int .i64 x] ++ lb) wr fun e w' => e = .returned (.bool (p x)) ∧ RowKit.Below wr.heap.size wr w') :
    Calls Tryz.prog 98 #[v, .func (.func gf) #[] lb] w fun e w' => e = .returned (.bool (l.any p)) ∧ RowKit.Below w.heap.size w w' := by
  have CX := Lib.hid (indexp_at w v l p gf lb hl hlm heg hp)
  clear hl hp
  go_enter Tryz.func98, Tryz.ntmps98
  go_wp2_with fail
  refine CX.out.mono ?_
  rintro e w' ⟨r, rfl, hr, hB⟩
  have HR := Lib.hid hr
  clear hr
  go_wp2_with fail
  go_ret
  exact ⟨by rw [← HR.out]; first | done | rfl, hB⟩

theorem isB_any (f : RS) : isB f = !((circ f).any fun n => !okN f (circ f) n) := by
  unfold isB
  rw [List.not_any_eq_all_not]
  simp
theorem enter_is1 (args : Array Value) (w : World) : (callFunc 99 args).run Tryz.prog w = .ok (.enter 99 args) w := by kernel_rfl
set_option maxRecDepth 100000 in
set_option maxHeartbeats 4000000 in
theorem is_at (h : RAt S w rb mb g f) (I : Inv f) : Calls Tryz.prog 45 #[.pointer (some ⟨rb, 0, none⟩)] w fun e w' => e = .returned (.bool (isB f)) ∧ RowKit.Below w.heap.size w w' := by
  have CO := Lib.hid (fun wr (hb : RowKit.Below w.heap.size w wr) => of_at (h.below hb) I)
  have H := Lib.hid h
  have hlen : (circ f).length ≤ 32 := by rw [circ_len]; exact length_liveL f
  have hmem := Lib.hid (fun x => (circ_mem I (x := x)).1)
  have hB := Lib.hid (isB_any f)
  obtain ⟨c, hc⟩ : ∃ c, c = circ f := ⟨_, rfl⟩
  rw [← hc] at CO hlen hmem hB
  clear h hc I
  go_enter Tryz.func45, Tryz.ntmps45
  go_wp2_with fail
  refine (CO.out _ (by (repeat (first | exact Below.refl _ _ | (with_reducible assumption) | (with_reducible refine bel_later ?_ _) | (with_reducible refine bel_alloc ?_ _) | (with_reducible refine bel_drew ?_) | (with_reducible refine bel_drewN ?_ _) | (with_reducible refine bel_set ?_ (by first | (simp; done) | (simp; omega) | (dsimp only; omega)) _))))).mono ?_
  rintro e w2 ⟨av, iv, rfl, hsa, hsi, hB2⟩
  obtain ⟨aa, ac, rfl, _⟩ := hsa.slice
  obtain ⟨ia, ic, rfl, _⟩ := hsi.slice
  obtain ⟨w4, hw4⟩ : ∃ z, z = w2.alloc (.cells #[.slice aa c.length ac, .slice ia c.length ic] 38) := ⟨_, rfl⟩
  have B24 : RowKit.Below w2.heap.size w2 w4 := by rw [hw4]; exact bel_alloc (RowKit.Below.refl _ _) _
  have k1 : w4.cell? ⟨w.heap.size, 0, none⟩ = some (.pointer (some ⟨rb, 0, none⟩)) := by
    rw [B24.cell (by have := hB2.size; simp at this; dsimp only; omega), hB2.cell (by simp)]; simp [go_sem]
  have k20 : w4.cell? ⟨w2.heap.size, 0, none⟩ = some (.slice aa c.length ac) := by rw [hw4]; simp [go_sem]
  have k21 : w4.cell? ⟨w2.heap.size, 1, none⟩ = some (.slice ia c.length ic) := by rw [hw4]; simp [go_sem]
  have kz2 : w2.heap.size < w4.heap.size := by rw [hw4]; simp
  have kz1 : w.heap.size < w4.heap.size := by have := hB2.size; simp at this; omega
  have B4 : RowKit.Below w.heap.size w w4 := bel_below (bel_below (bel_alloc (RowKit.Below.refl _ _) _) hB2) B24
  have sa4 := (hsa.base (Nat.zero_le _)).below B24
  have si4 := (hsi.base (Nat.zero_le _)).below B24
  have CC := Lib.hid (contains_at w4 (.slice aa c.length ac) c (fun n => !okN f c n) 99 #[.pointer (some ⟨w.heap.size, 0, none⟩), .pointer (some ⟨w2.heap.size, 0, none⟩)] sa4 (by omega) enter_is1
    (fun wr hb x hx => is1_at (H.out.below (bel_below B4 hb)) c (.slice aa c.length ac) (.slice ia c.length ic) (sa4.below hb) (si4.below hb) (by omega) w.heap.size w2.heap.size ((hb.cell (p := ⟨w.heap.size, 0, none⟩) kz1).trans k1) ((hb.cell (p := ⟨w2.heap.size, 0, none⟩) kz2).trans k20) ((hb.cell (p := ⟨w2.heap.size, 1, none⟩) kz2).trans k21) (Nat.lt_of_lt_of_le kz1 hb.size) (Nat.lt_of_lt_of_le kz2 hb.size) x hx (hmem.out x hx)))
  have HW4 := Lib.hid hw4
  clear hw4 hsa hsi hB2 B24 sa4 si4
  go_upto_region 2 with (fail)
  rw [← HW4.out]
  go_wp2_with fail
  refine CC.out.mono ?_
  rintro e w5 ⟨rfl, hB5⟩
  have B5 := Lib.hid (bel_below B4 hB5)
  clear hB5
  go_wp2_with fail
  go_ret
  exact ⟨by rw [hB.out]; first | done | rfl, B5.out⟩
end Go.Proofs.YtidlmlecgjoddaaGreatDoor
