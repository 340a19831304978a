

/-
  The document's ways: whose a place is, who is next, the way, the fingers.
-/
import Derived.Test.YtbhaapkafgieiaaGreatDoorMade
import Derived.Test.YtbhaapkafgieiaaGreatDoorRouteD
namespace Go.Proofs.YtbhaapkafgieiaaGreatDoor
open Go.RowKit Go.Maps Go.Sort Go.WideShapes Go.ChangeShapes Go.Deep
set_option linter.unusedVariables false
set_option linter.unusedSimpArgs false
attribute [local go_sem] later_cell later_frozen later_lt cell_set_off cell_set_block

theorem rin_eq {x a b : Int} (hx : isPlace x) (ha : isPlace a) (hb : isPlace b) :
    inB x a b = (if a == b then true else if a < b then decide (a < x) && decide (x ≤ b) else decide (a < x) || decide (x ≤ b)) := by
  by_cases h : a = b
  · simp [inB, h]
  · have e : (a == b) = false := by simp [h]
    unfold inB; rw [e]; simp only [Bool.false_or, Bool.false_eq_true, if_false]
    rw [Bool.eq_iff_iff, Bool.and_eq_true, bne_iff_ne, decide_eq_true_eq]
    unfold isPlace dist at *
    by_cases h2 : a < b
    · rw [if_pos h2, Bool.and_eq_true, decide_eq_true_eq, decide_eq_true_eq]; omega
    · rw [if_neg h2, Bool.or_eq_true, decide_eq_true_eq, decide_eq_true_eq]; omega
theorem rin_any (x a b : Int) (w : World) (hx : isPlace x) (ha : isPlace a) (hb : isPlace b) :
    Calls Tryz.prog 65 #[.int .u64 x, .int .u64 a, .int .u64 b] w fun e w' => e = .returned (.bool (inB x a b)) ∧ w = w' := by
  have E := Lib.hid (rin_eq hx ha hb)
  go_enter Tryz.func65, Tryz.ntmps65
  go_wp2
  all_goals (go_ret; go_light; exact ⟨by rw [E.out]; simp_all <;> (intros; first | omega | (exfalso; omega)), rfl⟩)
theorem pow_bdQ (n : Nat) (h : n ≤ 63) : (1 : Int) ≤ 2 ^ n ∧ (2 : Int) ^ n ≤ 9223372036854775808 := by
  have h1 : (1 : Nat) ≤ 2 ^ n := Nat.one_le_two_pow
  have h2 : (2 : Nat) ^ n ≤ 2 ^ 63 := Nat.pow_le_pow_right (by omega) h
  have h3 : (2 : Nat) ^ 63 = 9223372036854775808 := by decide +kernel
  rw [h3] at h2
  have e : ((2 : Int) ^ n) = ((2 ^ n : Nat) : Int) := by rw [Int.natCast_pow]; rfl
  rw [e]; generalize (2 : Nat) ^ n = t at *; omega
theorem rstartQ (x : Int) (m : Nat) (h3 : m ≤ 63) (w : World) :
    Calls Tryz.prog 57 #[.int .u64 x, .int .i64 m] w fun e w' => e = .returned (.int .u64 (startR x m)) ∧ w = w' := by
  have h1 : ¬ (m : Int) < 0 := by omega
  have h2 : ¬ (63 : Int) < m := by omega
  have E : Hid (startR x m = (x + 2 ^ m) % 18446744073709551616) := show startR x m = _ from rfl
  obtain ⟨sx, hsx⟩ : ∃ z, z = startR x m := ⟨_, rfl⟩
  rw [← hsx] at E ⊢
  clear hsx
  go_enter Tryz.func57, Tryz.ntmps57
  go_wp2
  go_loop [5, 6] (fun p i => ∃ k : Nat, k ≤ m ∧ i = .int .i64 k ∧ p = .int .u64 (2 ^ k)) (fun _ i => m - (intOf i).toNat)
  case atStart => exact ⟨0, Nat.zero_le _, rfl, rfl⟩
  case round =>
    obtain ⟨k, hk, rfl, rfl⟩ := hrel
    have hp := pow_bdQ k (by omega)
    by_cases hlt : k < m
    · have hp2 := pow_bdQ (k + 1) (by omega)
      have e : IntKind.u64.wrap (2 * 2 ^ k) = 2 ^ (k + 1) := by
        rw [IntKind.wrap_u64, show (2 : Int) * 2 ^ k = 2 ^ (k + 1) from by rw [Int.pow_succ]; omega, Int.emod_eq_of_lt (by omega) (by omega)]
      have E2 := Lib.hid e
      clear e hp hp2
      go_wp2
      go_round
      case rel => go_light; exact ⟨k + 1, by omega, by go_num, by rw [E2.out]⟩
      case measure => go_light; simp [intOf]; omega
    · go_wp2
      go_ret
      obtain rfl : k = m := by omega
      exact ⟨by rw [E.out]; show Ending.returned (.int .u64 (IntKind.u64.wrap (x + 2 ^ k))) = _; rw [IntKind.wrap_u64], rfl⟩

/-- The fingers by addresses: a row of 32 lists in block vb. -/
structure TabIs (Z : Nat → Prop) (w : World) (vb : Nat) (G : Int → List Int) : Prop where
  z : vb < w.heap.size
  cell : ∀ k : Nat, k < 32 → ∃ v, w.cell? ⟨vb, k, none⟩ = some v ∧ SlIn Z (G k) w v
  frz : ∀ k : Nat, w.frozen? ⟨vb, k, none⟩ = false
  len : ∀ n, (G n).length ≤ 64
  dom : ∀ n, ∀ x ∈ G n, 0 ≤ x ∧ x < 32
variable {Q Z Z' : Nat → Prop} {w w' : World} {p : Where} {f : RS} {V : Nat → Value} {vb : Nat} {G : Int → List Int}
theorem TabIs.same (h : TabIs Z w vb G) (hs : w.heap.size ≤ w'.heap.size) (hb : ∀ b, b < w.heap.size → Z b ∨ b = vb → w'.heap[b]? = w.heap[b]?) (hZ : ∀ b, b < w.heap.size → Z b → Z' b) : TabIs Z' w' vb G where
  z := Nat.lt_of_lt_of_le h.z hs
  cell := fun k hk => by
    obtain ⟨v, h1, h2⟩ := h.cell k hk
    exact ⟨v, (World.cell?_of_block (hb vb h.z (Or.inr rfl))).trans h1, h2.imp hZ hs fun b hb' hq => hb b hb' (Or.inl hq)⟩
  frz := fun k => (World.frozen?_of_block (hb vb h.z (Or.inr rfl))).trans (h.frz k)
  len := h.len
  dom := h.dom
theorem TabIs.below (h : TabIs Z w vb G) (hb : RowKit.Below w.heap.size w w') : TabIs Z w' vb G := h.same hb.size (fun b hb' _ => hb.block b hb') fun _ _ h => h
/-- One list is put into the row. -/
theorem TabIs.set (h : TabIs Z w vb G) (hvb : ¬ Z vb) {n : Nat} (hn : n < 32) {l : List Int} {v : Value} (hv : SlIn Z l w v) (hl : l.length ≤ 64) (hd : ∀ x ∈ l, 0 ≤ x ∧ x < 32) : TabIs Z (w.setCell ⟨vb, n, none⟩ v) vb (setL G n l) where
  z := by rw [size_set]; exact h.z
  cell := fun k hk => by
    obtain ⟨u, h1, h2⟩ := h.cell k hk
    have imp : ∀ (L : List Int) (x : Value), SlIn Z L w x → SlIn Z L (w.setCell ⟨vb, n, none⟩ v) x := fun L x hx => hx.imp (fun _ _ h => h) (by rw [size_set]; exact Nat.le_refl _) fun b hb hz => Below.heap_setCell _ _ _ _ fun e => hvb (by first | exact e ▸ hz | (have e' : b = vb := e; exact e' ▸ hz) | (have e' : vb = b := e; exact e'.symm ▸ hz))
    by_cases e : k = n
    · subst e
      refine ⟨v, World.cell?_setCell_same _ _ _ h1, ?_⟩
      unfold setL
      rw [if_pos rfl]
      exact imp _ _ hv
    · refine ⟨u, (cell_set_off _ _ _ _ _ (fun e' => e e'.symm)).trans h1, ?_⟩
      unfold setL
      rw [if_neg (by omega)]
      exact imp _ _ h2
  frz := fun k => by rw [World.frozen?_setCell]; exact h.frz k
  len := fun k => by unfold setL; split <;> first | exact hl | exact h.len k
  dom := fun k x hx => by unfold setL at hx; split at hx <;> first | exact hd x hx | exact h.dom k x hx

set_option maxRecDepth 100000 in
set_option maxHeartbeats 1000000 in
theorem rowns_any (h : RefRows Q w p f V) (hd : Dom f) (id pred x : Int) (hx : isPlace x) (hid : isPlace id) (a : Option Addr) (ln cap : Nat) :
    Calls Tryz.prog 33 #[.agg #[.int .u64 id, .int .i64 pred, .slice a ln cap], .int .u64 x, (.agg #[.slice (some ⟨p.b2, p.o2, none⟩) 32 p.k2, .slice (some ⟨p.b3, p.o3, none⟩) 32 p.k3])] w fun e w' => e = .returned (.bool (ownsV f id pred x)) ∧ RowKit.Below w.heap.size w w' := by
  have hl := Lib.hid fun (wr : World) (hb : RowKit.Below w.heap.size w wr) => rlives_any (h.below hb) hd pred
  have hd1 := Lib.hid fun (wr : World) (hb : RowKit.Below w.heap.size w wr) => rid_any (h.below hb) hd pred
  have hi := Lib.hid fun (wr : World) => rin_any x (idR f pred) id wr hx (idR_place hd pred) hid
  have hc : (pred != -1) = false ∧ ownsV f id pred x = false ∨ (pred != -1) = true ∧ (livesR f pred = false ∧ ownsV f id pred x = false ∨ livesR f pred = true ∧ ownsV f id pred x = inB x (idR f pred) id) := by
    unfold ownsV
    cases h1 : pred != -1 <;> cases h2 : livesR f pred <;> simp
  clear h hd hx hid
  rcases hc with ⟨c1, E⟩ | ⟨c1, ⟨c2, E⟩ | ⟨c2, E⟩⟩
  all_goals
    have EE := Lib.hid E
    clear E
    go_enter Tryz.func33, Tryz.ntmps33
    go_wp2_with fail
    refine wp_region_calm (by kernel_rfl) (by kernel_rfl) ?_
    repeat (first | (go_big_quiet_step ((first | (go_at_call 24; exact calls_calm (hl.out _ (by (repeat (first | exact Below.refl _ _ | (with_reducible assumption) | (with_reducible refine bel_later ?_ _) | (with_reducible refine bel_alloc ?_ _) | (with_reducible refine bel_drew ?_) | (with_reducible refine bel_drewN ?_ _) | (with_reducible refine bel_set ?_ (by first | (simp; done) | (simp; omega) | (dsimp only; omega)) _)))))) | (go_at_call 66; exact calls_calm (hd1.out _ (by (repeat (first | exact Below.refl _ _ | (with_reducible assumption) | (with_reducible refine bel_later ?_ _) | (with_reducible refine bel_alloc ?_ _) | (with_reducible refine bel_drew ?_) | (with_reducible refine bel_drewN ?_ _) | (with_reducible refine bel_set ?_ (by first | (simp; done) | (simp; omega) | (dsimp only; omega)) _)))))) | (go_at_call 65; exact calls_calm_same (hi.out _))))) | (refine wpQuiet_step (fun K hK => ?_); go_simp; first | (refine hK _ ?_; clear hK K) | (apply Exists.intro; refine ⟨fun _ => ?_, hK _ ?_⟩; (first | (go_at_call 24; exact calls_calm (hl.out _ (by (repeat (first | exact Below.refl _ _ | (with_reducible assumption) | (with_reducible refine bel_later ?_ _) | (with_reducible refine bel_alloc ?_ _) | (with_reducible refine bel_drew ?_) | (with_reducible refine bel_drewN ?_ _) | (with_reducible refine bel_set ?_ (by first | (simp; done) | (simp; omega) | (dsimp only; omega)) _)))))) | (go_at_call 66; exact calls_calm (hd1.out _ (by (repeat (first | exact Below.refl _ _ | (with_reducible assumption) | (with_reducible refine bel_later ?_ _) | (with_reducible refine bel_alloc ?_ _) | (with_reducible refine bel_drew ?_) | (with_reducible refine bel_drewN ?_ _) | (with_reducible refine bel_set ?_ (by first | (simp; done) | (simp; omega) | (dsimp only; omega)) _)))))) | (go_at_call 65; exact calls_calm_same (hi.out _))); clear hK K)))
    refine wpQuiet_nil ?_
    intro _ hw'
    obtain ⟨xq, hw''⟩ := hw'
    subst hw''
    go_wp2_with fail
    go_ret
    exact ⟨by rw [EE.out]; first | done | rfl, by (repeat (first | exact Below.refl _ _ | (with_reducible assumption) | (with_reducible refine bel_later ?_ _) | (with_reducible refine bel_alloc ?_ _) | (with_reducible refine bel_drew ?_) | (with_reducible refine bel_drewN ?_ _) | (with_reducible refine bel_set ?_ (by first | (simp; done) | (simp; omega) | (dsimp only; omega)) _)))⟩

/-! ### Next -/
theorem own_shapeQ {w : World} {base e n k : Nat} {v : Value} {xs : List Value} (h : w.ownsRow base e k v n xs) : ∃ a c, v = .slice a n c := by
  rcases h.2 with ⟨rfl, rfl⟩ | ⟨g', cap', cur, rfl, _⟩
  · exact ⟨_, _, rfl⟩
  · exact ⟨_, _, rfl⟩
set_option maxRecDepth 100000 in
set_option maxHeartbeats 8000000 in
theorem rnext_any (h : RefIs Q w p f V) (I : Inv f) (hT : TabIs Z w vb G) (n : Int) (hlv : livesR f n = true) (x : Int) (hx : isPlace x) :
    Calls Tryz.prog 30 #[(.agg #[.slice (some ⟨(p).b1, (p).o1, none⟩) 32 (p).k1, .slice (some ⟨(p).b2, (p).o2, none⟩) 32 (p).k2, .slice (some ⟨(p).b3, (p).o3, none⟩) 32 (p).k3, .slice (some ⟨(p).b4, (p).o4, none⟩) 32 (p).k4]), .slice (some ⟨vb, 0, none⟩) 32 32, .int .i64 n, .int .u64 x] w fun e w' => e = .returned (.int .i64 (nextR f G n x)) ∧ RowKit.Below w.heap.size w w' := by
  obtain ⟨i0, hi, hz0, hz1, hz2⟩ : ∃ i0, Tryz.prog.info? 3 = some i0 ∧ i0.zero = some (Value.int .i64 0) ∧ i0.size = 1 ∧ i0.bytes = 8 := ⟨intI, intI_at, by kernel_rfl, by kernel_rfl, by kernel_rfl⟩
  have hnd := livesR_dom I.dom hlv
  obtain ⟨m, rfl⟩ : ∃ m : Nat, n = m := ⟨n.toNat, by omega⟩
  have hm : m < 32 := by omega
  have hd := succR_dom I.dom (m : Int)
  obtain ⟨c0, c1, c2⟩ := h.rows.at_peer hm
  have cz := h.rows.peers.z
  have hVs := (h.list m hm).slAt
  obtain ⟨va, vc, hve, _⟩ := (h.list m hm).slice
  rw [hve] at c2 hVs
  obtain ⟨tv, t0, htl⟩ := hT.cell m hm
  have hts := htl.slAt
  obtain ⟨ta, tc, rfl, _⟩ := htl.slice
  have tz := hT.z
  have hgl := hT.len (m : Int)
  have HI := Lib.hid (idR_place I.dom)
  have HBE : Hid (ownsV f (idR f m) (predR f m) x = ownsR f m x) := show ownsV _ _ _ _ = _ from rfl
  have HNX : Hid (nextR f G m x = if (idR f m == x || ownsR f m x) = true then (m : Int) else if inB x (idR f m) (idR f (headR f m)) = true then headR f m else (succR f m ++ G m).foldl (pickR f m x) (headR f m)) := show nextR f G m x = _ from rfl
  have HR := Lib.hid h
  have HDM := Lib.hid I.dom
  obtain ⟨nx, hnx⟩ : ∃ z, z = nextR f G m x := ⟨_, rfl⟩
  obtain ⟨ow, how⟩ : ∃ z, z = ownsR f m x := ⟨_, rfl⟩
  obtain ⟨id, hid⟩ : ∃ z, z = idR f m := ⟨_, rfl⟩
  obtain ⟨pr, hpr⟩ : ∃ z, z = predR f m := ⟨_, rfl⟩
  obtain ⟨hh, hhh⟩ : ∃ z, z = headR f m := ⟨_, rfl⟩
  obtain ⟨sl, hsl⟩ : ∃ z, z = succR f m := ⟨_, rfl⟩
  obtain ⟨fl, hfl⟩ : ∃ z, z = G m := ⟨_, rfl⟩
  have HHL : Hid (headL f sl = hh) := show headL f sl = hh by rw [hsl, hhh]; rfl
  have HIP : Hid (isPlace id) := show isPlace id by rw [hid]; exact idR_place I.dom _
  rw [← hid] at c0
  rw [← hpr] at c1
  rw [← hsl] at c2 hVs hd
  rw [← hfl] at t0 hts hgl
  rw [← how, ← hid, ← hpr] at HBE
  rw [← hnx, ← how, ← hid, ← hhh, ← hsl, ← hfl] at HNX
  rw [← hnx]
  have hl3 := hd.1
  have S0 := Lib.hid hVs
  have T0 := Lib.hid hts
  clear hid hpr hsl hlv h I hT hnx how hhh hfl hd hVs hts htl hve hnd
  go_enter Tryz.func30, Tryz.ntmps30
  go_upto_region 2 with (fail)
  obtain ⟨w1, hw1⟩ : ∃ z, z = (w.alloc (.cells #[.slice (some ⟨p.b1, p.o1, none⟩) 32 p.k1, .slice (some ⟨p.b2, p.o2, none⟩) 32 p.k2, .slice (some ⟨p.b3, p.o3, none⟩) 32 p.k3, .slice (some ⟨p.b4, p.o4, none⟩) 32 p.k4] 33)).alloc (.cells #[.int .u64 id, .int .i64 pr, .slice va sl.length vc] 75) := ⟨_, rfl⟩
  obtain ⟨R, hR⟩ : ∃ z, z = w.heap.size := ⟨_, rfl⟩
  obtain ⟨PB, hPB⟩ : ∃ z, z = R + 1 := ⟨_, rfl⟩
  have B1 : Hid (RowKit.Below w.heap.size w w1) := by rw [hw1]; exact bel_alloc (bel_alloc (RowKit.Below.refl _ _) _) _
  have j0 : w1.cell? ⟨R, 0, none⟩ = some (.slice (some ⟨p.b1, p.o1, none⟩) 32 p.k1) := by rw [hw1, hR]; simp [go_sem]
  have j1 : w1.cell? ⟨R, 1, none⟩ = some (.slice (some ⟨p.b2, p.o2, none⟩) 32 p.k2) := by rw [hw1, hR]; simp [go_sem]
  have j2 : w1.cell? ⟨R, 2, none⟩ = some (.slice (some ⟨p.b3, p.o3, none⟩) 32 p.k3) := by rw [hw1, hR]; simp [go_sem]
  have j3 : w1.cell? ⟨R, 3, none⟩ = some (.slice (some ⟨p.b4, p.o4, none⟩) 32 p.k4) := by rw [hw1, hR]; simp [go_sem]
  have jz : R < w1.heap.size := by rw [hw1, hR]; simp; omega
  have q0 : w1.cell? ⟨PB, 0, none⟩ = some (.int .u64 id) := by rw [hw1, hPB, hR]; simp [go_sem]
  have q1 : w1.cell? ⟨PB, 1, none⟩ = some (.int .i64 pr) := by rw [hw1, hPB, hR]; simp [go_sem]
  have q2 : w1.cell? ⟨PB, 2, none⟩ = some (.slice va sl.length vc) := by rw [hw1, hPB, hR]; simp [go_sem]
  have qz : PB < w1.heap.size := by rw [hw1, hPB, hR]; simp
  have S1 := Lib.hid (S0.out.below B1.out)
  have T1 := Lib.hid (T0.out.below B1.out)
  have t0 := (B1.out.cell (p := ⟨vb, m, none⟩) tz).trans t0
  have tz := Nat.lt_of_lt_of_le tz B1.out.size
  have CO := Lib.hid fun wr (hb : RowKit.Below w1.heap.size w1 wr) => rowns_any (HR.out.rows.below (bel_below B1.out hb)) HDM.out id pr x hx HIP.out va sl.length vc
  rw [HBE.out] at CO
  rw [← hw1]
  try rw [← hR]
  try rw [← hPB]
  clear hw1 hR hPB S0 T0 c0 c1 c2 cz
  by_cases d1 : (id == x || ow) = true
  · rw [if_pos d1] at HNX
    have hc : (id == x) = true ∨ (id == x) = false ∧ ow = true := by
      cases h1 : id == x <;> simp_all
    clear d1
    rcases hc with d1 | ⟨d1, d2⟩
    · go_wp2_with fail
      go_ret
      exact ⟨by rw [HNX.out]; first | done | rfl, B1.out⟩
    · rw [d2] at CO
      go_wp2_with (go_at_call 33; refine (CO.out _ (RowKit.Below.refl _ _)).mono ?_; rintro e w2 ⟨rfl, hb2⟩)
      go_ret
      exact ⟨by rw [HNX.out]; first | done | rfl, bel_below B1.out hb2⟩
  · rw [if_neg d1] at HNX
    have hc : (id == x) = false ∧ ow = false := by
      cases h1 : id == x <;> simp_all
    clear d1
    obtain ⟨d1, d2⟩ := hc
    rw [d2] at CO
    go_wp2_with fail
    refine (CO.out _ (RowKit.Below.refl _ _)).mono ?_
    rintro e w2 ⟨rfl, hb2⟩
    have j0 := ((hb2).cell (p := ⟨R, 0, none⟩) jz).trans j0
    have j1 := ((hb2).cell (p := ⟨R, 1, none⟩) jz).trans j1
    have j2 := ((hb2).cell (p := ⟨R, 2, none⟩) jz).trans j2
    have j3 := ((hb2).cell (p := ⟨R, 3, none⟩) jz).trans j3
    have jz := Nat.lt_of_lt_of_le jz (hb2).size
    have q0 := ((hb2).cell (p := ⟨PB, 0, none⟩) qz).trans q0
    have q1 := ((hb2).cell (p := ⟨PB, 1, none⟩) qz).trans q1
    have q2 := ((hb2).cell (p := ⟨PB, 2, none⟩) qz).trans q2
    have qz := Nat.lt_of_lt_of_le qz (hb2).size
    have t0 := (hb2.cell (p := ⟨vb, m, none⟩) tz).trans t0
    have tz := Nat.lt_of_lt_of_le tz hb2.size
    have B2 := Lib.hid (bel_below B1.out hb2)
    have S2 := Lib.hid (S1.out.below hb2)
    have T2 := Lib.hid (T1.out.below hb2)
    have CH := Lib.hid (rhead_any (HR.out.rows.below B2.out) HDM.out sl (by omega) (.slice va sl.length vc) S2.out id pr)
    rw [HHL.out] at CH
    clear CO hb2 B1 S1 T1 d1 d2
    go_wp2_with fail
    refine CH.out.mono ?_
    rintro e w3 ⟨rfl, hb3⟩
    have j0 := ((hb3).cell (p := ⟨R, 0, none⟩) jz).trans j0
    have j1 := ((hb3).cell (p := ⟨R, 1, none⟩) jz).trans j1
    have j2 := ((hb3).cell (p := ⟨R, 2, none⟩) jz).trans j2
    have j3 := ((hb3).cell (p := ⟨R, 3, none⟩) jz).trans j3
    have jz := Nat.lt_of_lt_of_le jz (hb3).size
    have q0 := ((hb3).cell (p := ⟨PB, 0, none⟩) qz).trans q0
    have q1 := ((hb3).cell (p := ⟨PB, 1, none⟩) qz).trans q1
    have q2 := ((hb3).cell (p := ⟨PB, 2, none⟩) qz).trans q2
    have qz := Nat.lt_of_lt_of_le qz (hb3).size
    have t0 := (hb3.cell (p := ⟨vb, m, none⟩) tz).trans t0
    have tz := Nat.lt_of_lt_of_le tz hb3.size
    have B3 := Lib.hid (bel_below B2.out hb3)
    have S3 := Lib.hid (S2.out.below hb3)
    have T3 := Lib.hid (T2.out.below hb3)
    clear CH hb3 B2 S2 T2
    have CD := Lib.hid fun wr (hb : RowKit.Below w3.heap.size w3 wr) => rid_any (HR.out.rows.below (bel_below B3.out hb)) HDM.out hh
    obtain ⟨b4, hb4⟩ : ∃ z, z = inB x id (idR f hh) := ⟨_, rfl⟩
    have CI : Hid (∀ w', Calls Tryz.prog 65 #[.int .u64 x, .int .u64 id, .int .u64 (idR f hh)] w' fun e w'' => e = .returned (.bool b4) ∧ w' = w'') := fun w' => hb4 ▸ rin_any _ _ _ _ hx HIP.out (HI.out hh)
    rw [← hb4] at HNX
    clear hb4
    cases b4 with
    | true =>
      rw [if_pos rfl] at HNX
      go_wp2_with fail
      refine wp_region_calm (by kernel_rfl) (by kernel_rfl) ?_
      repeat (first | (go_big_quiet_step ((first | (go_at_call 66; exact calls_calm (CD.out _ (by (repeat (first | exact Below.refl _ _ | (with_reducible assumption) | (with_reducible refine bel_later ?_ _) | (with_reducible refine bel_alloc ?_ _) | (with_reducible refine bel_drew ?_) | (with_reducible refine bel_drewN ?_ _) | (with_reducible refine bel_set ?_ (by first | (simp; done) | (simp; omega) | (dsimp only; omega)) _)))))) | (go_at_call 65; exact calls_calm_same (CI.out _))))) | (refine wpQuiet_step (fun K hK => ?_); go_simp; first | (refine hK _ ?_; clear hK K) | (apply Exists.intro; refine ⟨fun _ => ?_, hK _ ?_⟩; (first | (go_at_call 66; exact calls_calm (CD.out _ (by (repeat (first | exact Below.refl _ _ | (with_reducible assumption) | (with_reducible refine bel_later ?_ _) | (with_reducible refine bel_alloc ?_ _) | (with_reducible refine bel_drew ?_) | (with_reducible refine bel_drewN ?_ _) | (with_reducible refine bel_set ?_ (by first | (simp; done) | (simp; omega) | (dsimp only; omega)) _)))))) | (go_at_call 65; exact calls_calm_same (CI.out _))); clear hK K)))
      refine wpQuiet_nil ?_
      intro _ hw'
      obtain ⟨xq, hw''⟩ := hw'
      subst hw''
      go_wp2_with fail
      go_ret
      exact ⟨by rw [HNX.out]; first | done | rfl, by have := B3.out; (repeat (first | exact Below.refl _ _ | (with_reducible assumption) | (with_reducible refine bel_later ?_ _) | (with_reducible refine bel_alloc ?_ _) | (with_reducible refine bel_drew ?_) | (with_reducible refine bel_drewN ?_ _) | (with_reducible refine bel_set ?_ (by first | (simp; done) | (simp; omega) | (dsimp only; omega)) _)))⟩
    | false =>
      rw [if_neg (by decide)] at HNX
      go_wp2_with fail
      refine wp_region_calm (by kernel_rfl) (by kernel_rfl) ?_
      repeat (first | (go_big_quiet_step ((first | (go_at_call 66; exact calls_calm (CD.out _ (by (repeat (first | exact Below.refl _ _ | (with_reducible assumption) | (with_reducible refine bel_later ?_ _) | (with_reducible refine bel_alloc ?_ _) | (with_reducible refine bel_drew ?_) | (with_reducible refine bel_drewN ?_ _) | (with_reducible refine bel_set ?_ (by first | (simp; done) | (simp; omega) | (dsimp only; omega)) _)))))) | (go_at_call 65; exact calls_calm_same (CI.out _))))) | (refine wpQuiet_step (fun K hK => ?_); go_simp; first | (refine hK _ ?_; clear hK K) | (apply Exists.intro; refine ⟨fun _ => ?_, hK _ ?_⟩; (first | (go_at_call 66; exact calls_calm (CD.out _ (by (repeat (first | exact Below.refl _ _ | (with_reducible assumption) | (with_reducible refine bel_later ?_ _) | (with_reducible refine bel_alloc ?_ _) | (with_reducible refine bel_drew ?_) | (with_reducible refine bel_drewN ?_ _) | (with_reducible refine bel_set ?_ (by first | (simp; done) | (simp; omega) | (dsimp only; omega)) _)))))) | (go_at_call 65; exact calls_calm_same (CI.out _))); clear hK K)))
      refine wpQuiet_nil ?_
      intro _ hw'
      obtain ⟨xq, hw''⟩ := hw'
      subst hw''
      obtain ⟨w4, hb4⟩ := xq
      dsimp only
      have j0 := ((hb4).cell (p := ⟨R, 0, none⟩) jz).trans j0
      have j1 := ((hb4).cell (p := ⟨R, 1, none⟩) jz).trans j1
      have j2 := ((hb4).cell (p := ⟨R, 2, none⟩) jz).trans j2
      have j3 := ((hb4).cell (p := ⟨R, 3, none⟩) jz).trans j3
      have jz := Nat.lt_of_lt_of_le jz (hb4).size
      have q0 := ((hb4).cell (p := ⟨PB, 0, none⟩) qz).trans q0
      have q1 := ((hb4).cell (p := ⟨PB, 1, none⟩) qz).trans q1
      have q2 := ((hb4).cell (p := ⟨PB, 2, none⟩) qz).trans q2
      have qz := Nat.lt_of_lt_of_le qz (hb4).size
      have t0 := (hb4.cell (p := ⟨vb, m, none⟩) tz).trans t0
      have tz := Nat.lt_of_lt_of_le tz hb4.size
      have B4 := Lib.hid (bel_below B3.out hb4)
      have S4 := Lib.hid (S3.out.below hb4)
      have T4 := Lib.hid (T3.out.below hb4)
      clear CD CI hb4 B3 S3 T3 q0 q1
      go_wp2_with (at_builtin; refine wpList_app rfl _ _ 39 rfl w4.heap.size 3 i0 (.int .i64 0) 8 Tryz.underlying39 hi hz0 hz1 hz2 rfl _ 0 [] rfl (own_nil w4 3 _ 1 _ rfl (Nat.le_refl _)) 0 _ _ _ rfl (S4.out.below (bel_alloc (RowKit.Below.refl _ _) _)) (fun _ => rfl) ?qa1 ?qa2 ?qa3 ?_)
      case qa1 => simp only [maxLen]; omega
      case qa2 => omega
      case qa3 => simp
      intro v5 w5 ho5 hg5
      have h45 : RowKit.Below w4.heap.size w4 w5 := (bel_alloc (RowKit.Below.refl _ w4) _).grown hg5 (by simp) (fun q hq => by simp [Value.ownBlock] at hq; omega)
      have t0 := (h45.cell (p := ⟨vb, m, none⟩) tz).trans t0
      have tz := Nat.lt_of_lt_of_le tz h45.size
      rw [map_range_nth] at ho5
      have ho5' : w5.ownsRow w4.heap.size 3 1 v5 sl.length (sl.map (Value.int .i64)) := by simpa using ho5
      have O5 := Lib.hid ho5'
      obtain ⟨a5, c5, rfl⟩ := own_shapeQ ho5'
      have B45 := Lib.hid h45
      have T5 := Lib.hid (T4.out.below h45)
      clear ho5 ho5' hg5 h45 T4 S4 q2 qz
      go_wp2_with (at_builtin; refine wpList_app rfl _ _ 39 rfl w4.heap.size 3 i0 (.int .i64 0) 8 Tryz.underlying39 hi hz0 hz1 hz2 rfl _ sl.length _ rfl O5.out 0 _ _ _ rfl T5.out (fun _ => rfl) ?qb1 ?qb2 ?qb3 ?_)
      case qb1 => simp only [maxLen]; omega
      case qb2 => omega
      case qb3 => have := B45.out.size; omega
      intro v6 w6 ho6 hg6
      have B46 : Hid (RowKit.Below w4.heap.size w4 w6) := B45.out.grown hg6 (by have := B45.out.size; omega) (fun q hq => (O5.out.lt q hq).1)
      rw [map_range_nth, ← List.map_append] at ho6
      obtain ⟨L, hL⟩ : ∃ z, z = sl ++ fl := ⟨_, rfl⟩
      have hLl : L.length = sl.length + fl.length := by rw [hL, List.length_append]
      rw [← hL] at ho6 HNX
      have SL := Lib.hid (own_ints ho6)
      obtain ⟨a6, c6, rfl⟩ := own_shapeQ ho6
      rw [← hLl] at SL ⊢
      have B6 := Lib.hid (bel_below B4.out B46.out)
      have j0 := ((B46.out).cell (p := ⟨R, 0, none⟩) jz).trans j0
      have j1 := ((B46.out).cell (p := ⟨R, 1, none⟩) jz).trans j1
      have j2 := ((B46.out).cell (p := ⟨R, 2, none⟩) jz).trans j2
      have j3 := ((B46.out).cell (p := ⟨R, 3, none⟩) jz).trans j3
      have jz := Nat.lt_of_lt_of_le jz (B46.out).size
      have hL67 : L.length ≤ 100 := by omega
      clear ho6 hg6 O5 B45 B46 T5 t0 tz hL B4 hLl hl3 hgl
      go_wp2_with fail
      go_loopw [10, 13, 14, 57] (fun b _ _ i wr => ∃ k : Nat, k ≤ L.length ∧ i = .int .i64 k ∧ Hid (b = .int .i64 ((L.take k).foldl (pickR f m x) hh)) ∧ Hid (RowKit.Below w6.heap.size w6 wr)) (fun _ _ _ i _ => L.length - (intOf i).toNat)
      case atStart => exact ⟨0, by omega, rfl, (show _ = _ from rfl), RowKit.Below.refl _ _⟩
      case round =>
        obtain ⟨k, hk, rfl, hb, hBi⟩ := hrel
        obtain ⟨bk, hbk⟩ : ∃ z, z = (L.take k).foldl (pickR f m x) hh := ⟨_, rfl⟩
        have hbv := hb.out
        rw [← hbk] at hbv
        subst hbv
        have HBK2 := Lib.hid hbk
        have BR := Lib.hid (bel_below B6.out hBi.out)
        clear hb hbk
        by_cases hlk : k < L.length
        · obtain ⟨sb, so, rfl, _, hvz, hv⟩ := SL.out.at k hlk wr hBi.out
          have hsn := picks_snoc f m x hh L hlk
          rw [← HBK2.out] at hsn
          obtain ⟨q, hq⟩ : ∃ z, z = nth L k := ⟨_, rfl⟩
          rw [← hq] at hv hsn
          clear hq
          have j0 := ((hBi.out).cell (p := ⟨R, 0, none⟩) jz).trans j0
          have j1 := ((hBi.out).cell (p := ⟨R, 1, none⟩) jz).trans j1
          have j2 := ((hBi.out).cell (p := ⟨R, 2, none⟩) jz).trans j2
          have j3 := ((hBi.out).cell (p := ⟨R, 3, none⟩) jz).trans j3
          have jz := Nat.lt_of_lt_of_le jz (hBi.out).size
          have CQ := Lib.hid fun wr' (hb : RowKit.Below wr.heap.size wr wr') => rid_any (HR.out.rows.below (bel_below BR.out hb)) HDM.out q
          have CB := Lib.hid fun wr' (hb : RowKit.Below wr.heap.size wr wr') => rid_any (HR.out.rows.below (bel_below BR.out hb)) HDM.out bk
          have CN := Lib.hid fun wr' (hb : RowKit.Below wr.heap.size wr wr') => rnear_any (HR.out.rows.below (bel_below BR.out hb)) HDM.out q (idR f bk) m (HI.out bk)
          obtain ⟨nb, hnb⟩ : ∃ z, z = nearR f q (idR f bk) m := ⟨_, rfl⟩
          obtain ⟨wb, hwb⟩ : ∃ z, z = withinB (idR f q) (idR f bk) x := ⟨_, rfl⟩
          have CW : Hid (∀ w', Calls Tryz.prog 68 #[.int .u64 (idR f q), .int .u64 (idR f bk), .int .u64 x] w' fun e w'' => e = .returned (.bool wb) ∧ w' = w'') := fun w' => hwb ▸ rwithin_any _ _ _ _ (HI.out q) (HI.out bk) hx
          have hpk : pickR f m x bk q = if (nb && wb) = true then q else bk := by unfold pickR betterR; rw [← hnb, ← hwb]
          rw [← hnb] at CN
          rw [hpk] at hsn
          have HSN := Lib.hid hsn
          clear hnb hwb hsn hpk
          go_wp2_with fail
          refine (CB.out _ (RowKit.Below.refl _ _)).mono ?_
          rintro e wx ⟨rfl, hbx⟩
          have j0 := ((hbx).cell (p := ⟨R, 0, none⟩) jz).trans j0
          have j1 := ((hbx).cell (p := ⟨R, 1, none⟩) jz).trans j1
          have j2 := ((hbx).cell (p := ⟨R, 2, none⟩) jz).trans j2
          have j3 := ((hbx).cell (p := ⟨R, 3, none⟩) jz).trans j3
          have jz := Nat.lt_of_lt_of_le jz (hbx).size
          clear CB
          go_wp2_with fail
          refine (CN.out _ hbx).mono ?_
          rintro e wy ⟨rfl, hbn⟩
          have j0 := ((hbn).cell (p := ⟨R, 0, none⟩) jz).trans j0
          have j1 := ((hbn).cell (p := ⟨R, 1, none⟩) jz).trans j1
          have j2 := ((hbn).cell (p := ⟨R, 2, none⟩) jz).trans j2
          have j3 := ((hbn).cell (p := ⟨R, 3, none⟩) jz).trans j3
          have jz := Nat.lt_of_lt_of_le jz (hbn).size
          have hby := bel_below hbx hbn
          clear CN hbx hbn
          cases nb with
          | false =>
            go_wp2_with fail
            have BY := Lib.hid (bel_below hBi.out hby)
            clear hby j0 j1 j2 j3 jz hv hvz
            go_wp2_with fail
            go_roundw
            case rel => go_light; exact ⟨k + 1, by omega, by go_num, (show _ = _ by rw [HSN.out]; rfl), BY⟩
            case measure => go_light; simp [intOf]; omega
          | true =>
            go_wp2_with fail
            refine (CQ.out _ hby).mono ?_
            rintro e wz ⟨rfl, hbz⟩
            have j0 := ((hbz).cell (p := ⟨R, 0, none⟩) jz).trans j0
            have j1 := ((hbz).cell (p := ⟨R, 1, none⟩) jz).trans j1
            have j2 := ((hbz).cell (p := ⟨R, 2, none⟩) jz).trans j2
            have j3 := ((hbz).cell (p := ⟨R, 3, none⟩) jz).trans j3
            have jz := Nat.lt_of_lt_of_le jz (hbz).size
            have hby := bel_below hby hbz
            clear hbz
            cases wb with
            | false =>
              go_wp2_with (go_at_call 68; refine (CW.out _).mono ?_; rintro e w' ⟨rfl, rfl⟩)
              have BY := Lib.hid (bel_below hBi.out hby)
              clear hby j0 j1 j2 j3 jz hv hvz
              go_wp2_with fail
              go_roundw
              case rel => go_light; exact ⟨k + 1, by omega, by go_num, (show _ = _ by rw [HSN.out]; rfl), BY⟩
              case measure => go_light; simp [intOf]; omega
            | true =>
              go_wp2_with (go_at_call 68; refine (CW.out _).mono ?_; rintro e w' ⟨rfl, rfl⟩)
              have BY := Lib.hid (bel_below hBi.out hby)
              clear hby j0 j1 j2 j3 jz hv hvz
              go_wp2_with fail
              go_roundw
              case rel => go_light; exact ⟨k + 1, by omega, by go_num, (show _ = _ by rw [HSN.out]; rfl), BY⟩
              case measure => go_light; simp [intOf]; omega
        · obtain rfl : k = L.length := by omega
          rw [List.take_length] at HBK2
          go_wp2_with fail
          go_ret
          exact ⟨by rw [HNX.out, HBK2.out]; first | done | rfl, BR.out⟩

end Go.Proofs.YtbhaapkafgieiaaGreatDoor
