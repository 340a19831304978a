
/-
  ChordHangs: who joins hangs on the ring at once.
-/
import Derived.Test.YthbijjpaljjapaaChordHd
namespace Go.Proofs.Ythbijjpaljjapaa
open Go.RowKit Go.Maps Go.Sort Go.WideShapes Go.ChangeShapes Go.Deep
set_option linter.unusedVariables false
set_option linter.unusedSimpArgs false
attribute [local go_sem] later_cell later_frozen later_lt cell_set_off cell_set_block

/-- What holds of one who joined. -/
theorem hang_facts {f : RS} (I : Inv f) {n id via : Int} (hid : isPlace id) (hc : joinC f n id via = 0) : ∃ z : Int, ∃ sl : List Int, -1 ≤ z ∧ z < 32 ∧ 0 < sl.length ∧ sl.length ≤ 3 ∧ 0 ≤ n ∧ n < 32 ∧
    livesR (joinR f n id via) n = true ∧ idR (joinR f n id via) n = id ∧ predR (joinR f n id via) n = z ∧ succR (joinR f n id via) n = sl ∧
    livesR (joinR f n id via) z = true ∧ succR (joinR f n id via) z = sl ∧ 0 ≤ headR f z ∧ headR f z < 32 ∧ hdR (joinR f n id via) n = headR f z ∧ hdR (joinR f n id via) z = headR f z ∧
    withinB id (idR (joinR f n id via) z) (idR (joinR f n id via) (headR f z)) = true := by
  obtain ⟨h0, h1, hn, hv, hno, z, _, hz, hw, e⟩ := (joinC_cases I hid).2 hc
  rw [e]
  have hzn : z ≠ n := by rintro rfl; have := live_isSome hz; rw [hn] at this; cases this
  have hd := livesR_dom I.dom hz
  have hh := I.head hz
  have hhd := livesR_dom I.dom hh.2
  have hsd := succR_dom I.dom z
  have hlen : 0 < (succR f z).length := by
    rcases headL_or f (succR f z) with h | h
    · exact List.length_pos_of_mem h.2
    · have := h.1; unfold headR at hhd; omega
  have e1 : hdR (setM f n ⟨true, id, z, succR f z⟩) n = headR f z := by
    rw [hdR_live (by rw [livesR_set, if_pos rfl]), join_head I hn, if_pos rfl]
  have e2 : hdR (setM f n ⟨true, id, z, succR f z⟩) z = headR f z := by
    rw [hdR_live (by rw [livesR_set, if_neg hzn]; exact hz), join_head I hn, if_neg hzn]
  refine ⟨z, succR f z, by omega, by omega, hlen, hsd.1, h0, h1, by rw [livesR_set, if_pos rfl], by rw [idR_set, if_pos rfl], by rw [predR_set, if_pos rfl], by rw [succR_set, if_pos rfl],
    by rw [livesR_set, if_neg hzn]; exact hz, by rw [succR_set, if_neg hzn], hhd.1, hhd.2, e1, e2, ?_⟩
  rw [join_id hn hz, join_id hn hh.2]
  exact hw
set_option maxRecDepth 100000 in
set_option maxHeartbeats 8000000 in
theorem chordHangs_main (W : World) (v0 v1 : Value) (ids : List Int) (acts : List ActD) (n id via : Int) (hi : SlAt 0 (fun i => .int .u64 (nth ids i)) ids.length W v0) (hp : ∀ x ∈ ids, isPlace x)
    (ha : ActsAt acts W v1) (hao : ∀ k, k < acts.length → (actAt acts k).ok) (hn : okInt n) (hid : isPlace id) (hvia : okInt via) : Calls Try.prog 5 #[v0, v1, .int .i64 n, .int .u64 id, .int .i64 via] W (OneYes W) := by
  have CB := Lib.hid (born_any W W (RowKit.Below.refl _ _) v0 ids hi hp)
  have HA := Lib.hid ha
  have HAO := Lib.hid hao
  obtain ⟨a1, q1, rfl, _, hm1⟩ := ha.slice
  have ham : acts.length ≤ 9223372036854775807 := by unfold maxLen at hm1; omega
  unfold Born at CB
  cases hf : fourB ids with
  | false =>
    rw [hf] at CB
    clear hi hp hf hm1 ha hao
    go_enter Try.func5, Try.ntmps5
    go_wp2_with fail
    refine CB.out.mono ?_
    intro e w1 hq
    rw [if_neg (by decide)] at hq
    obtain ⟨b, rfl, hB1⟩ := hq
    go_wp2_with fail
    refine (awake_any _).mono ?_
    rintro e w3 ⟨rfl, hB3⟩
    go_wp2_with fail
    go_ret
    exact ⟨rfl, bel_below hB1 hB3⟩
  | true =>
    rw [hf] at CB
    clear hi hp hf hm1 ha hao
    go_enter Try.func5, Try.ntmps5
    go_wp2_with fail
    refine CB.out.mono ?_
    intro e w1 hq
    rw [if_pos trivial] at hq
    obtain ⟨rb, mb, rfl, hR1⟩ := hq
    have R1 := Lib.hid hR1
    clear hR1
    go_wp2_with fail
    go_loopw [13, 14] (fun i _ wr => ∃ (k : Nat) (f : RS), k ≤ 30 ∧ i = .int .i64 k ∧ Hid (RingOk W.heap.size W wr rb mb f)) (fun i _ _ => 30 - (intOf i).toNat)
    case atStart => exact ⟨0, _, by omega, rfl, R1.out⟩
    case round =>
      obtain ⟨k, f, hk, rfl, hR⟩ := hrel
      by_cases hlt : k < acts.length ∧ k < 30
      · obtain ⟨hlt, hlt2⟩ := hlt
        obtain ⟨b, off, rfl, hb, c0, c1, c2, c3⟩ := HA.out.at k hlt wr hR.out.below
        have hok := HAO.out k hlt
        generalize hA : actAt acts k = A at c0 c1 c2 c3 hok
        obtain ⟨kd, an, av, ai⟩ := A
        have HOK := Lib.hid hok
        clear hA hok
        dsimp only at c0 c1 c2 c3
        have R2 := Lib.hid (hR.out.later (bel_alloc (RowKit.Below.refl _ wr) (.cells #[.int .i64 kd, .int .i64 an, .int .i64 av, .int .u64 ai] 40)))
        obtain ⟨g2, hg2⟩ := R2.out.ring
        have G2 := Lib.hid hg2
        clear hg2
        by_cases hk1 : kd = 1
        · subst hk1
          go_wp2_with fail
          refine (join_act G2.out R2.out.inv.heads _ _ _ HOK.out.n HOK.out.via HOK.out.id).mono ?_
          rintro e w5 ⟨v, rfl, _, hg5, hk5⟩
          have R5 := Lib.hid (R2.out.step (inv_joinR R2.out.inv HOK.out.id) hg5 hk5)
          clear hg5 hk5 R2 G2
          go_wp2_with fail
          go_roundw
          case rel => go_light; exact ⟨k + 1, _, by omega, by go_num, R5.out⟩
          case measure => go_light; simp [intOf]; omega
        have hb1 : (kd == 1) = false := by simpa using hk1
        clear hk1
        by_cases hk2 : kd = 2
        · subst hk2
          go_wp2_with fail
          refine (fail_act G2.out _ HOK.out.n).mono ?_
          rintro e w5 ⟨v, rfl, _, hg5, hk5⟩
          have R5 := Lib.hid (R2.out.step (inv_failR R2.out.inv _) hg5 hk5)
          clear hg5 hk5 R2 G2
          go_wp2_with fail
          go_roundw
          case rel => go_light; exact ⟨k + 1, _, by omega, by go_num, R5.out⟩
          case measure => go_light; simp [intOf]; omega
        have hb2 : (kd == 2) = false := by simpa using hk2
        clear hk2
        by_cases hk4 : kd = 4
        · subst hk4
          go_wp2_with fail
          refine (round_at G2.out R2.out.inv.heads).mono ?_
          rintro e w5 ⟨rfl, hg5, hk5⟩
          have R5 := Lib.hid (R2.out.step (inv_round R2.out.inv) ⟨_, hg5⟩ hk5)
          clear hg5 hk5 R2 G2
          go_wp2_with fail
          go_roundw
          case rel => go_light; exact ⟨k + 1, _, by omega, by go_num, R5.out⟩
          case measure => go_light; simp [intOf]; omega
        have hb4 : (kd == 4) = false := by simpa using hk4
        clear hk4
        have R5 := R2
        clear R2 G2
        go_wp2_with fail
        go_roundw
        case rel => go_light; exact ⟨k + 1, _, by omega, by go_num, R5.out⟩
        case measure => go_light; simp [intOf]; omega
      · have hcase : acts.length ≤ k ∨ k < acts.length ∧ k = 30 := by omega
        obtain ⟨g, RG⟩ := hR.out.ring
        have CJ := Lib.hid (join_act RG hR.out.inv.heads n id via hn hvia hid)
        clear hlt RG
        rcases hcase with hcase | ⟨hcase, rfl⟩
        · go_wp2_with fail
          refine CJ.out.mono ?_
          rintro e w3 ⟨v3, rfl, hv3, ⟨g3, hg3⟩, hk3⟩
          have R3 : Hid (RingOk W.heap.size W w3 rb mb (joinR f n id via)) := hR.out.step (inv_joinR hR.out.inv hid) ⟨g3, hg3⟩ hk3
          have G3 := Lib.hid hg3
          clear hg3 hk3
          unfold CodeIs at hv3
          by_cases hc : joinC f n id via = 0
          · have hv : v3 = .nilIface := by
              rcases hv3 with ⟨_, h⟩ | ⟨h, _⟩
              · exact h
              · exact absurd hc h
            subst hv
            obtain ⟨z, sl, z0, z1, sl0, sl3, n0, n1, f1, f2, f3, f4, f5, f6, h0, h1, f7, f8, f9⟩ := hang_facts hR.out.inv hid hc
            have CP := Lib.hid (fun w' (hb : RowKit.Below w3.heap.size w3 w') => peer_at (G3.out.below hb) n hn)
            have CQ := Lib.hid (fun w' (hb : RowKit.Below w3.heap.size w3 w') => peer_at (G3.out.below hb) z (okInt_dom z0 z1))
            unfold TellPost at CP CQ
            rw [f1, f2, f3, f4] at CP
            rw [f5, f6] at CQ
            have CR := Lib.hid (fun w' (hb : RowKit.Below w3.heap.size w3 w') => reach_at (G3.out.below hb) R3.out.inv n f1)
            have CH1 := Lib.hid (fun w' (hb : RowKit.Below w3.heap.size w3 w') => hd_at (G3.out.below hb) n hn)
            have CH2 := Lib.hid (fun w' (hb : RowKit.Below w3.heap.size w3 w') => hd_at (G3.out.below hb) z (okInt_dom z0 z1))
            rw [f7] at CH1
            rw [f8] at CH2
            obtain ⟨h, hh⟩ : ∃ h, h = headR f z := ⟨_, rfl⟩
            rw [← hh] at h0 h1 f9 CH1 CH2
            have CI := Lib.hid (fun w' (hb : RowKit.Below w3.heap.size w3 w') => id_at (G3.out.below hb) h (okInt_dom (by omega) h1))
            obtain ⟨idz, hidz⟩ : ∃ x, x = idR (joinR f n id via) z := ⟨_, rfl⟩
            obtain ⟨idh, hidh⟩ : ∃ x, x = idR (joinR f n id via) h := ⟨_, rfl⟩
            obtain ⟨prz, hprz⟩ : ∃ x, x = predR (joinR f n id via) z := ⟨_, rfl⟩
            rw [← hidz, ← hprz] at CQ
            rw [← hidh] at CI
            rw [← hidz, ← hidh] at f9
            have CW : Hid (∀ w', Calls Try.prog 20 #[.int .u64 id, .int .u64 idz, .int .u64 idh] w' fun e w'' => e = .returned (.bool true) ∧ w' = w'') := fun w' => f9 ▸ within_any _ _ _ _
            clear hv3 hc f1 f2 f3 f4 f5 f6 f7 f8 f9 hh hidz hidh hprz
            go_wp2_with fail
            refine (CP.out _ (RowKit.Below.refl _ _)).mono ?_
            intro e w4 hq
            rw [if_pos trivial] at hq
            obtain ⟨v4, rfl, hs4, hB4⟩ := hq
            obtain ⟨a4, q4, rfl, _⟩ := hs4.slice
            have B4 := Lib.hid hB4
            clear hs4 hB4
            go_wp2_with fail
            refine (CQ.out _ (bel_alloc B4.out _)).mono ?_
            intro e w5 hq
            rw [if_pos trivial] at hq
            obtain ⟨v5, rfl, hs5, hB5⟩ := hq
            obtain ⟨a5, q5, rfl, _⟩ := hs5.slice
            have p0 : w5.cell? ⟨w4.heap.size, 0, none⟩ = some (.int .u64 id) := by rw [hB5.cell (by simp)]; simp [go_sem]
            have p1 : w5.cell? ⟨w4.heap.size, 1, none⟩ = some (.int .i64 z) := by rw [hB5.cell (by simp)]; simp [go_sem]
            have p2 : w5.cell? ⟨w4.heap.size, 2, none⟩ = some (.slice a4 sl.length q4) := by rw [hB5.cell (by simp)]; simp [go_sem]
            have hz4 : w4.heap.size < w5.heap.size := by have := hB5.size; simp at this; omega
            have B5 := Lib.hid (bel_below (bel_alloc B4.out _) hB5)
            have hsl1 : ((sl.length : Int) < 1) = False := by simp; omega
            clear hs5 hB5
            go_wp2_with fail
            obtain ⟨wy, hwy⟩ : ∃ x, x = w5.alloc (.cells #[.int .u64 idz, .int .i64 prz, .slice a5 sl.length q5] 34) := ⟨_, rfl⟩
            have By := Lib.hid (show RowKit.Below w3.heap.size w3 wy by rw [hwy]; exact bel_alloc B5.out _)
            have r1 : wy.cell? ⟨w4.heap.size, 1, none⟩ = some (.int .i64 z) := by rw [hwy, (bel_alloc (RowKit.Below.refl _ w5) _).cell (by exact hz4)]; exact p1
            have s0 : wy.cell? ⟨w5.heap.size, 0, none⟩ = some (.int .u64 idz) := by rw [hwy]; simp [go_sem]
            have zz5 : w5.heap.size < wy.heap.size := by rw [hwy]; simp
            have zz4 : w4.heap.size < wy.heap.size := by omega
            rw [← hwy]
            clear hwy p0 p1 p2 hz4
            refine (CH1.out _ By.out).mono ?_
            rintro e w6 ⟨rfl, hB6⟩
            have r16 := (hB6.cell (p := ⟨w4.heap.size, 1, none⟩) zz4).trans r1
            have s06 := (hB6.cell (p := ⟨w5.heap.size, 0, none⟩) zz5).trans s0
            have zz56 := Nat.lt_of_lt_of_le zz5 hB6.size
            have zz46 := Nat.lt_of_lt_of_le zz4 hB6.size
            have B6 := Lib.hid (bel_below By.out hB6)
            clear r1 s0 zz5 zz4 hB6
            go_wp2_with fail
            refine wp_region_calm (by kernel_rfl) (by kernel_rfl) ?_
            repeat (first | (go_big_quiet_step ((first | (go_at_call 10; exact calls_calm (awake_any _)) | (go_at_call 19; exact calls_calm (CH2.out _ (bel_below B6.out (by (repeat (first | exact Below.refl _ _ | (with_reducible assumption) | (with_reducible refine bel_later ?_ _) | (with_reducible refine bel_alloc ?_ _) | (with_reducible refine bel_drew ?_) | (with_reducible refine bel_drewN ?_ _) | (with_reducible refine bel_set ?_ (by first | (simp; done) | (simp; omega) | (dsimp only; omega)) _))))))) | (go_at_call 16; exact calls_calm_same (CI.out _ (bel_below B6.out (by (repeat (first | exact Below.refl _ _ | (with_reducible assumption) | (with_reducible refine bel_later ?_ _) | (with_reducible refine bel_alloc ?_ _) | (with_reducible refine bel_drew ?_) | (with_reducible refine bel_drewN ?_ _) | (with_reducible refine bel_set ?_ (by first | (simp; done) | (simp; omega) | (dsimp only; omega)) _))))))) | (go_at_call 20; exact calls_calm_same (CW.out _)) | (go_at_call 21; exact calls_calm (CR.out _ (bel_below B6.out (by (repeat (first | exact Below.refl _ _ | (with_reducible assumption) | (with_reducible refine bel_later ?_ _) | (with_reducible refine bel_alloc ?_ _) | (with_reducible refine bel_drew ?_) | (with_reducible refine bel_drewN ?_ _) | (with_reducible refine bel_set ?_ (by first | (simp; done) | (simp; omega) | (dsimp only; omega)) _)))))))))) | (refine wpQuiet_step (fun K hK => ?_); go_simp; first | (refine hK _ ?_; clear hK K) | (apply Exists.intro; refine ⟨fun _ => ?_, hK _ ?_⟩; (first | (go_at_call 10; exact calls_calm (awake_any _)) | (go_at_call 19; exact calls_calm (CH2.out _ (bel_below B6.out (by (repeat (first | exact Below.refl _ _ | (with_reducible assumption) | (with_reducible refine bel_later ?_ _) | (with_reducible refine bel_alloc ?_ _) | (with_reducible refine bel_drew ?_) | (with_reducible refine bel_drewN ?_ _) | (with_reducible refine bel_set ?_ (by first | (simp; done) | (simp; omega) | (dsimp only; omega)) _))))))) | (go_at_call 16; exact calls_calm_same (CI.out _ (bel_below B6.out (by (repeat (first | exact Below.refl _ _ | (with_reducible assumption) | (with_reducible refine bel_later ?_ _) | (with_reducible refine bel_alloc ?_ _) | (with_reducible refine bel_drew ?_) | (with_reducible refine bel_drewN ?_ _) | (with_reducible refine bel_set ?_ (by first | (simp; done) | (simp; omega) | (dsimp only; omega)) _))))))) | (go_at_call 20; exact calls_calm_same (CW.out _)) | (go_at_call 21; exact calls_calm (CR.out _ (bel_below B6.out (by (repeat (first | exact Below.refl _ _ | (with_reducible assumption) | (with_reducible refine bel_later ?_ _) | (with_reducible refine bel_alloc ?_ _) | (with_reducible refine bel_drew ?_) | (with_reducible refine bel_drewN ?_ _) | (with_reducible refine bel_set ?_ (by first | (simp; done) | (simp; omega) | (dsimp only; omega)) _)))))))); clear hK K)))
            refine wpQuiet_nil ?_
            intro _ hw'
            obtain ⟨xq, hw''⟩ := hw'
            subst hw''
            have B7 := Lib.hid (bel_later B6.out xq)
            go_wp2_with fail
            go_ret
            exact ⟨rfl, bel_below R3.out.below B7.out⟩
          · obtain ⟨bv, hv⟩ : ∃ bv, v3 = .iface 89 (.pointer (some ⟨bv, 0, none⟩)) := by
              rcases hv3 with ⟨h, _⟩ | ⟨_, ⟨bv, h, _⟩⟩
              · exact absurd h hc
              · exact ⟨bv, h⟩
            subst hv
            clear hv3 hc
            go_wp2_with fail
            refine (awake_any _).mono ?_
            rintro e w9 ⟨rfl, hB9⟩
            go_wp2_with fail
            go_ret
            exact ⟨rfl, bel_below R3.out.below hB9⟩
        · go_wp2_with fail
          refine CJ.out.mono ?_
          rintro e w3 ⟨v3, rfl, hv3, ⟨g3, hg3⟩, hk3⟩
          have R3 : Hid (RingOk W.heap.size W w3 rb mb (joinR f n id via)) := hR.out.step (inv_joinR hR.out.inv hid) ⟨g3, hg3⟩ hk3
          have G3 := Lib.hid hg3
          clear hg3 hk3
          unfold CodeIs at hv3
          by_cases hc : joinC f n id via = 0
          · have hv : v3 = .nilIface := by
              rcases hv3 with ⟨_, h⟩ | ⟨h, _⟩
              · exact h
              · exact absurd hc h
            subst hv
            obtain ⟨z, sl, z0, z1, sl0, sl3, n0, n1, f1, f2, f3, f4, f5, f6, h0, h1, f7, f8, f9⟩ := hang_facts hR.out.inv hid hc
            have CP := Lib.hid (fun w' (hb : RowKit.Below w3.heap.size w3 w') => peer_at (G3.out.below hb) n hn)
            have CQ := Lib.hid (fun w' (hb : RowKit.Below w3.heap.size w3 w') => peer_at (G3.out.below hb) z (okInt_dom z0 z1))
            unfold TellPost at CP CQ
            rw [f1, f2, f3, f4] at CP
            rw [f5, f6] at CQ
            have CR := Lib.hid (fun w' (hb : RowKit.Below w3.heap.size w3 w') => reach_at (G3.out.below hb) R3.out.inv n f1)
            have CH1 := Lib.hid (fun w' (hb : RowKit.Below w3.heap.size w3 w') => hd_at (G3.out.below hb) n hn)
            have CH2 := Lib.hid (fun w' (hb : RowKit.Below w3.heap.size w3 w') => hd_at (G3.out.below hb) z (okInt_dom z0 z1))
            rw [f7] at CH1
            rw [f8] at CH2
            obtain ⟨h, hh⟩ : ∃ h, h = headR f z := ⟨_, rfl⟩
            rw [← hh] at h0 h1 f9 CH1 CH2
            have CI := Lib.hid (fun w' (hb : RowKit.Below w3.heap.size w3 w') => id_at (G3.out.below hb) h (okInt_dom (by omega) h1))
            obtain ⟨idz, hidz⟩ : ∃ x, x = idR (joinR f n id via) z := ⟨_, rfl⟩
            obtain ⟨idh, hidh⟩ : ∃ x, x = idR (joinR f n id via) h := ⟨_, rfl⟩
            obtain ⟨prz, hprz⟩ : ∃ x, x = predR (joinR f n id via) z := ⟨_, rfl⟩
            rw [← hidz, ← hprz] at CQ
            rw [← hidh] at CI
            rw [← hidz, ← hidh] at f9
            have CW : Hid (∀ w', Calls Try.prog 20 #[.int .u64 id, .int .u64 idz, .int .u64 idh] w' fun e w'' => e = .returned (.bool true) ∧ w' = w'') := fun w' => f9 ▸ within_any _ _ _ _
            clear hv3 hc f1 f2 f3 f4 f5 f6 f7 f8 f9 hh hidz hidh hprz
            go_wp2_with fail
            refine (CP.out _ (RowKit.Below.refl _ _)).mono ?_
            intro e w4 hq
            rw [if_pos trivial] at hq
            obtain ⟨v4, rfl, hs4, hB4⟩ := hq
            obtain ⟨a4, q4, rfl, _⟩ := hs4.slice
            have B4 := Lib.hid hB4
            clear hs4 hB4
            go_wp2_with fail
            refine (CQ.out _ (bel_alloc B4.out _)).mono ?_
            intro e w5 hq
            rw [if_pos trivial] at hq
            obtain ⟨v5, rfl, hs5, hB5⟩ := hq
            obtain ⟨a5, q5, rfl, _⟩ := hs5.slice
            have p0 : w5.cell? ⟨w4.heap.size, 0, none⟩ = some (.int .u64 id) := by rw [hB5.cell (by simp)]; simp [go_sem]
            have p1 : w5.cell? ⟨w4.heap.size, 1, none⟩ = some (.int .i64 z) := by rw [hB5.cell (by simp)]; simp [go_sem]
            have p2 : w5.cell? ⟨w4.heap.size, 2, none⟩ = some (.slice a4 sl.length q4) := by rw [hB5.cell (by simp)]; simp [go_sem]
            have hz4 : w4.heap.size < w5.heap.size := by have := hB5.size; simp at this; omega
            have B5 := Lib.hid (bel_below (bel_alloc B4.out _) hB5)
            have hsl1 : ((sl.length : Int) < 1) = False := by simp; omega
            clear hs5 hB5
            go_wp2_with fail
            obtain ⟨wy, hwy⟩ : ∃ x, x = w5.alloc (.cells #[.int .u64 idz, .int .i64 prz, .slice a5 sl.length q5] 34) := ⟨_, rfl⟩
            have By := Lib.hid (show RowKit.Below w3.heap.size w3 wy by rw [hwy]; exact bel_alloc B5.out _)
            have r1 : wy.cell? ⟨w4.heap.size, 1, none⟩ = some (.int .i64 z) := by rw [hwy, (bel_alloc (RowKit.Below.refl _ w5) _).cell (by exact hz4)]; exact p1
            have s0 : wy.cell? ⟨w5.heap.size, 0, none⟩ = some (.int .u64 idz) := by rw [hwy]; simp [go_sem]
            have zz5 : w5.heap.size < wy.heap.size := by rw [hwy]; simp
            have zz4 : w4.heap.size < wy.heap.size := by omega
            rw [← hwy]
            clear hwy p0 p1 p2 hz4
            refine (CH1.out _ By.out).mono ?_
            rintro e w6 ⟨rfl, hB6⟩
            have r16 := (hB6.cell (p := ⟨w4.heap.size, 1, none⟩) zz4).trans r1
            have s06 := (hB6.cell (p := ⟨w5.heap.size, 0, none⟩) zz5).trans s0
            have zz56 := Nat.lt_of_lt_of_le zz5 hB6.size
            have zz46 := Nat.lt_of_lt_of_le zz4 hB6.size
            have B6 := Lib.hid (bel_below By.out hB6)
            clear r1 s0 zz5 zz4 hB6
            go_wp2_with fail
            refine wp_region_calm (by kernel_rfl) (by kernel_rfl) ?_
            repeat (first | (go_big_quiet_step ((first | (go_at_call 10; exact calls_calm (awake_any _)) | (go_at_call 19; exact calls_calm (CH2.out _ (bel_below B6.out (by (repeat (first | exact Below.refl _ _ | (with_reducible assumption) | (with_reducible refine bel_later ?_ _) | (with_reducible refine bel_alloc ?_ _) | (with_reducible refine bel_drew ?_) | (with_reducible refine bel_drewN ?_ _) | (with_reducible refine bel_set ?_ (by first | (simp; done) | (simp; omega) | (dsimp only; omega)) _))))))) | (go_at_call 16; exact calls_calm_same (CI.out _ (bel_below B6.out (by (repeat (first | exact Below.refl _ _ | (with_reducible assumption) | (with_reducible refine bel_later ?_ _) | (with_reducible refine bel_alloc ?_ _) | (with_reducible refine bel_drew ?_) | (with_reducible refine bel_drewN ?_ _) | (with_reducible refine bel_set ?_ (by first | (simp; done) | (simp; omega) | (dsimp only; omega)) _))))))) | (go_at_call 20; exact calls_calm_same (CW.out _)) | (go_at_call 21; exact calls_calm (CR.out _ (bel_below B6.out (by (repeat (first | exact Below.refl _ _ | (with_reducible assumption) | (with_reducible refine bel_later ?_ _) | (with_reducible refine bel_alloc ?_ _) | (with_reducible refine bel_drew ?_) | (with_reducible refine bel_drewN ?_ _) | (with_reducible refine bel_set ?_ (by first | (simp; done) | (simp; omega) | (dsimp only; omega)) _)))))))))) | (refine wpQuiet_step (fun K hK => ?_); go_simp; first | (refine hK _ ?_; clear hK K) | (apply Exists.intro; refine ⟨fun _ => ?_, hK _ ?_⟩; (first | (go_at_call 10; exact calls_calm (awake_any _)) | (go_at_call 19; exact calls_calm (CH2.out _ (bel_below B6.out (by (repeat (first | exact Below.refl _ _ | (with_reducible assumption) | (with_reducible refine bel_later ?_ _) | (with_reducible refine bel_alloc ?_ _) | (with_reducible refine bel_drew ?_) | (with_reducible refine bel_drewN ?_ _) | (with_reducible refine bel_set ?_ (by first | (simp; done) | (simp; omega) | (dsimp only; omega)) _))))))) | (go_at_call 16; exact calls_calm_same (CI.out _ (bel_below B6.out (by (repeat (first | exact Below.refl _ _ | (with_reducible assumption) | (with_reducible refine bel_later ?_ _) | (with_reducible refine bel_alloc ?_ _) | (with_reducible refine bel_drew ?_) | (with_reducible refine bel_drewN ?_ _) | (with_reducible refine bel_set ?_ (by first | (simp; done) | (simp; omega) | (dsimp only; omega)) _))))))) | (go_at_call 20; exact calls_calm_same (CW.out _)) | (go_at_call 21; exact calls_calm (CR.out _ (bel_below B6.out (by (repeat (first | exact Below.refl _ _ | (with_reducible assumption) | (with_reducible refine bel_later ?_ _) | (with_reducible refine bel_alloc ?_ _) | (with_reducible refine bel_drew ?_) | (with_reducible refine bel_drewN ?_ _) | (with_reducible refine bel_set ?_ (by first | (simp; done) | (simp; omega) | (dsimp only; omega)) _)))))))); clear hK K)))
            refine wpQuiet_nil ?_
            intro _ hw'
            obtain ⟨xq, hw''⟩ := hw'
            subst hw''
            have B7 := Lib.hid (bel_later B6.out xq)
            go_wp2_with fail
            go_ret
            exact ⟨rfl, bel_below R3.out.below B7.out⟩
          · obtain ⟨bv, hv⟩ : ∃ bv, v3 = .iface 89 (.pointer (some ⟨bv, 0, none⟩)) := by
              rcases hv3 with ⟨h, _⟩ | ⟨_, ⟨bv, h, _⟩⟩
              · exact absurd h hc
              · exact ⟨bv, h⟩
            subst hv
            clear hv3 hc
            go_wp2_with fail
            refine (awake_any _).mono ?_
            rintro e w9 ⟨rfl, hB9⟩
            go_wp2_with fail
            go_ret
            exact ⟨rfl, bel_below R3.out.below hB9⟩
set_option maxRecDepth 100000 in
theorem chordHangs_walk {H : Type} (enc : TypeId × Value → H) (W : World) (v0 : Value) (d0 : DataW H) (p0 : List MemPlace) {r0 : Reach} {b0 : Nat} (ok0 : Value.okWide Try.prog W r0 b0 22 v0) (h0 : DataW.Trod enc Try.prog W 0 (fun _ => true) true 22 v0 d0 p0)
    (hlt0 : ∀ x ∈ p0, x.block < W.heap.size) (sz0 : ∀ n ∈ d0.weights Try.prog 22, n ≤ reachBytes) (v1 : Value) (d1 : DataW H) (p1 : List MemPlace) {r1 : Reach} {b1 : Nat} (ok1 : Value.okWide Try.prog W r1 b1 38 v1) (h1 : DataW.Trod enc Try.prog W 0 (fun _ => true) true 38 v1 d1 p1)
    (hlt1 : ∀ x ∈ p1, x.block < W.heap.size) (sz1 : ∀ n ∈ d1.weights Try.prog 38, n ≤ reachBytes) (n : Int) (wn : (Lit.int .i64 n).wf = true) (id : Int) (wid : (Lit.int .u64 id).wf = true) (via : Int) (wvia : (Lit.int .i64 via).wf = true) :
    Calls Try.prog 5 #[v0, v1, .int .i64 n, .int .u64 id, .int .i64 via] W fun e W' => e = .returned (.bool true) ∧ RowKit.Below W.heap.size W W' := by
  obtain ⟨ids, hi, hp⟩ := ids_open ok0 h0
  obtain ⟨acts, ha, hao⟩ := acts_open ok1 h1
  exact chordHangs_main W v0 v1 ids acts n id via hi hp ha hao wn (placeOf wid) wvia
end Go.Proofs.Ythbijjpaljjapaa
