


/-
  RdvOwner walked.
-/
import Derived.Test.YtahiahjhpakeiaaGreatDoorRdvA
import Derived.Test.YtahiahjhpakeiaaGreatDoorErrAs
import Derived.Deep.DeepCutAuto
namespace Go.Proofs.YtahiahjhpakeiaaGreatDoor
open Go.RowKit Go.Maps Go.Sort Go.WideShapes Go.ChangeShapes Go.Deep
set_option linter.unusedVariables false
set_option linter.unusedSimpArgs false
attribute [local go_sem] later_cell later_frozen later_lt cell_set_off cell_set_block

/-- A member's box: the first behind it is n. -/
def PBox (w : World) (X : Nat) (n : Int) : Prop := X < w.heap.size ∧ ∃ (b o c : Nat), w.cell? ⟨X, 2, none⟩ = some (.slice (some ⟨b, o, none⟩) 3 c) ∧ b < w.heap.size ∧ w.cell? ⟨b, o, none⟩ = some (.int .i64 n)
theorem PBox.below {w w' : World} {X : Nat} {n : Int} (h : PBox w X n) (hb : Below w.heap.size w w') : PBox w' X n := by
  obtain ⟨h1, b, o, c, h2, h3, h4⟩ := h
  exact ⟨Nat.lt_of_lt_of_le h1 hb.size, b, o, c, (hb.cell (p := ⟨X, 2, none⟩) h1).trans h2, Nat.lt_of_lt_of_le h3 hb.size, (hb.cell (p := ⟨b, o, none⟩) h3).trans h4⟩
set_option maxRecDepth 100000 in
set_option maxHeartbeats 16000000 in
theorem rdvOwner_main (W : World) (hH : HandleAt W) (v0 : Value) (acts : List ActD) (nm : ByteArray) (ha : ActsAt acts W v0) (hao : ∀ k, k < acts.length → (actAt acts k).ok) :
    Calls Tryz.prog 5 #[v0, .string nm] W fun e w' => e = .returned (.bool true) ∧ Below W.heap.size W w' := by
  have HA := Lib.hid ha
  have HAO := Lib.hid hao
  have HHA := Lib.hid hH
  obtain ⟨a0, q0, rfl, _, hm1⟩ := ha.slice
  have ham : acts.length ≤ 9223372036854775807 := by unfold maxLen at hm1; omega
  clear ha hao hm1 hH
  go_enter Tryz.func5, Tryz.ntmps5
  go_wp2_with fail
  refine (base_any _).mono ?_
  rintro e w1 ⟨v1, rfl, hs1, hB1⟩
  have CB := Lib.hid (base_made W w1 hB1 v1 (hs1.base (Nat.zero_le _)))
  clear hs1 hB1
  go_wp2_with fail
  refine CB.out.mono ?_
  rintro e w2 ⟨rb, mb, f, p, rfl, hR⟩
  have R2 := Lib.hid hR
  clear hR CB
  go_upto_region 2 with (fail)
  obtain ⟨w3, hw3⟩ : ∃ z, z = w2.alloc (.cells #[.slice (some ⟨p.b1, p.o1, none⟩) 32 p.k1, .slice (some ⟨p.b2, p.o2, none⟩) 32 p.k2, .slice (some ⟨p.b3, p.o3, none⟩) 32 p.k3, .slice (some ⟨p.b4, p.o4, none⟩) 32 p.k4] 32) := ⟨_, rfl⟩
  have R3 : Hid (RingOk W.heap.size W w3 rb mb f) := by rw [hw3]; exact R2.out.later (bel_alloc (RowKit.Below.refl _ _) _)
  rw [← hw3]
  clear hw3 R2
  by_cases hn : 60 < nm.size
  · have hnI : (60 : Int) < ((nm.size : Nat) : Int) := by omega
    have CW := Lib.hid (awake21_any w3)
    go_wp2_with fail
    refine CW.out.mono ?_
    rintro e w4 ⟨rfl, hb4⟩
    have B4 := Lib.hid (bel_below R3.out.below hb4)
    clear hb4 CW
    go_wp2_with fail
    go_ret
    exact ⟨rfl, B4.out⟩
  · have hnI : ¬ (60 : Int) < ((nm.size : Nat) : Int) := by omega
    have hnm : nm.size ≤ 1000000 := by omega
    go_wp2_with fail
    go_loopw [8] (fun i wr => ∃ (k : Nat) (f : RS), k ≤ 12 ∧ i = .int .i64 k ∧ Hid (RingOk W.heap.size W wr rb mb f)) (fun i _ => 12 - (intOf i).toNat)
    case atStart => exact ⟨0, f, by omega, rfl, R3.out⟩
    case round =>
      clear R3 f
      obtain ⟨k, f, hk, rfl, hR⟩ := hrel
      by_cases hlt : k < acts.length ∧ k < 12
      · obtain ⟨hlt, hlt2⟩ := hlt
        obtain ⟨b, off, rfl, hb, c0, c1, c2, c3⟩ := HA.out.at k hlt wr hR.out.below
        have hok := HAO.out k hlt
        generalize hAk : actAt acts k = A at c0 c1 c2 c3 hok
        obtain ⟨kd, an, av, ai⟩ := A
        have HOK := Lib.hid hok
        dsimp only at c0 c1 c2 c3
        obtain ⟨g2, hg2⟩ := hR.out.ring
        have G2 := Lib.hid hg2
        have CJ := Lib.hid fun wx (hx : Below wr.heap.size wr wx) => join_act (G2.out.below hx) hR.out.inv.heads an ai 0 HOK.out.n (okInt_dom (by omega) (by omega)) HOK.out.id
        clear hAk hok hg2 c0 c2
        go_wp2_with fail
        refine wp_region_heads [0, 1, 2, 3, 4, 5, 6, 7, 8, 9, 10] 11 (fun w' => ∃ x : Later wr, w' = x.world) (by kernel_rfl) (by kernel_rfl) ⟨⟨{ wr with drawn := wr.drawn + 1 }, (RowKit.Below.refl _ _).drew⟩, rfl⟩ (fun d v c a w h => by cases d <;> exact h) ?_
        simp only [headOps]
        repeat (refine wpTame_step (fun K hK => ?_); go_simp; refine hK _ ?_; clear hK K)
        refine wpTame_nil ?_
        refine wpAnyC_end (k := 11) (by decide) rfl rfl (by kernel_rfl) ?_
        go_wp2_with fail
        refine (CJ.out _ (RowKit.Below.refl _ _).drew).mono ?_
        rintro e w5 ⟨v, rfl, _, hg5, hk5⟩
        have R5 := Lib.hid (hR.out.step (inv_joinR hR.out.inv HOK.out.id) hg5 (((Kept.refl _ wr).drew).trans hk5))
        clear hg5 hk5 hR G2 CJ
        go_wp2_with fail
        go_roundw
        case rel => go_light; exact ⟨k + 1, _, by omega, by go_num, R5.out⟩
        case measure => go_light; simp [intOf]; omega
      · have hcase : acts.length ≤ k ∨ k < acts.length ∧ k = 12 := by omega
        clear hlt
        go_upto_region 5 with (fail)
        go_cut [39] (fun s44 wx => s44 = .bool false ∧ Hid (RingOk W.heap.size W wx rb mb f))
        case first =>
          rcases hcase with hcase | ⟨hcase, rfl⟩
          · go_wp2_with fail
            go_meet
            case rel => exact ⟨rfl, hR.out⟩
          · go_wp2_with fail
            go_meet
            case rel => exact ⟨rfl, hR.out⟩
        case rest =>
          as_aux_lemma =>
            clear hR hcase
            obtain ⟨rfl, hR⟩ := hcut
            obtain ⟨g, hG⟩ := hR.out.ring
            have HIN := Lib.hid hR.out.inv
            have BW := Lib.hid hR.out.below
            have CC := Lib.hid (of_at hG hR.out.inv)
            clear hR hG
            go_wp2_with fail
            refine CC.out.mono ?_
            rintro e w3 ⟨av, iv, rfl, hav, hiv, hb3⟩
            obtain ⟨aa, ac, rfl, _⟩ := hav.slice
            obtain ⟨ia, ic, rfl, _⟩ := hiv.slice
            have HAV := Lib.hid (hav.base (B' := 0) (Nat.zero_le _))
            have HIV := Lib.hid (hiv.base (B' := 0) (Nat.zero_le _))
            have hclm : (circ f).length ≤ 32 := by rw [circ_len]; exact length_liveL f
            obtain ⟨cl, hcl⟩ : ∃ z, z = (circ f).length := ⟨_, rfl⟩
            have HCL := Lib.hid hcl
            have B3 := Lib.hid (bel_below BW.out hb3)
            rw [← hcl]
            clear hcl hav hiv hb3 CC
            go_upto_region 9 with (fail)
            obtain ⟨w4, hw4⟩ : ∃ z, z = w3.alloc (.cells #[.slice aa cl ac, .slice ia cl ic] 38) := ⟨_, rfl⟩
            obtain ⟨X, hX⟩ : ∃ z, z = w3.heap.size := ⟨_, rfl⟩
            have b34 : Below w3.heap.size w3 w4 := by rw [hw4]; exact bel_alloc (Below.refl _ _) _
            have x0 : w4.cell? ⟨X, 0, none⟩ = some (.slice aa cl ac) := by rw [hw4, hX]; simp [go_sem]
            have x1 : w4.cell? ⟨X, 1, none⟩ = some (.slice ia cl ic) := by rw [hw4, hX]; simp [go_sem]
            have xz : X < w4.heap.size := by rw [hw4, hX]; simp
            have B34 := Lib.hid b34
            have AV4 := Lib.hid (HAV.out.below b34)
            have IV4 := Lib.hid (HIV.out.below b34)
            have CK := keep_any w4 f HIN.out _ _ AV4.out IV4.out nm hnm
            obtain ⟨io, hio⟩ := own_at HIN.out (keyH nm)
            unfold KeepPost at CK
            rw [keepK_eq HIN.out hio, ← HCL.out] at CK
            have CK := Lib.hid CK
            have CKY := Lib.hid fun wr => key_any nm wr hnm
            have CO0 := fun wr (hb : Below w4.heap.size w4 wr) => cowner_at wr (circ f) ((circ f).map (idR f)) _ _ (AV4.out.below hb) (by have := IV4.out.below hb; simpa using this) (by simp) (by omega) (circ_up HIN.out) (keyH nm)
            rw [show cOwner (circ f) ((circ f).map (idR f)) (keyH nm) = cAt (circ f) (io : Int) from hio, ← HCL.out] at CO0
            have CP0 := Lib.hid fun wr (hb : Below w4.heap.size w4 wr) => (cpeer_at wr (circ f) ((circ f).map (idR f)) _ _ (AV4.out.below hb) (by have := IV4.out.below hb; simpa using this) (by simp) (by omega) (cAt (circ f) (io : Int))).mono fun e w' h => know_at HIN.out (io : Int) h
            have CP1 := Lib.hid fun wr (hb : Below w4.heap.size w4 wr) => (cpeer_at wr (circ f) ((circ f).map (idR f)) _ _ (AV4.out.below hb) (by have := IV4.out.below hb; simpa using this) (by simp) (by omega) (cAt (circ f) ((io : Int) + 1))).mono fun e w' h => know_at HIN.out ((io : Int) + 1) h
            rw [show (io : Int) + 1 + 1 = (io : Int) + 2 by omega] at CP1
            rw [← HCL.out] at CP0 CP1
            have CO := Lib.hid CO0
            have HKL : Hid (keepL f (io : Int) = [cAt (circ f) (io : Int), cAt (circ f) ((io : Int) + 1), cAt (circ f) ((io : Int) + 2)]) := show _ = _ from rfl
            obtain ⟨kl, hkl⟩ : ∃ z, z = keepL f (io : Int) := ⟨_, rfl⟩
            obtain ⟨o0, ho0⟩ : ∃ z, z = cAt (circ f) (io : Int) := ⟨_, rfl⟩
            obtain ⟨o1, ho1⟩ : ∃ z, z = cAt (circ f) ((io : Int) + 1) := ⟨_, rfl⟩
            obtain ⟨o2, ho2⟩ : ∃ z, z = cAt (circ f) ((io : Int) + 2) := ⟨_, rfl⟩
            rw [← hkl] at CK HKL
            rw [← ho0] at CO CP0 HKL
            rw [← ho1] at CP0 CP1 HKL
            rw [← ho2] at CP0 CP1 HKL
            rw [← hw4]
            try rw [← hX]
            clear hw4 hX b34 CO0 hkl ho0 ho1 ho2 hio
            go_wp2_with fail
            refine CK.out.mono ?_
            rintro e w5 ⟨v5, rfl, hs5, hb5⟩
            obtain ⟨a5, c5, rfl, _⟩ := hs5.slice
            have S5 := hs5.base (B' := 0) (Nat.zero_le _)
            rw [HKL.out] at S5
            obtain ⟨qb, qo, hq, _, hqz, hl0⟩ := S5.at 0 (by omega) w5 (Below.refl _ _)
            subst hq
            rw [Nat.add_zero] at hl0
            replace hl0 : w5.cell? ⟨qb, qo, none⟩ = some (.int .i64 o0) := hl0
            have hl1 : w5.cell? ⟨qb, qo + 1, none⟩ = some (.int .i64 o1) := by
              obtain ⟨qb', qo', hq', _, _, h2⟩ := S5.at 1 (by omega) w5 (Below.refl _ _)
              cases hq'
              exact h2
            have hl2 : w5.cell? ⟨qb, qo + 2, none⟩ = some (.int .i64 o2) := by
              obtain ⟨qb', qo', hq', _, _, h2⟩ := S5.at 2 (by omega) w5 (Below.refl _ _)
              cases hq'
              exact h2
            have x0 := (hb5.cell (p := ⟨X, 0, none⟩) xz).trans x0
            have x1 := (hb5.cell (p := ⟨X, 1, none⟩) xz).trans x1
            have xz5 := Nat.lt_of_lt_of_le xz hb5.size
            have B45 := Lib.hid hb5
            clear hs5 hb5 S5 CK
            have b45 := B45.out
            go_wp2_with fail
            refine wp_region_calm (by kernel_rfl) (by kernel_rfl) ?_
            repeat (first | (go_big_quiet_step ((first | (go_at_call 22; exact calls_calm (CKY.out _)) | (go_at_call 21; exact calls_calm (CO.out _ (by (repeat (first | exact Below.refl _ _ | (with_reducible assumption) | (with_reducible refine bel_later ?_ _) | (with_reducible refine bel_alloc ?_ _) | (with_reducible refine bel_drew ?_) | (with_reducible refine bel_drewN ?_ _) | (with_reducible refine bel_set ?_ (by first | (simp; done) | (simp; omega) | (dsimp only; omega)) _))))))))) | (refine wpQuiet_step (fun K hK => ?_); go_simp; first | (refine hK _ ?_; clear hK K) | (apply Exists.intro; refine ⟨fun _ => ?_, hK _ ?_⟩; (first | (go_at_call 22; exact calls_calm (CKY.out _)) | (go_at_call 21; exact calls_calm (CO.out _ (by (repeat (first | exact Below.refl _ _ | (with_reducible assumption) | (with_reducible refine bel_later ?_ _) | (with_reducible refine bel_alloc ?_ _) | (with_reducible refine bel_drew ?_) | (with_reducible refine bel_drewN ?_ _) | (with_reducible refine bel_set ?_ (by first | (simp; done) | (simp; omega) | (dsimp only; omega)) _))))))); clear hK K)))
            refine wpQuiet_nil ?_
            intro _ hw'
            obtain ⟨xq, hw''⟩ := hw'
            subst hw''
            obtain ⟨w6, hb6⟩ := xq
            dsimp only
            have x0 := (hb6.cell (p := ⟨X, 0, none⟩) xz5).trans x0
            have x1 := (hb6.cell (p := ⟨X, 1, none⟩) xz5).trans x1
            have xz6 := Nat.lt_of_lt_of_le xz5 hb6.size
            have hl0 := (hb6.cell (p := ⟨qb, qo, none⟩) hqz).trans hl0
            have hl1 := (hb6.cell (p := ⟨qb, qo + 1, none⟩) hqz).trans hl1
            have hl2 := (hb6.cell (p := ⟨qb, qo + 2, none⟩) hqz).trans hl2
            have hqz6 := Nat.lt_of_lt_of_le hqz hb6.size
            have B6 := Lib.hid (bel_below B45.out hb6)
            have B36 := Lib.hid (bel_below (bel_below B3.out B34.out) B6.out)
            have CQ := Lib.hid fun wr (hb : Below w6.heap.size w6 wr) => CP0.out wr (bel_below B6.out hb)
            clear hb6 b45 CP0 CO CKY
            go_wp2_with fail
            go_upto_region 12 with (fail)
            go_cut [11, 12] (fun s11 s12 wx => ∃ X : Nat, s11 = .pointer (some ⟨X, 0, none⟩) ∧ s12 = .bool true ∧ Hid (PBox wx X o1) ∧ Hid (Below w6.heap.size w6 wx))
            case first =>
              as_aux_lemma =>
                refine wp_region_heads [0, 1, 2, 3] 10 (fun w' => ∃ x : Later w6, w' = x.world) (by kernel_rfl) (by kernel_rfl) ⟨⟨{ w6 with drawn := w6.drawn + 1 }, (RowKit.Below.refl _ _).drew⟩, rfl⟩ (fun d v c a w h => by cases d <;> exact h) ?_
                simp only [headOps]
                repeat (refine wpTame_step (fun K hK => ?_); go_simp; refine hK _ ?_; clear hK K)
                refine wpTame_nil ?_
                refine wpAnyC_step (f := 6) [4, 8] (by kernel_rfl) rfl rfl (fun i hi => ?_)
                simp only [List.mem_cons, List.not_mem_nil, or_false] at hi
                rcases hi with rfl | rfl
                · refine ⟨_, rfl, fun R hR => ?_⟩
                  go_wp2_with fail
                  refine (CQ.out _ (RowKit.Below.refl _ _).drew).mono ?_
                  rintro e wa ⟨v, l, rfl, hl3, hl0, _, hs, hb⟩
                  obtain ⟨sa, sc, rfl, _⟩ := hs.slice
                  have BA : Hid (Below w6.heap.size w6 wa) := bel_below (RowKit.Below.refl _ _).drew hb
                  have SA := Lib.hid (hs.base (B' := 0) (Nat.zero_le _))
                  have HL0 := Lib.hid hl0
                  clear hs hb hl3 hl0
                  go_wp2_with fail
                  refine hR _ _ ⟨⟨wa, (BA).out⟩, rfl⟩ ?_
                  clear hR R
                  refine wpAnyC_mid (f := 3) [5, 6, 7] ⟨⟨wa, BA.out⟩, rfl⟩ (by kernel_rfl) (fun d v c a w h => by cases d <;> exact h) ?_
                  simp only [headOps]
                  repeat (refine wpTame_step (fun K hK => ?_); go_simp; refine hK _ ?_; clear hK K)
                  refine wpTame_nil ?_
                  refine wpAnyC_step (f := 2) [8] (by kernel_rfl) rfl rfl (fun i hi => ?_)
                  simp only [List.mem_cons, List.not_mem_nil, or_false] at hi
                  subst hi
                  refine ⟨_, rfl, fun R hR => ?_⟩
                  go_wp2_with fail
                  refine hR _ _ ⟨⟨_, bel_alloc BA.out _⟩, rfl⟩ ?_
                  clear hR R
                  refine wpAnyC_step (f := 1) [9] (by kernel_rfl) rfl rfl (fun i hi => ?_)
                  simp only [List.mem_cons, List.not_mem_nil, or_false] at hi
                  subst hi
                  refine ⟨_, rfl, fun R hR => ?_⟩
                  go_wp2_with fail
                  obtain ⟨wb, hwb⟩ : ∃ z, z = wa.alloc (.cells #[.int .u64 (idR f o0), .int .i64 (cAt (circ f) ((io : Int) - 1)), .slice sa 3 sc] 67) := ⟨_, rfl⟩
                  obtain ⟨Y, hY⟩ : ∃ z, z = wa.heap.size := ⟨_, rfl⟩
                  have bab : Below wa.heap.size wa wb := by rw [hwb]; exact bel_alloc (Below.refl _ _) _
                  have PB : Hid (PBox wb Y o1) := show PBox _ _ _ by
                    obtain ⟨b', o', hsa, _, hz, hc⟩ := SA.out.at 0 (by omega) wa (Below.refl _ _)
                    rw [Nat.add_zero] at hc
                    rw [HL0.out] at hc
                    refine ⟨by rw [hwb, hY]; simp, b', o', sc, by rw [hwb, hY, hsa]; simp [go_sem], Nat.lt_of_lt_of_le hz bab.size, (bab.cell (p := ⟨b', o', none⟩) hz).trans hc⟩
                  have BB : Hid (Below w6.heap.size w6 wb) := bel_below BA.out bab
                  rw [← hwb]
                  try rw [← hY]
                  refine hR _ _ ⟨⟨wb, BB.out⟩, rfl⟩ ?_
                  clear hR R hwb hY bab SA HL0 BA
                  refine wpAnyC_end (k := 10) (by decide) rfl rfl (by kernel_rfl) ?_
                  go_wp2_with fail
                  go_meet
                  case rel => exact ⟨Y, rfl, rfl, PB.out, BB.out⟩
                · refine ⟨_, rfl, fun R hR => ?_⟩
                  go_wp2_with fail
                  obtain ⟨wa, hwa⟩ : ∃ z, z = (w6.alloc (.cells #[.int .u64 0, .int .i64 0, .slice none 0 0] 67)).drew := ⟨_, rfl⟩
                  obtain ⟨Y, hY⟩ : ∃ z, z = w6.heap.size := ⟨_, rfl⟩
                  have bra : Below w6.heap.size w6 wa := by rw [hwa]; exact bel_drew (bel_alloc (RowKit.Below.refl _ _) _)
                  have y0 : wa.cell? ⟨Y, 0, none⟩ = some (.int .u64 0) := by rw [hwa, hY]; simp [go_sem]
                  have y1 : wa.cell? ⟨Y, 1, none⟩ = some (.int .i64 0) := by rw [hwa, hY]; simp [go_sem]
                  have y2 : wa.cell? ⟨Y, 2, none⟩ = some (.slice none 0 0) := by rw [hwa, hY]; simp [go_sem]
                  have z0 : wa.frozen? ⟨Y, 0, none⟩ = false := by rw [hwa, hY]; simp [go_sem]
                  have z1 : wa.frozen? ⟨Y, 1, none⟩ = false := by rw [hwa, hY]; simp [go_sem]
                  have z2 : wa.frozen? ⟨Y, 2, none⟩ = false := by rw [hwa, hY]; simp [go_sem]
                  have yz : Y < wa.heap.size := by rw [hwa, hY]; simp
                  have hYW : Hid (w6.heap.size ≤ Y) := show _ ≤ _ by omega
                  have BRA := Lib.hid bra
                  rw [← hwa]
                  try rw [← hY]
                  refine hR _ _ ⟨⟨wa, BRA.out⟩, rfl⟩ ?_
                  clear hR R hwa hY bra
                  refine wpAnyC_step (f := 5) [4] (by kernel_rfl) rfl rfl (fun i hi => ?_)
                  simp only [List.mem_cons, List.not_mem_nil, or_false] at hi
                  subst hi
                  refine ⟨_, rfl, fun R hR => ?_⟩
                  go_wp2_with fail
                  refine (CQ.out _ BRA.out).mono ?_
                  rintro e w5' ⟨v, l, rfl, hl3, hl0', _, hs, hb⟩
                  obtain ⟨sa, sc, rfl, _⟩ := hs.slice
                  have B5' : Hid (Below w6.heap.size w6 w5') := bel_below BRA.out hb
                  have y0 := (hb.cell (p := ⟨Y, 0, none⟩) yz).trans y0
                  have y1 := (hb.cell (p := ⟨Y, 1, none⟩) yz).trans y1
                  have y2 := (hb.cell (p := ⟨Y, 2, none⟩) yz).trans y2
                  have z0 := (hb.frozen (p := ⟨Y, 0, none⟩) yz).trans z0
                  have z1 := (hb.frozen (p := ⟨Y, 1, none⟩) yz).trans z1
                  have z2 := (hb.frozen (p := ⟨Y, 2, none⟩) yz).trans z2
                  have SA := Lib.hid hs
                  have HL0 := Lib.hid hl0'
                  have yz5 := Nat.lt_of_lt_of_le yz hb.size
                  clear hs hb hl3 hl0'
                  go_wp2_with fail
                  refine hR _ _ ⟨⟨w5', (B5').out⟩, rfl⟩ ?_
                  clear hR R
                  refine wpAnyC_mid (f := 2) [5, 6, 7] ⟨⟨w5', B5'.out⟩, rfl⟩ (by kernel_rfl) (fun d v c a w h => by cases d <;> exact h) ?_
                  simp only [headOps]
                  repeat (refine wpTame_step (fun K hK => ?_); go_simp; refine hK _ ?_; clear hK K)
                  refine wpTame_nil ?_
                  refine wpAnyC_step (f := 1) [9] (by kernel_rfl) rfl rfl (fun i hi => ?_)
                  simp only [List.mem_cons, List.not_mem_nil, or_false] at hi
                  subst hi
                  refine ⟨_, rfl, fun R hR => ?_⟩
                  go_wp2_with fail
                  obtain ⟨wb, hwb⟩ : ∃ z, z = ((w5'.setCell ⟨Y, 0, none⟩ (.int .u64 (idR f o0))).setCell ⟨Y, 1, none⟩ (.int .i64 (cAt (circ f) ((io : Int) - 1)))).setCell ⟨Y, 2, none⟩ (.slice sa 3 sc) := ⟨_, rfl⟩
                  have BB : Hid (Below w6.heap.size w6 wb) := by rw [hwb]; exact bel_set (bel_set (bel_set B5'.out hYW.out _) hYW.out _) hYW.out _
                  have PB : Hid (PBox wb Y o1) := show PBox _ _ _ by
                    obtain ⟨b', o', hsa, hbb, hz, hc⟩ := SA.out.at 0 (by omega) w5' (Below.refl _ _)
                    rw [Nat.add_zero] at hc
                    rw [HL0.out] at hc
                    have hne : b' ≠ Y := by omega
                    refine ⟨by rw [hwb]; simpa using yz5, b', o', sc, by rw [hwb, hsa]; simp [go_sem, y0, y1, y2], by rw [hwb]; simpa using hz, ?_⟩
                    rw [hwb]
                    simp [go_sem, hne, hc]
                  rw [← hwb]
                  refine hR _ _ ⟨⟨wb, BB.out⟩, rfl⟩ ?_
                  clear hR R hwb SA HL0 y0 y1 y2 z0 z1 z2 yz yz5
                  refine wpAnyC_end (k := 10) (by decide) rfl rfl (by kernel_rfl) ?_
                  go_wp2_with fail
                  go_meet
                  case rel => exact ⟨Y, rfl, rfl, PB.out, BB.out⟩
            case rest =>
              as_aux_lemma =>
                obtain ⟨Y1, rfl, rfl, hP1, hB7⟩ := hcut
                obtain ⟨w7, hw7⟩ : ∃ z, z = wc := ⟨_, rfl⟩
                rw [← hw7] at hP1 hB7 ⊢
                clear hw7 wc
                have x0 := (hB7.out.cell (p := ⟨X, 0, none⟩) xz6).trans x0
                have x1 := (hB7.out.cell (p := ⟨X, 1, none⟩) xz6).trans x1
                have xz7 := Nat.lt_of_lt_of_le xz6 hB7.out.size
                have hl0 := (hB7.out.cell (p := ⟨qb, qo, none⟩) hqz6).trans hl0
                have hl1 := (hB7.out.cell (p := ⟨qb, qo + 1, none⟩) hqz6).trans hl1
                have hl2 := (hB7.out.cell (p := ⟨qb, qo + 2, none⟩) hqz6).trans hl2
                have hqz7 := Nat.lt_of_lt_of_le hqz6 hB7.out.size
                have B37 := Lib.hid (bel_below B36.out hB7.out)
                have CQ2 := Lib.hid fun wr (hb : Below w7.heap.size w7 wr) => CP1.out wr (bel_below (bel_below B6.out hB7.out) hb)
                clear CQ CP1
                go_wp2_with fail
                go_upto_region 13 with (fail)
                go_cut [13, 14] (fun s11 s12 wx => ∃ X : Nat, s11 = .pointer (some ⟨X, 0, none⟩) ∧ s12 = .bool true ∧ Hid (PBox wx X o2) ∧ Hid (Below w7.heap.size w7 wx))
                case first =>
                  as_aux_lemma =>
                    refine wp_region_heads [0, 1, 2, 3] 10 (fun w' => ∃ x : Later w7, w' = x.world) (by kernel_rfl) (by kernel_rfl) ⟨⟨{ w7 with drawn := w7.drawn + 1 }, (RowKit.Below.refl _ _).drew⟩, rfl⟩ (fun d v c a w h => by cases d <;> exact h) ?_
                    simp only [headOps]
                    repeat (refine wpTame_step (fun K hK => ?_); go_simp; refine hK _ ?_; clear hK K)
                    refine wpTame_nil ?_
                    refine wpAnyC_step (f := 6) [4, 8] (by kernel_rfl) rfl rfl (fun i hi => ?_)
                    simp only [List.mem_cons, List.not_mem_nil, or_false] at hi
                    rcases hi with rfl | rfl
                    · refine ⟨_, rfl, fun R hR => ?_⟩
                      go_wp2_with fail
                      refine (CQ2.out _ (RowKit.Below.refl _ _).drew).mono ?_
                      rintro e wa ⟨v, l, rfl, hl3, hl0, _, hs, hb⟩
                      obtain ⟨sa, sc, rfl, _⟩ := hs.slice
                      have BA : Hid (Below w7.heap.size w7 wa) := bel_below (RowKit.Below.refl _ _).drew hb
                      have SA := Lib.hid (hs.base (B' := 0) (Nat.zero_le _))
                      have HL0 := Lib.hid hl0
                      clear hs hb hl3 hl0
                      go_wp2_with fail
                      refine hR _ _ ⟨⟨wa, (BA).out⟩, rfl⟩ ?_
                      clear hR R
                      refine wpAnyC_mid (f := 3) [5, 6, 7] ⟨⟨wa, BA.out⟩, rfl⟩ (by kernel_rfl) (fun d v c a w h => by cases d <;> exact h) ?_
                      simp only [headOps]
                      repeat (refine wpTame_step (fun K hK => ?_); go_simp; refine hK _ ?_; clear hK K)
                      refine wpTame_nil ?_
                      refine wpAnyC_step (f := 2) [8] (by kernel_rfl) rfl rfl (fun i hi => ?_)
                      simp only [List.mem_cons, List.not_mem_nil, or_false] at hi
                      subst hi
                      refine ⟨_, rfl, fun R hR => ?_⟩
                      go_wp2_with fail
                      refine hR _ _ ⟨⟨_, bel_alloc BA.out _⟩, rfl⟩ ?_
                      clear hR R
                      refine wpAnyC_step (f := 1) [9] (by kernel_rfl) rfl rfl (fun i hi => ?_)
                      simp only [List.mem_cons, List.not_mem_nil, or_false] at hi
                      subst hi
                      refine ⟨_, rfl, fun R hR => ?_⟩
                      go_wp2_with fail
                      obtain ⟨wb, hwb⟩ : ∃ z, z = wa.alloc (.cells #[.int .u64 (idR f o1), .int .i64 (cAt (circ f) (io : Int)), .slice sa 3 sc] 67) := ⟨_, rfl⟩
                      obtain ⟨Y, hY⟩ : ∃ z, z = wa.heap.size := ⟨_, rfl⟩
                      have bab : Below wa.heap.size wa wb := by rw [hwb]; exact bel_alloc (Below.refl _ _) _
                      have PB : Hid (PBox wb Y o2) := show PBox _ _ _ by
                        obtain ⟨b', o', hsa, _, hz, hc⟩ := SA.out.at 0 (by omega) wa (Below.refl _ _)
                        rw [Nat.add_zero] at hc
                        rw [HL0.out] at hc
                        refine ⟨by rw [hwb, hY]; simp, b', o', sc, by rw [hwb, hY, hsa]; simp [go_sem], Nat.lt_of_lt_of_le hz bab.size, (bab.cell (p := ⟨b', o', none⟩) hz).trans hc⟩
                      have BB : Hid (Below w7.heap.size w7 wb) := bel_below BA.out bab
                      rw [← hwb]
                      try rw [← hY]
                      refine hR _ _ ⟨⟨wb, BB.out⟩, rfl⟩ ?_
                      clear hR R hwb hY bab SA HL0 BA
                      refine wpAnyC_end (k := 10) (by decide) rfl rfl (by kernel_rfl) ?_
                      go_wp2_with fail
                      go_meet
                      case rel => exact ⟨Y, rfl, rfl, PB.out, BB.out⟩
                    · refine ⟨_, rfl, fun R hR => ?_⟩
                      go_wp2_with fail
                      obtain ⟨wa, hwa⟩ : ∃ z, z = (w7.alloc (.cells #[.int .u64 0, .int .i64 0, .slice none 0 0] 67)).drew := ⟨_, rfl⟩
                      obtain ⟨Y, hY⟩ : ∃ z, z = w7.heap.size := ⟨_, rfl⟩
                      have bra : Below w7.heap.size w7 wa := by rw [hwa]; exact bel_drew (bel_alloc (RowKit.Below.refl _ _) _)
                      have y0 : wa.cell? ⟨Y, 0, none⟩ = some (.int .u64 0) := by rw [hwa, hY]; simp [go_sem]
                      have y1 : wa.cell? ⟨Y, 1, none⟩ = some (.int .i64 0) := by rw [hwa, hY]; simp [go_sem]
                      have y2 : wa.cell? ⟨Y, 2, none⟩ = some (.slice none 0 0) := by rw [hwa, hY]; simp [go_sem]
                      have z0 : wa.frozen? ⟨Y, 0, none⟩ = false := by rw [hwa, hY]; simp [go_sem]
                      have z1 : wa.frozen? ⟨Y, 1, none⟩ = false := by rw [hwa, hY]; simp [go_sem]
                      have z2 : wa.frozen? ⟨Y, 2, none⟩ = false := by rw [hwa, hY]; simp [go_sem]
                      have yz : Y < wa.heap.size := by rw [hwa, hY]; simp
                      have hYW : Hid (w7.heap.size ≤ Y) := show _ ≤ _ by omega
                      have BRA := Lib.hid bra
                      rw [← hwa]
                      try rw [← hY]
                      refine hR _ _ ⟨⟨wa, BRA.out⟩, rfl⟩ ?_
                      clear hR R hwa hY bra
                      refine wpAnyC_step (f := 5) [4] (by kernel_rfl) rfl rfl (fun i hi => ?_)
                      simp only [List.mem_cons, List.not_mem_nil, or_false] at hi
                      subst hi
                      refine ⟨_, rfl, fun R hR => ?_⟩
                      go_wp2_with fail
                      refine (CQ2.out _ BRA.out).mono ?_
                      rintro e w5' ⟨v, l, rfl, hl3, hl0', _, hs, hb⟩
                      obtain ⟨sa, sc, rfl, _⟩ := hs.slice
                      have B5' : Hid (Below w7.heap.size w7 w5') := bel_below BRA.out hb
                      have y0 := (hb.cell (p := ⟨Y, 0, none⟩) yz).trans y0
                      have y1 := (hb.cell (p := ⟨Y, 1, none⟩) yz).trans y1
                      have y2 := (hb.cell (p := ⟨Y, 2, none⟩) yz).trans y2
                      have z0 := (hb.frozen (p := ⟨Y, 0, none⟩) yz).trans z0
                      have z1 := (hb.frozen (p := ⟨Y, 1, none⟩) yz).trans z1
                      have z2 := (hb.frozen (p := ⟨Y, 2, none⟩) yz).trans z2
                      have SA := Lib.hid hs
                      have HL0 := Lib.hid hl0'
                      have yz5 := Nat.lt_of_lt_of_le yz hb.size
                      clear hs hb hl3 hl0'
                      go_wp2_with fail
                      refine hR _ _ ⟨⟨w5', (B5').out⟩, rfl⟩ ?_
                      clear hR R
                      refine wpAnyC_mid (f := 2) [5, 6, 7] ⟨⟨w5', B5'.out⟩, rfl⟩ (by kernel_rfl) (fun d v c a w h => by cases d <;> exact h) ?_
                      simp only [headOps]
                      repeat (refine wpTame_step (fun K hK => ?_); go_simp; refine hK _ ?_; clear hK K)
                      refine wpTame_nil ?_
                      refine wpAnyC_step (f := 1) [9] (by kernel_rfl) rfl rfl (fun i hi => ?_)
                      simp only [List.mem_cons, List.not_mem_nil, or_false] at hi
                      subst hi
                      refine ⟨_, rfl, fun R hR => ?_⟩
                      go_wp2_with fail
                      obtain ⟨wb, hwb⟩ : ∃ z, z = ((w5'.setCell ⟨Y, 0, none⟩ (.int .u64 (idR f o1))).setCell ⟨Y, 1, none⟩ (.int .i64 (cAt (circ f) (io : Int)))).setCell ⟨Y, 2, none⟩ (.slice sa 3 sc) := ⟨_, rfl⟩
                      have BB : Hid (Below w7.heap.size w7 wb) := by rw [hwb]; exact bel_set (bel_set (bel_set B5'.out hYW.out _) hYW.out _) hYW.out _
                      have PB : Hid (PBox wb Y o2) := show PBox _ _ _ by
                        obtain ⟨b', o', hsa, hbb, hz, hc⟩ := SA.out.at 0 (by omega) w5' (Below.refl _ _)
                        rw [Nat.add_zero] at hc
                        rw [HL0.out] at hc
                        have hne : b' ≠ Y := by omega
                        refine ⟨by rw [hwb]; simpa using yz5, b', o', sc, by rw [hwb, hsa]; simp [go_sem, y0, y1, y2], by rw [hwb]; simpa using hz, ?_⟩
                        rw [hwb]
                        simp [go_sem, hne, hc]
                      rw [← hwb]
                      refine hR _ _ ⟨⟨wb, BB.out⟩, rfl⟩ ?_
                      clear hR R hwb SA HL0 y0 y1 y2 z0 z1 z2 yz yz5
                      refine wpAnyC_end (k := 10) (by decide) rfl rfl (by kernel_rfl) ?_
                      go_wp2_with fail
                      go_meet
                      case rel => exact ⟨Y, rfl, rfl, PB.out, BB.out⟩
                case rest =>
                  as_aux_lemma =>
                    obtain ⟨Y2, rfl, rfl, hP2, hB8⟩ := hcut
                    obtain ⟨w8, hw8⟩ : ∃ z, z = wc := ⟨_, rfl⟩
                    rw [← hw8] at hP2 hB8 ⊢
                    clear hw8 wc
                    have hl1 := (hB8.out.cell (p := ⟨qb, qo + 1, none⟩) hqz7).trans hl1
                    have hl2 := (hB8.out.cell (p := ⟨qb, qo + 2, none⟩) hqz7).trans hl2
                    have hqz8 := Nat.lt_of_lt_of_le hqz7 hB8.out.size
                    obtain ⟨p1z, pb, po, pc, p1, p2, p3⟩ := hP1.out.below hB8.out
                    obtain ⟨q1z, qb2, qo2, qc2, q1, q2, q3⟩ := hP2.out
                    have B38 := Lib.hid (bel_below B37.out hB8.out)
                    have CA := Lib.hid fun w => awake21_any w
                    clear hl0 x0 x1 CQ2 hP1 hP2
                    go_wp2_with fail
                    refine wp_region_calm (by kernel_rfl) (by kernel_rfl) ?_
                    repeat (first | (go_big_quiet_step ((go_at_call 9; exact calls_calm (CA.out _)))) | (refine wpQuiet_step (fun K hK => ?_); go_simp; first | (refine hK _ ?_; clear hK K) | (apply Exists.intro; refine ⟨fun _ => ?_, hK _ ?_⟩; (go_at_call 9; exact calls_calm (CA.out _)); clear hK K)))
                    refine wpQuiet_nil ?_
                    intro _ hw'
                    obtain ⟨xq, hw''⟩ := hw'
                    subst hw''
                    go_wp2_with fail
                    go_ret
                    exact ⟨rfl, bel_below B38.out xq.below⟩
set_option maxRecDepth 100000 in
theorem rdvOwner_walk {H : Type} (enc : TypeId × Value → H) (W : World) (v0 : Value) (d0 : DataW H) (p0 : List MemPlace) {r0 : Reach} {b0 : Nat} (ok0 : Value.okWide Tryz.prog W r0 b0 23 v0) (h0 : DataW.Trod enc Tryz.prog W 0 (fun _ => true) true 23 v0 d0 p0)
    (hlt0 : ∀ x ∈ p0, x.block < W.heap.size) (sz0 : ∀ n ∈ d0.weights Tryz.prog 23, n ≤ reachBytes) (a1 : ByteArray) (y1 : a1.size ≤ 140737488351232) (hg : HandleAt W) :
    Calls Tryz.prog 5 #[v0, .string a1] W fun e W' => e = .returned (.bool true) ∧ RowKit.Below W.heap.size W W' := by
  obtain ⟨acts, ha, hao⟩ := acts_open ok0 h0
  exact rdvOwner_main W hg v0 acts a1 ha hao
end Go.Proofs.YtahiahjhpakeiaaGreatDoor
