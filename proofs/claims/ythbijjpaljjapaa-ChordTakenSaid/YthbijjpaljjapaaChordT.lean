
/-
  ChordSame: whoever looks, nobody comes or goes by it.
-/
import Derived.Test.YthbijjpaljjapaaChordS
namespace Go.Proofs.Ythbijjpaljjapaa
open Go.RowKit Go.Maps Go.Sort Go.WideShapes Go.ChangeShapes Go.Deep
set_option linter.unusedVariables false
set_option linter.unusedSimpArgs false
attribute [local go_sem] later_cell later_frozen later_lt cell_set_off cell_set_block

theorem slAt_kept {B : Nat} {gg : Nat → Value} {n : Nat} {w w' : World} {v : Value} {T : Nat → Prop} (h : SlAt B gg n w v) (hk : Kept T w w') (hT : ∀ b, B ≤ b → b < w.heap.size → ¬ T b) : SlAt B gg n w' v := by
  obtain ⟨a, cap, rfl, h1, h2, h6, h3⟩ := h
  refine ⟨a, cap, rfl, h1, h2, h6, h3.imp id ?_⟩
  rintro ⟨b, off, rfl, h7, h4, h5⟩
  exact ⟨b, off, rfl, h7, Nat.lt_of_lt_of_le h4 hk.size, fun i hi => (World.cell?_of_block (hk.block b h4 (hT b h7 h4))).trans (h5 i hi)⟩
/-- A ring whose blocks are those of S. -/
structure RingOn (S : Nat → Prop) (w0 w : World) (rb mb : Nat) (f : RS) : Prop where
  ring : ∃ g, RAt S w rb mb g f
  inv : Inv f
  kept : Kept S w0 w
theorem RingOk.now {W w2 w4 : World} {rb mb : Nat} {f : RS} (h : RingOk W.heap.size W w2 rb mb f) (hb : RowKit.Below w2.heap.size w2 w4) : RingOn (Now (fun b => W.heap.size ≤ b) w2 w4) w4 w4 rb mb f := by
  obtain ⟨g, hg⟩ := h.ring
  exact ⟨⟨g, hg.now hb⟩, h.inv, Kept.refl _ _⟩
theorem RingOn.step {S : Nat → Prop} {w0 w w' : World} {rb mb : Nat} {f f' : RS} (h : RingOn S w0 w rb mb f) (I : Inv f') (hr : ∃ g, RAt S w' rb mb g f') (hk : Kept S w w') : RingOn S w0 w' rb mb f' := ⟨hr, I, h.kept.trans hk⟩
theorem RingOn.later {S : Nat → Prop} {w0 w w' : World} {rb mb : Nat} {f : RS} (h : RingOn S w0 w rb mb f) (hb : RowKit.Below w.heap.size w w') : RingOn S w0 w' rb mb f := by
  obtain ⟨g, hg⟩ := h.ring
  exact ⟨⟨g, hg.below hb⟩, h.inv, h.kept.below hb⟩
theorem lives_stabE (f : RS) (n j : Int) : livesR (stabE f n) j = livesR f j := by unfold stabE; split <;> first | exact livesR_stab f n j | rfl
theorem id_stabE (f : RS) (n j : Int) : idR (stabE f n) j = idR f j := by unfold stabE; split <;> first | exact idR_stab f n j | rfl
set_option maxRecDepth 100000 in
set_option maxHeartbeats 8000000 in
theorem chordSame_main (W : World) (v0 v1 v2 : Value) (ids : List Int) (acts : List ActD) (looks : List Int) (hi : SlAt 0 (fun i => .int .u64 (nth ids i)) ids.length W v0) (hp : ∀ x ∈ ids, isPlace x)
    (ha : ActsAt acts W v1) (hao : ∀ k, k < acts.length → (actAt acts k).ok) (hl : SlAt 0 (fun i => .int .i64 (nth looks i)) looks.length W v2) (hlo : ∀ x ∈ looks, okInt x) : Calls Try.prog 4 #[v0, v1, v2] W (OneYes W) := by
  have CB := Lib.hid (born_any W W (RowKit.Below.refl _ _) v0 ids hi hp)
  have HL := Lib.hid hl
  have HLO := Lib.hid hlo
  have HA := Lib.hid ha
  have HAO := Lib.hid hao
  obtain ⟨a1, q1, rfl, _, hm1⟩ := ha.slice
  obtain ⟨a2, q2, rfl, _, hm2⟩ := hl.slice
  have hlm : looks.length ≤ 9223372036854775807 := by unfold maxLen at hm2; omega
  have ham : acts.length ≤ 9223372036854775807 := by unfold maxLen at hm1; omega
  unfold Born at CB
  cases hf : fourB ids with
  | false =>
    rw [hf] at CB
    clear hl hi hp hlo hf hm1 hm2 ha hao
    go_enter Try.func4, Try.ntmps4
    go_wp2_with fail
    refine CB.out.mono ?_
    intro e w1 hq
    rw [if_neg (by decide)] at hq
    obtain ⟨b, rfl, hB1⟩ := hq
    go_wp2_with fail
    refine (awake_any _).mono ?_
    rintro e w3 ⟨rfl, hB3⟩
    go_wp2_with fail
    go_ret
    exact ⟨rfl, bel_below hB1 hB3⟩
  | true =>
    rw [hf] at CB
    clear hl hi hp hlo hf hm1 hm2 ha hao
    obtain ⟨i0, hi0, hz0, hz1, hz2⟩ : ∃ i0, Try.prog.info? 32 = some i0 ∧ i0.zero = some (Value.int .u64 0) ∧ i0.size = 1 ∧ i0.bytes = 8 := ⟨idI, idI_at, by kernel_rfl, by kernel_rfl, by kernel_rfl⟩
    go_enter Try.func4, Try.ntmps4
    go_wp2_with fail
    refine CB.out.mono ?_
    intro e w1 hq
    rw [if_pos trivial] at hq
    obtain ⟨rb, mb, rfl, hR1⟩ := hq
    have R1 := Lib.hid hR1
    clear hR1
    go_wp2_with fail
    go_loopw [9, 10] (fun i _ wr => ∃ (k : Nat) (f : RS), k ≤ 40 ∧ i = .int .i64 k ∧ Hid (RingOk W.heap.size W wr rb mb f)) (fun i _ _ => 40 - (intOf i).toNat)
    case atStart => exact ⟨0, _, by omega, rfl, R1.out⟩
    case round =>
      obtain ⟨k, f, hk, rfl, hR⟩ := hrel
      by_cases hlt : k < acts.length ∧ k < 40
      · obtain ⟨hlt, hlt2⟩ := hlt
        obtain ⟨b, off, rfl, hb, c0, c1, c2, c3⟩ := HA.out.at k hlt wr hR.out.below
        have hok := HAO.out k hlt
        generalize hA : actAt acts k = A at c0 c1 c2 c3 hok
        obtain ⟨kd, an, av, ai⟩ := A
        have HOK := Lib.hid hok
        clear hA hok
        dsimp only at c0 c1 c2 c3
        have R2 := Lib.hid (hR.out.later (bel_alloc (RowKit.Below.refl _ wr) (.cells #[.int .i64 kd, .int .i64 an, .int .i64 av, .int .u64 ai] 40)))
        obtain ⟨g2, hg2⟩ := R2.out.ring
        have G2 := Lib.hid hg2
        clear hg2
        by_cases k1 : kd = 1
        · subst k1
          go_wp2_with fail
          refine (join_act G2.out R2.out.inv.heads _ _ _ HOK.out.n HOK.out.via HOK.out.id).mono ?_
          rintro e w5 ⟨v, rfl, _, hg5, hk5⟩
          have R5 := Lib.hid (R2.out.step (inv_joinR R2.out.inv HOK.out.id) hg5 hk5)
          clear hg5 hk5 R2 G2
          go_wp2_with fail
          go_roundw
          case rel => go_light; exact ⟨k + 1, _, by omega, by go_num, R5.out⟩
          case measure => go_light; simp [intOf]; omega
        · have k1b : (kd == 1) = false := by simpa using k1
          by_cases k2 : kd = 2
          · subst k2
            clear k1 k1b
            go_wp2_with fail
            refine (fail_act G2.out _ HOK.out.n).mono ?_
            rintro e w5 ⟨v, rfl, _, hg5, hk5⟩
            have R5 := Lib.hid (R2.out.step (inv_failR R2.out.inv _) hg5 hk5)
            clear hg5 hk5 R2 G2
            go_wp2_with fail
            go_roundw
            case rel => go_light; exact ⟨k + 1, _, by omega, by go_num, R5.out⟩
            case measure => go_light; simp [intOf]; omega
          · have k2b : (kd == 2) = false := by simpa using k2
            clear k1 k2 G2
            go_wp2_with fail
            go_roundw
            case rel => go_light; exact ⟨k + 1, _, by omega, by go_num, R2.out⟩
            case measure => go_light; simp [intOf]; omega
      · have hcase : acts.length ≤ k ∨ k < acts.length ∧ k = 40 := by omega
        obtain ⟨w2, hw2⟩ : ∃ z, z = wr := ⟨_, rfl⟩
        rw [← hw2] at hR ⊢
        obtain ⟨g, RGx⟩ := hR.out.ring
        have RG := Lib.hid RGx
        have CLv := Lib.hid (live_at RGx)
        have hdm : Hid (∀ x ∈ liveL f, 0 ≤ x ∧ x < 32) := fun x hx => livesR_dom RGx.dom ((mem_liveL RGx.dom).1 hx)
        have hmem : Hid (∀ x ∈ liveL f, livesR f x = true) := fun x hx => (mem_liveL RGx.dom).1 hx
        have hlen := length_liveL f
        obtain ⟨L, hL⟩ : ∃ L, L = liveL f := ⟨_, rfl⟩
        rw [← hL] at CLv hdm hlen hmem
        have HLL := Lib.hid hL
        clear hlt hL RGx hw2
        rcases hcase with hcase | ⟨hcase, rfl⟩
        · go_wp2_with fail
          refine (CLv.out).mono ?_
          rintro e w3 ⟨v3, rfl, hs3, hB3⟩
          obtain ⟨a3, q3, rfl, _⟩ := hs3.slice
          have S3 := Lib.hid hs3
          have B3 := Lib.hid hB3
          clear hs3 hB3
          go_wp2_with fail
          obtain ⟨w4, hw4⟩ : ∃ z, z = w3.alloc (.cells #[] 32) := ⟨_, rfl⟩
          have B34 : RowKit.Below w3.heap.size w3 w4 := by rw [hw4]; exact bel_alloc (RowKit.Below.refl _ _) _
          have hz4 : w4.heap.size = w3.heap.size + 1 := by rw [hw4]; simp
          have O4 : Hid (w4.ownsRow w3.heap.size 32 1 (.slice (some ⟨w3.heap.size, 0, none⟩) 0 0) 0 ([].map (Value.int .u64))) := by rw [hw4]; exact World.ownsRow_made w3 #[] 0 (Nat.le_refl _) (Nat.zero_le _) (by simp)
          have CID := Lib.hid (fun wr (hb : RowKit.Below w3.heap.size w3 wr) (x : Int) (hx : okInt x) => id_at (RG.out.below (bel_below B3.out hb)) x hx)
          rw [← hw4]
          clear hw4
          go_loopw [12, 14, 72] (fun pv _ i wr => ∃ k : Nat, k ≤ L.length ∧ i = .int .i64 k ∧ Hid (wr.ownsRow w3.heap.size 32 1 pv k (((L.take k).map (idR f)).map (Value.int .u64))) ∧ Hid (RowKit.Below w3.heap.size w3 wr)) (fun _ _ i _ => L.length - (intOf i).toNat)
          case atStart => exact ⟨0, Nat.zero_le _, rfl, O4.out, B34⟩
          case round =>
            obtain ⟨k, hk, rfl, hO, hB5⟩ := hrel
            by_cases hlt : k < L.length
            · obtain ⟨b, off, rfl, _, hb, hc⟩ := S3.out.at k hlt wr hB5.out
              have hin : nth L k ∈ L := nth_mem.2 ⟨k, hlt, rfl⟩
              have hdk := hdm.out _ hin
              have okx : okInt (nth L k) := okInt_dom (by omega) (by omega)
              have hsn : Hid ((((L.take k).map (idR f)).map (Value.int .u64)) ++ [Value.int .u64 (idR f (nth L k))] = ((L.take (k + 1)).map (idR f)).map (Value.int .u64)) :=
                show _ = _ by rw [List.take_succ_eq_append_getElem hlt, List.map_append, List.map_append, nth_eq hlt]; rfl
              clear hin hdk
              go_wp2_with (first
                | (go_at_call 16; refine (CID.out _ hB5.out _ okx).mono ?_; rintro e w' ⟨rfl, rfl⟩)
                | (at_builtin; refine wpList_app rfl _ _ 22 rfl w3.heap.size 32 i0 (.int .u64 0) 8 Try.underlying22 hi0 hz0 hz1 hz2 rfl _ k _ rfl (hO.out.alloc _) 0 _ 1 _ rfl (sl_new _ .u64 [idR f (nth L k)] 32 _ 1 rfl rfl (by simp [maxLen])) (fun _ => rfl) ?qc1 ?qc2 ?qc3 ?_))
              case qc1 => simp only [maxLen]; omega
              case qc2 => omega
              case qc3 => have := hB5.out.size; simp; omega
              intro v7 w7 ho7 hg7
              have hown : ∀ q, Value.ownBlock u12 = some q → w3.heap.size ≤ q := fun q hq => (hO.out.lt q hq).1
              have B7 : Hid (RowKit.Below w3.heap.size w3 w7) := (bel_alloc hB5.out _).grown hg7 (by have := hB5.out.size; simp; omega) hown
              have O7 : Hid (w7.ownsRow w3.heap.size 32 1 v7 (k + 1) (((L.take (k + 1)).map (idR f)).map (Value.int .u64))) := show World.ownsRow _ _ _ _ _ _ _ by rw [← hsn.out]; simpa [nth] using ho7
              clear ho7 hg7
              go_wp2_with fail
              go_roundw
              case rel => go_light; exact ⟨k + 1, by omega, by go_num, O7.out, B7.out⟩
              case measure => go_light; simp [intOf]; omega
            · obtain rfl : k = L.length := by omega
              have hpl := hO.out
              rw [List.take_length] at hpl
              have hps := own_ints hpl
              rw [List.length_map] at hps
              obtain ⟨a5, q5, e5, _⟩ := hps.slice
              have S5 := Lib.hid hps
              have B25 := Lib.hid (bel_below B3.out hB5.out)
              have RN := Lib.hid (hR.out.now B25.out)
              have S35 := Lib.hid (S3.out.below hB5.out)
              obtain ⟨w5, hw5⟩ : ∃ z, z = wr := ⟨_, rfl⟩
              have hz5 := B25.out.size
              have hz35 := B3.out.size
              rw [← hw5] at S5 RN S35 B25 hB5 hz5 ⊢
              subst e5
              have BW5 := Lib.hid (hR.out.below.trans (B25.out.mono hR.out.below.size))
              have R5 : Hid (RingOn (Now (fun b => W.heap.size ≤ b) w2 w5) w5 w5 rb mb f) := RN
              have hzW := hR.out.below.size
              clear hpl hps hO hw5 hlt CID RN
              go_wp2_with fail
              go_loopw [15, 16] (fun i _ wr => ∃ (k : Nat) (f' : RS), k ≤ 40 ∧ i = .int .i64 k ∧ Hid (RingOn (Now (fun b => W.heap.size ≤ b) w2 w5) w5 wr rb mb f') ∧ Hid (∀ j, livesR f' j = livesR f j) ∧ Hid (∀ j, idR f' j = idR f j)) (fun i _ _ => 40 - (intOf i).toNat)
              case atStart => exact ⟨0, f, by omega, rfl, R5.out, fun _ => rfl, fun _ => rfl⟩
              case round =>
                obtain ⟨k, f', hk, rfl, hR6, hlv, hid⟩ := hrel
                have BW6 := Lib.hid (BW5.out.trans (hR6.out.kept.toBelow BW5.out.size (fun b hb => by simp only [Now]; omega)))
                obtain ⟨g6, RG6x⟩ := hR6.out.ring
                have RG6 := Lib.hid RG6x
                clear RG6x
                by_cases hlt : k < looks.length ∧ k < 40
                · obtain ⟨hlt, hlt2⟩ := hlt
                  obtain ⟨b, off, rfl, _, hbW, hcW⟩ := HL.out.at k hlt W (RowKit.Below.refl _ _)
                  have okx : okInt (nth looks k) := HLO.out _ (nth_mem.2 ⟨k, hlt, rfl⟩)
                  obtain ⟨x, hx⟩ : ∃ x, x = nth looks k := ⟨_, rfl⟩
                  rw [← hx] at hcW okx
                  have hc := (BW6.out.cell (p := ⟨b, off + k, none⟩) hbW).trans hcW
                  have hb := Nat.lt_of_lt_of_le hbW BW6.out.size
                  clear hx
                  go_wp2_with fail
                  refine (stab_act RG6.out hR6.out.inv.heads x okx).mono ?_
                  rintro e w7 ⟨v7, rfl, hv7, ⟨g7, hg7⟩, hk7⟩
                  have R7 : Hid (RingOn (Now (fun b => W.heap.size ≤ b) w2 w5) w5 w7 rb mb (stabE f' x)) := hR6.out.step (inv_stabE hR6.out.inv x) ⟨g7, hg7⟩ hk7
                  have CL := Lib.hid (fun w' (hb : RowKit.Below w7.heap.size w7 w') => lives_at (hg7.below hb) x okx)
                  rw [lives_stabE] at CL
                  have BW7 := BW5.out.trans (R7.out.kept.toBelow BW5.out.size (fun b hb => by simp only [Now]; omega))
                  have hc7 := (BW7.cell (p := ⟨b, off + k, none⟩) hbW).trans hcW
                  have hb7 := Nat.lt_of_lt_of_le hbW BW7.size
                  have hlv7 : Hid (∀ j, livesR (stabE f' x) j = livesR f j) := fun j => (lives_stabE _ _ _).trans (hlv.out j)
                  have hid7 : Hid (∀ j, idR (stabE f' x) j = idR f j) := fun j => (id_stabE _ _ _).trans (hid.out j)
                  unfold CodeIs stabC at hv7
                  cases hq : livesR f' x with
                  | true =>
                    rw [hq] at hv7 CL
                    have hv : v7 = .nilIface := by
                      rcases hv7 with ⟨_, h⟩ | ⟨h, _⟩
                      · exact h
                      · simp at h
                    subst hv
                    clear hv7 hq hg7 hk7 BW7 hc hb
                    go_wp2_with fail
                    refine wp_region_calm (by kernel_rfl) (by kernel_rfl) ?_
                    repeat (first | (go_big_quiet_step ((go_at_call 17; exact calls_calm_same (CL.out _ (by (repeat (first | exact Below.refl _ _ | (with_reducible assumption) | (with_reducible refine bel_later ?_ _) | (with_reducible refine bel_alloc ?_ _) | (with_reducible refine bel_drew ?_) | (with_reducible refine bel_drewN ?_ _) | (with_reducible refine bel_set ?_ (by first | (simp; done) | (simp; omega) | (dsimp only; omega)) _)))))))) | (refine wpQuiet_step (fun K hK => ?_); go_simp; first | (refine hK _ ?_; clear hK K) | (apply Exists.intro; refine ⟨fun _ => ?_, hK _ ?_⟩; (go_at_call 17; exact calls_calm_same (CL.out _ (by (repeat (first | exact Below.refl _ _ | (with_reducible assumption) | (with_reducible refine bel_later ?_ _) | (with_reducible refine bel_alloc ?_ _) | (with_reducible refine bel_drew ?_) | (with_reducible refine bel_drewN ?_ _) | (with_reducible refine bel_set ?_ (by first | (simp; done) | (simp; omega) | (dsimp only; omega)) _)))))); clear hK K)))
                    refine wpQuiet_nil ?_
                    intro _ hw'
                    obtain ⟨xq, hw''⟩ := hw'
                    subst hw''
                    have R8 := Lib.hid (R7.out.later xq.below)
                    go_wp2_with fail
                    go_roundw
                    case rel => go_light; exact ⟨k + 1, _, by omega, by go_num, R8.out, hlv7.out, hid7.out⟩
                    case measure => go_light; simp [intOf]; omega
                  | false =>
                    rw [hq] at hv7 CL
                    obtain ⟨bv, hv⟩ : ∃ bv, v7 = .iface 89 (.pointer (some ⟨bv, 0, none⟩)) := by
                      rcases hv7 with ⟨h, _⟩ | ⟨_, ⟨bv, h, _⟩⟩
                      · simp at h
                      · exact ⟨bv, h⟩
                    subst hv
                    clear hv7 hq hg7 hk7 BW7 hc hb
                    go_wp2_with fail
                    refine wp_region_calm (by kernel_rfl) (by kernel_rfl) ?_
                    repeat (first | (go_big_quiet_step ((go_at_call 17; exact calls_calm_same (CL.out _ (by (repeat (first | exact Below.refl _ _ | (with_reducible assumption) | (with_reducible refine bel_later ?_ _) | (with_reducible refine bel_alloc ?_ _) | (with_reducible refine bel_drew ?_) | (with_reducible refine bel_drewN ?_ _) | (with_reducible refine bel_set ?_ (by first | (simp; done) | (simp; omega) | (dsimp only; omega)) _)))))))) | (refine wpQuiet_step (fun K hK => ?_); go_simp; first | (refine hK _ ?_; clear hK K) | (apply Exists.intro; refine ⟨fun _ => ?_, hK _ ?_⟩; (go_at_call 17; exact calls_calm_same (CL.out _ (by (repeat (first | exact Below.refl _ _ | (with_reducible assumption) | (with_reducible refine bel_later ?_ _) | (with_reducible refine bel_alloc ?_ _) | (with_reducible refine bel_drew ?_) | (with_reducible refine bel_drewN ?_ _) | (with_reducible refine bel_set ?_ (by first | (simp; done) | (simp; omega) | (dsimp only; omega)) _)))))); clear hK K)))
                    refine wpQuiet_nil ?_
                    intro _ hw'
                    obtain ⟨xq, hw''⟩ := hw'
                    subst hw''
                    have R8 := Lib.hid (R7.out.later xq.below)
                    go_wp2_with fail
                    go_roundw
                    case rel => go_light; exact ⟨k + 1, _, by omega, by go_num, R8.out, hlv7.out, hid7.out⟩
                    case measure => go_light; simp [intOf]; omega
                · have hcase2 : looks.length ≤ k ∨ k < looks.length ∧ k = 40 := by omega
                  have CR := Lib.hid (round_at RG6.out hR6.out.inv.heads)
                  have hinv := Lib.hid (inv_round hR6.out.inv)
                  have hll : Hid (liveL (roundR f') = L) := show _ = _ by rw [HLL.out]; exact liveL_congr fun j => by rw [roundR_eq, lives_looks, hlv.out]
                  have hii : Hid (∀ j, idR (roundR f') j = idR f j) := fun j => by rw [roundR_eq, id_looks, hid.out]
                  clear hlt
                  rcases hcase2 with hcase2 | ⟨hcase2, rfl⟩
                  · go_wp2_with fail
                    refine CR.out.mono ?_
                    rintro e w7 ⟨rfl, hg7, hk7⟩
                    have R7 : Hid (RingOn (Now (fun b => W.heap.size ≤ b) w2 w5) w5 w7 rb mb (roundR f')) := hR6.out.step hinv.out ⟨_, hg7⟩ hk7
                    have G7 := Lib.hid hg7
                    have CL7 := live_at hg7
                    rw [hll.out] at CL7
                    have CLL := Lib.hid CL7
                    clear hg7 hk7 CL7
                    go_wp2_with fail
                    refine CLL.out.mono ?_
                    rintro e w8 ⟨v8, rfl, hs8, hB8⟩
                    obtain ⟨a8, q8, rfl, _⟩ := hs8.slice
                    have S8 := Lib.hid hs8
                    have B8 := Lib.hid hB8
                    have T8 := Lib.hid ((slAt_kept S35.out R7.out.kept (fun b hb hb2 => by simp only [Now]; omega)).below hB8)
                    have U8 := Lib.hid ((slAt_kept S5.out R7.out.kept (fun b hb hb2 => by simp only [Now]; omega)).below hB8)
                    have CI8 := Lib.hid (fun w' (hb : RowKit.Below w8.heap.size w8 w') (x : Int) (hx : okInt x) => id_at ((G7.out.below hB8).below hb) x hx)
                    have BW8 := Lib.hid ((BW5.out.trans (R7.out.kept.toBelow BW5.out.size (fun b hb => by simp only [Now]; omega))).trans (hB8.mono (by have := BW5.out.size; have := R7.out.kept.size; omega)))
                    clear hs8 hB8
                    go_wp2_with fail
                    go_loopw [18, 119] (fun _ i wr => ∃ k : Nat, k ≤ L.length ∧ i = .int .i64 k ∧ Hid (RowKit.Below w8.heap.size w8 wr)) (fun _ i _ => L.length - (intOf i).toNat)
                    case atStart => exact ⟨0, Nat.zero_le _, rfl, RowKit.Below.refl _ _⟩
                    case round =>
                      obtain ⟨k, hk, rfl, hB9⟩ := hrel
                      by_cases hlt : k < L.length
                      · obtain ⟨b, off, rfl, _, hb1, hc1⟩ := S8.out.at k hlt wr hB9.out
                        obtain ⟨b', off', rfl, _, hb2, hc2⟩ := T8.out.at k hlt wr hB9.out
                        obtain ⟨b'', off'', rfl, _, hb3, hc3⟩ := U8.out.at k hlt wr hB9.out
                        have hin : nth L k ∈ L := nth_mem.2 ⟨k, hlt, rfl⟩
                        have hdk := hdm.out _ hin
                        have okx : okInt (nth L k) := okInt_dom (by omega) (by omega)
                        have hmap : nth (L.map (idR f)) k = idR f (nth L k) := by rw [nth_eq (by simpa using hlt), nth_eq hlt]; simp
                        rw [hmap] at hc3
                        have CI9 := Lib.hid (fun w' (hb : RowKit.Below wr.heap.size wr w') => CI8.out _ (bel_below hB9.out hb) _ okx)
                        rw [hii.out] at CI9
                        obtain ⟨x, hx⟩ : ∃ x, x = nth L k := ⟨_, rfl⟩
                        obtain ⟨y, hy⟩ : ∃ y, y = idR f x := ⟨_, rfl⟩
                        rw [← hx] at hc1 hc2 hc3 CI9 okx
                        rw [← hy] at hc3 CI9
                        clear hin hdk hmap hx hy
                        go_wp2_with fail
                        refine wp_region_calm (by kernel_rfl) (by kernel_rfl) ?_
                        repeat (first | (go_big_quiet_step ((go_at_call 16; exact calls_calm_same (CI9.out _ (by (repeat (first | exact Below.refl _ _ | (with_reducible assumption) | (with_reducible refine bel_later ?_ _) | (with_reducible refine bel_alloc ?_ _) | (with_reducible refine bel_drew ?_) | (with_reducible refine bel_drewN ?_ _) | (with_reducible refine bel_set ?_ (by first | (simp; done) | (simp; omega) | (dsimp only; omega)) _)))))))) | (refine wpQuiet_step (fun K hK => ?_); go_simp; first | (refine hK _ ?_; clear hK K) | (apply Exists.intro; refine ⟨fun _ => ?_, hK _ ?_⟩; (go_at_call 16; exact calls_calm_same (CI9.out _ (by (repeat (first | exact Below.refl _ _ | (with_reducible assumption) | (with_reducible refine bel_later ?_ _) | (with_reducible refine bel_alloc ?_ _) | (with_reducible refine bel_drew ?_) | (with_reducible refine bel_drewN ?_ _) | (with_reducible refine bel_set ?_ (by first | (simp; done) | (simp; omega) | (dsimp only; omega)) _)))))); clear hK K)))
                        refine wpQuiet_nil ?_
                        intro _ hw'
                        obtain ⟨xq, hw''⟩ := hw'
                        subst hw''
                        have B10 := Lib.hid (bel_later hB9.out xq)
                        go_wp2_with fail
                        go_roundw
                        case rel => go_light; exact ⟨k + 1, by omega, by go_num, B10.out⟩
                        case measure => go_light; simp [intOf]; omega
                      · obtain rfl : k = L.length := by omega
                        go_wp2_with fail
                        refine (awake_any _).mono ?_
                        rintro e w9 ⟨rfl, hB10⟩
                        go_wp2_with fail
                        go_ret
                        exact ⟨rfl, bel_below (bel_below BW8.out hB9.out) hB10⟩
                  · go_wp2_with fail
                    refine CR.out.mono ?_
                    rintro e w7 ⟨rfl, hg7, hk7⟩
                    have R7 : Hid (RingOn (Now (fun b => W.heap.size ≤ b) w2 w5) w5 w7 rb mb (roundR f')) := hR6.out.step hinv.out ⟨_, hg7⟩ hk7
                    have G7 := Lib.hid hg7
                    have CL7 := live_at hg7
                    rw [hll.out] at CL7
                    have CLL := Lib.hid CL7
                    clear hg7 hk7 CL7
                    go_wp2_with fail
                    refine CLL.out.mono ?_
                    rintro e w8 ⟨v8, rfl, hs8, hB8⟩
                    obtain ⟨a8, q8, rfl, _⟩ := hs8.slice
                    have S8 := Lib.hid hs8
                    have B8 := Lib.hid hB8
                    have T8 := Lib.hid ((slAt_kept S35.out R7.out.kept (fun b hb hb2 => by simp only [Now]; omega)).below hB8)
                    have U8 := Lib.hid ((slAt_kept S5.out R7.out.kept (fun b hb hb2 => by simp only [Now]; omega)).below hB8)
                    have CI8 := Lib.hid (fun w' (hb : RowKit.Below w8.heap.size w8 w') (x : Int) (hx : okInt x) => id_at ((G7.out.below hB8).below hb) x hx)
                    have BW8 := Lib.hid ((BW5.out.trans (R7.out.kept.toBelow BW5.out.size (fun b hb => by simp only [Now]; omega))).trans (hB8.mono (by have := BW5.out.size; have := R7.out.kept.size; omega)))
                    clear hs8 hB8
                    go_wp2_with fail
                    go_loopw [18, 119] (fun _ i wr => ∃ k : Nat, k ≤ L.length ∧ i = .int .i64 k ∧ Hid (RowKit.Below w8.heap.size w8 wr)) (fun _ i _ => L.length - (intOf i).toNat)
                    case atStart => exact ⟨0, Nat.zero_le _, rfl, RowKit.Below.refl _ _⟩
                    case round =>
                      obtain ⟨k, hk, rfl, hB9⟩ := hrel
                      by_cases hlt : k < L.length
                      · obtain ⟨b, off, rfl, _, hb1, hc1⟩ := S8.out.at k hlt wr hB9.out
                        obtain ⟨b', off', rfl, _, hb2, hc2⟩ := T8.out.at k hlt wr hB9.out
                        obtain ⟨b'', off'', rfl, _, hb3, hc3⟩ := U8.out.at k hlt wr hB9.out
                        have hin : nth L k ∈ L := nth_mem.2 ⟨k, hlt, rfl⟩
                        have hdk := hdm.out _ hin
                        have okx : okInt (nth L k) := okInt_dom (by omega) (by omega)
                        have hmap : nth (L.map (idR f)) k = idR f (nth L k) := by rw [nth_eq (by simpa using hlt), nth_eq hlt]; simp
                        rw [hmap] at hc3
                        have CI9 := Lib.hid (fun w' (hb : RowKit.Below wr.heap.size wr w') => CI8.out _ (bel_below hB9.out hb) _ okx)
                        rw [hii.out] at CI9
                        obtain ⟨x, hx⟩ : ∃ x, x = nth L k := ⟨_, rfl⟩
                        obtain ⟨y, hy⟩ : ∃ y, y = idR f x := ⟨_, rfl⟩
                        rw [← hx] at hc1 hc2 hc3 CI9 okx
                        rw [← hy] at hc3 CI9
                        clear hin hdk hmap hx hy
                        go_wp2_with fail
                        refine wp_region_calm (by kernel_rfl) (by kernel_rfl) ?_
                        repeat (first | (go_big_quiet_step ((go_at_call 16; exact calls_calm_same (CI9.out _ (by (repeat (first | exact Below.refl _ _ | (with_reducible assumption) | (with_reducible refine bel_later ?_ _) | (with_reducible refine bel_alloc ?_ _) | (with_reducible refine bel_drew ?_) | (with_reducible refine bel_drewN ?_ _) | (with_reducible refine bel_set ?_ (by first | (simp; done) | (simp; omega) | (dsimp only; omega)) _)))))))) | (refine wpQuiet_step (fun K hK => ?_); go_simp; first | (refine hK _ ?_; clear hK K) | (apply Exists.intro; refine ⟨fun _ => ?_, hK _ ?_⟩; (go_at_call 16; exact calls_calm_same (CI9.out _ (by (repeat (first | exact Below.refl _ _ | (with_reducible assumption) | (with_reducible refine bel_later ?_ _) | (with_reducible refine bel_alloc ?_ _) | (with_reducible refine bel_drew ?_) | (with_reducible refine bel_drewN ?_ _) | (with_reducible refine bel_set ?_ (by first | (simp; done) | (simp; omega) | (dsimp only; omega)) _)))))); clear hK K)))
                        refine wpQuiet_nil ?_
                        intro _ hw'
                        obtain ⟨xq, hw''⟩ := hw'
                        subst hw''
                        have B10 := Lib.hid (bel_later hB9.out xq)
                        go_wp2_with fail
                        go_roundw
                        case rel => go_light; exact ⟨k + 1, by omega, by go_num, B10.out⟩
                        case measure => go_light; simp [intOf]; omega
                      · obtain rfl : k = L.length := by omega
                        go_wp2_with fail
                        refine (awake_any _).mono ?_
                        rintro e w9 ⟨rfl, hB10⟩
                        go_wp2_with fail
                        go_ret
                        exact ⟨rfl, bel_below (bel_below BW8.out hB9.out) hB10⟩
        · go_wp2_with fail
          refine (CLv.out).mono ?_
          rintro e w3 ⟨v3, rfl, hs3, hB3⟩
          obtain ⟨a3, q3, rfl, _⟩ := hs3.slice
          have S3 := Lib.hid hs3
          have B3 := Lib.hid hB3
          clear hs3 hB3
          go_wp2_with fail
          obtain ⟨w4, hw4⟩ : ∃ z, z = w3.alloc (.cells #[] 32) := ⟨_, rfl⟩
          have B34 : RowKit.Below w3.heap.size w3 w4 := by rw [hw4]; exact bel_alloc (RowKit.Below.refl _ _) _
          have hz4 : w4.heap.size = w3.heap.size + 1 := by rw [hw4]; simp
          have O4 : Hid (w4.ownsRow w3.heap.size 32 1 (.slice (some ⟨w3.heap.size, 0, none⟩) 0 0) 0 ([].map (Value.int .u64))) := by rw [hw4]; exact World.ownsRow_made w3 #[] 0 (Nat.le_refl _) (Nat.zero_le _) (by simp)
          have CID := Lib.hid (fun wr (hb : RowKit.Below w3.heap.size w3 wr) (x : Int) (hx : okInt x) => id_at (RG.out.below (bel_below B3.out hb)) x hx)
          rw [← hw4]
          clear hw4
          go_loopw [12, 14, 72] (fun pv _ i wr => ∃ k : Nat, k ≤ L.length ∧ i = .int .i64 k ∧ Hid (wr.ownsRow w3.heap.size 32 1 pv k (((L.take k).map (idR f)).map (Value.int .u64))) ∧ Hid (RowKit.Below w3.heap.size w3 wr)) (fun _ _ i _ => L.length - (intOf i).toNat)
          case atStart => exact ⟨0, Nat.zero_le _, rfl, O4.out, B34⟩
          case round =>
            obtain ⟨k, hk, rfl, hO, hB5⟩ := hrel
            by_cases hlt : k < L.length
            · obtain ⟨b, off, rfl, _, hb, hc⟩ := S3.out.at k hlt wr hB5.out
              have hin : nth L k ∈ L := nth_mem.2 ⟨k, hlt, rfl⟩
              have hdk := hdm.out _ hin
              have okx : okInt (nth L k) := okInt_dom (by omega) (by omega)
              have hsn : Hid ((((L.take k).map (idR f)).map (Value.int .u64)) ++ [Value.int .u64 (idR f (nth L k))] = ((L.take (k + 1)).map (idR f)).map (Value.int .u64)) :=
                show _ = _ by rw [List.take_succ_eq_append_getElem hlt, List.map_append, List.map_append, nth_eq hlt]; rfl
              clear hin hdk
              go_wp2_with (first
                | (go_at_call 16; refine (CID.out _ hB5.out _ okx).mono ?_; rintro e w' ⟨rfl, rfl⟩)
                | (at_builtin; refine wpList_app rfl _ _ 22 rfl w3.heap.size 32 i0 (.int .u64 0) 8 Try.underlying22 hi0 hz0 hz1 hz2 rfl _ k _ rfl (hO.out.alloc _) 0 _ 1 _ rfl (sl_new _ .u64 [idR f (nth L k)] 32 _ 1 rfl rfl (by simp [maxLen])) (fun _ => rfl) ?qc1 ?qc2 ?qc3 ?_))
              case qc1 => simp only [maxLen]; omega
              case qc2 => omega
              case qc3 => have := hB5.out.size; simp; omega
              intro v7 w7 ho7 hg7
              have hown : ∀ q, Value.ownBlock u12 = some q → w3.heap.size ≤ q := fun q hq => (hO.out.lt q hq).1
              have B7 : Hid (RowKit.Below w3.heap.size w3 w7) := (bel_alloc hB5.out _).grown hg7 (by have := hB5.out.size; simp; omega) hown
              have O7 : Hid (w7.ownsRow w3.heap.size 32 1 v7 (k + 1) (((L.take (k + 1)).map (idR f)).map (Value.int .u64))) := show World.ownsRow _ _ _ _ _ _ _ by rw [← hsn.out]; simpa [nth] using ho7
              clear ho7 hg7
              go_wp2_with fail
              go_roundw
              case rel => go_light; exact ⟨k + 1, by omega, by go_num, O7.out, B7.out⟩
              case measure => go_light; simp [intOf]; omega
            · obtain rfl : k = L.length := by omega
              have hpl := hO.out
              rw [List.take_length] at hpl
              have hps := own_ints hpl
              rw [List.length_map] at hps
              obtain ⟨a5, q5, e5, _⟩ := hps.slice
              have S5 := Lib.hid hps
              have B25 := Lib.hid (bel_below B3.out hB5.out)
              have RN := Lib.hid (hR.out.now B25.out)
              have S35 := Lib.hid (S3.out.below hB5.out)
              obtain ⟨w5, hw5⟩ : ∃ z, z = wr := ⟨_, rfl⟩
              have hz5 := B25.out.size
              have hz35 := B3.out.size
              rw [← hw5] at S5 RN S35 B25 hB5 hz5 ⊢
              subst e5
              have BW5 := Lib.hid (hR.out.below.trans (B25.out.mono hR.out.below.size))
              have R5 : Hid (RingOn (Now (fun b => W.heap.size ≤ b) w2 w5) w5 w5 rb mb f) := RN
              have hzW := hR.out.below.size
              clear hpl hps hO hw5 hlt CID RN
              go_wp2_with fail
              go_loopw [15, 16] (fun i _ wr => ∃ (k : Nat) (f' : RS), k ≤ 40 ∧ i = .int .i64 k ∧ Hid (RingOn (Now (fun b => W.heap.size ≤ b) w2 w5) w5 wr rb mb f') ∧ Hid (∀ j, livesR f' j = livesR f j) ∧ Hid (∀ j, idR f' j = idR f j)) (fun i _ _ => 40 - (intOf i).toNat)
              case atStart => exact ⟨0, f, by omega, rfl, R5.out, fun _ => rfl, fun _ => rfl⟩
              case round =>
                obtain ⟨k, f', hk, rfl, hR6, hlv, hid⟩ := hrel
                have BW6 := Lib.hid (BW5.out.trans (hR6.out.kept.toBelow BW5.out.size (fun b hb => by simp only [Now]; omega)))
                obtain ⟨g6, RG6x⟩ := hR6.out.ring
                have RG6 := Lib.hid RG6x
                clear RG6x
                by_cases hlt : k < looks.length ∧ k < 40
                · obtain ⟨hlt, hlt2⟩ := hlt
                  obtain ⟨b, off, rfl, _, hbW, hcW⟩ := HL.out.at k hlt W (RowKit.Below.refl _ _)
                  have okx : okInt (nth looks k) := HLO.out _ (nth_mem.2 ⟨k, hlt, rfl⟩)
                  obtain ⟨x, hx⟩ : ∃ x, x = nth looks k := ⟨_, rfl⟩
                  rw [← hx] at hcW okx
                  have hc := (BW6.out.cell (p := ⟨b, off + k, none⟩) hbW).trans hcW
                  have hb := Nat.lt_of_lt_of_le hbW BW6.out.size
                  clear hx
                  go_wp2_with fail
                  refine (stab_act RG6.out hR6.out.inv.heads x okx).mono ?_
                  rintro e w7 ⟨v7, rfl, hv7, ⟨g7, hg7⟩, hk7⟩
                  have R7 : Hid (RingOn (Now (fun b => W.heap.size ≤ b) w2 w5) w5 w7 rb mb (stabE f' x)) := hR6.out.step (inv_stabE hR6.out.inv x) ⟨g7, hg7⟩ hk7
                  have CL := Lib.hid (fun w' (hb : RowKit.Below w7.heap.size w7 w') => lives_at (hg7.below hb) x okx)
                  rw [lives_stabE] at CL
                  have BW7 := BW5.out.trans (R7.out.kept.toBelow BW5.out.size (fun b hb => by simp only [Now]; omega))
                  have hc7 := (BW7.cell (p := ⟨b, off + k, none⟩) hbW).trans hcW
                  have hb7 := Nat.lt_of_lt_of_le hbW BW7.size
                  have hlv7 : Hid (∀ j, livesR (stabE f' x) j = livesR f j) := fun j => (lives_stabE _ _ _).trans (hlv.out j)
                  have hid7 : Hid (∀ j, idR (stabE f' x) j = idR f j) := fun j => (id_stabE _ _ _).trans (hid.out j)
                  unfold CodeIs stabC at hv7
                  cases hq : livesR f' x with
                  | true =>
                    rw [hq] at hv7 CL
                    have hv : v7 = .nilIface := by
                      rcases hv7 with ⟨_, h⟩ | ⟨h, _⟩
                      · exact h
                      · simp at h
                    subst hv
                    clear hv7 hq hg7 hk7 BW7 hc hb
                    go_wp2_with fail
                    refine wp_region_calm (by kernel_rfl) (by kernel_rfl) ?_
                    repeat (first | (go_big_quiet_step ((go_at_call 17; exact calls_calm_same (CL.out _ (by (repeat (first | exact Below.refl _ _ | (with_reducible assumption) | (with_reducible refine bel_later ?_ _) | (with_reducible refine bel_alloc ?_ _) | (with_reducible refine bel_drew ?_) | (with_reducible refine bel_drewN ?_ _) | (with_reducible refine bel_set ?_ (by first | (simp; done) | (simp; omega) | (dsimp only; omega)) _)))))))) | (refine wpQuiet_step (fun K hK => ?_); go_simp; first | (refine hK _ ?_; clear hK K) | (apply Exists.intro; refine ⟨fun _ => ?_, hK _ ?_⟩; (go_at_call 17; exact calls_calm_same (CL.out _ (by (repeat (first | exact Below.refl _ _ | (with_reducible assumption) | (with_reducible refine bel_later ?_ _) | (with_reducible refine bel_alloc ?_ _) | (with_reducible refine bel_drew ?_) | (with_reducible refine bel_drewN ?_ _) | (with_reducible refine bel_set ?_ (by first | (simp; done) | (simp; omega) | (dsimp only; omega)) _)))))); clear hK K)))
                    refine wpQuiet_nil ?_
                    intro _ hw'
                    obtain ⟨xq, hw''⟩ := hw'
                    subst hw''
                    have R8 := Lib.hid (R7.out.later xq.below)
                    go_wp2_with fail
                    go_roundw
                    case rel => go_light; exact ⟨k + 1, _, by omega, by go_num, R8.out, hlv7.out, hid7.out⟩
                    case measure => go_light; simp [intOf]; omega
                  | false =>
                    rw [hq] at hv7 CL
                    obtain ⟨bv, hv⟩ : ∃ bv, v7 = .iface 89 (.pointer (some ⟨bv, 0, none⟩)) := by
                      rcases hv7 with ⟨h, _⟩ | ⟨_, ⟨bv, h, _⟩⟩
                      · simp at h
                      · exact ⟨bv, h⟩
                    subst hv
                    clear hv7 hq hg7 hk7 BW7 hc hb
                    go_wp2_with fail
                    refine wp_region_calm (by kernel_rfl) (by kernel_rfl) ?_
                    repeat (first | (go_big_quiet_step ((go_at_call 17; exact calls_calm_same (CL.out _ (by (repeat (first | exact Below.refl _ _ | (with_reducible assumption) | (with_reducible refine bel_later ?_ _) | (with_reducible refine bel_alloc ?_ _) | (with_reducible refine bel_drew ?_) | (with_reducible refine bel_drewN ?_ _) | (with_reducible refine bel_set ?_ (by first | (simp; done) | (simp; omega) | (dsimp only; omega)) _)))))))) | (refine wpQuiet_step (fun K hK => ?_); go_simp; first | (refine hK _ ?_; clear hK K) | (apply Exists.intro; refine ⟨fun _ => ?_, hK _ ?_⟩; (go_at_call 17; exact calls_calm_same (CL.out _ (by (repeat (first | exact Below.refl _ _ | (with_reducible assumption) | (with_reducible refine bel_later ?_ _) | (with_reducible refine bel_alloc ?_ _) | (with_reducible refine bel_drew ?_) | (with_reducible refine bel_drewN ?_ _) | (with_reducible refine bel_set ?_ (by first | (simp; done) | (simp; omega) | (dsimp only; omega)) _)))))); clear hK K)))
                    refine wpQuiet_nil ?_
                    intro _ hw'
                    obtain ⟨xq, hw''⟩ := hw'
                    subst hw''
                    have R8 := Lib.hid (R7.out.later xq.below)
                    go_wp2_with fail
                    go_roundw
                    case rel => go_light; exact ⟨k + 1, _, by omega, by go_num, R8.out, hlv7.out, hid7.out⟩
                    case measure => go_light; simp [intOf]; omega
                · have hcase2 : looks.length ≤ k ∨ k < looks.length ∧ k = 40 := by omega
                  have CR := Lib.hid (round_at RG6.out hR6.out.inv.heads)
                  have hinv := Lib.hid (inv_round hR6.out.inv)
                  have hll : Hid (liveL (roundR f') = L) := show _ = _ by rw [HLL.out]; exact liveL_congr fun j => by rw [roundR_eq, lives_looks, hlv.out]
                  have hii : Hid (∀ j, idR (roundR f') j = idR f j) := fun j => by rw [roundR_eq, id_looks, hid.out]
                  clear hlt
                  rcases hcase2 with hcase2 | ⟨hcase2, rfl⟩
                  · go_wp2_with fail
                    refine CR.out.mono ?_
                    rintro e w7 ⟨rfl, hg7, hk7⟩
                    have R7 : Hid (RingOn (Now (fun b => W.heap.size ≤ b) w2 w5) w5 w7 rb mb (roundR f')) := hR6.out.step hinv.out ⟨_, hg7⟩ hk7
                    have G7 := Lib.hid hg7
                    have CL7 := live_at hg7
                    rw [hll.out] at CL7
                    have CLL := Lib.hid CL7
                    clear hg7 hk7 CL7
                    go_wp2_with fail
                    refine CLL.out.mono ?_
                    rintro e w8 ⟨v8, rfl, hs8, hB8⟩
                    obtain ⟨a8, q8, rfl, _⟩ := hs8.slice
                    have S8 := Lib.hid hs8
                    have B8 := Lib.hid hB8
                    have T8 := Lib.hid ((slAt_kept S35.out R7.out.kept (fun b hb hb2 => by simp only [Now]; omega)).below hB8)
                    have U8 := Lib.hid ((slAt_kept S5.out R7.out.kept (fun b hb hb2 => by simp only [Now]; omega)).below hB8)
                    have CI8 := Lib.hid (fun w' (hb : RowKit.Below w8.heap.size w8 w') (x : Int) (hx : okInt x) => id_at ((G7.out.below hB8).below hb) x hx)
                    have BW8 := Lib.hid ((BW5.out.trans (R7.out.kept.toBelow BW5.out.size (fun b hb => by simp only [Now]; omega))).trans (hB8.mono (by have := BW5.out.size; have := R7.out.kept.size; omega)))
                    clear hs8 hB8
                    go_wp2_with fail
                    go_loopw [18, 119] (fun _ i wr => ∃ k : Nat, k ≤ L.length ∧ i = .int .i64 k ∧ Hid (RowKit.Below w8.heap.size w8 wr)) (fun _ i _ => L.length - (intOf i).toNat)
                    case atStart => exact ⟨0, Nat.zero_le _, rfl, RowKit.Below.refl _ _⟩
                    case round =>
                      obtain ⟨k, hk, rfl, hB9⟩ := hrel
                      by_cases hlt : k < L.length
                      · obtain ⟨b, off, rfl, _, hb1, hc1⟩ := S8.out.at k hlt wr hB9.out
                        obtain ⟨b', off', rfl, _, hb2, hc2⟩ := T8.out.at k hlt wr hB9.out
                        obtain ⟨b'', off'', rfl, _, hb3, hc3⟩ := U8.out.at k hlt wr hB9.out
                        have hin : nth L k ∈ L := nth_mem.2 ⟨k, hlt, rfl⟩
                        have hdk := hdm.out _ hin
                        have okx : okInt (nth L k) := okInt_dom (by omega) (by omega)
                        have hmap : nth (L.map (idR f)) k = idR f (nth L k) := by rw [nth_eq (by simpa using hlt), nth_eq hlt]; simp
                        rw [hmap] at hc3
                        have CI9 := Lib.hid (fun w' (hb : RowKit.Below wr.heap.size wr w') => CI8.out _ (bel_below hB9.out hb) _ okx)
                        rw [hii.out] at CI9
                        obtain ⟨x, hx⟩ : ∃ x, x = nth L k := ⟨_, rfl⟩
                        obtain ⟨y, hy⟩ : ∃ y, y = idR f x := ⟨_, rfl⟩
                        rw [← hx] at hc1 hc2 hc3 CI9 okx
                        rw [← hy] at hc3 CI9
                        clear hin hdk hmap hx hy
                        go_wp2_with fail
                        refine wp_region_calm (by kernel_rfl) (by kernel_rfl) ?_
                        repeat (first | (go_big_quiet_step ((go_at_call 16; exact calls_calm_same (CI9.out _ (by (repeat (first | exact Below.refl _ _ | (with_reducible assumption) | (with_reducible refine bel_later ?_ _) | (with_reducible refine bel_alloc ?_ _) | (with_reducible refine bel_drew ?_) | (with_reducible refine bel_drewN ?_ _) | (with_reducible refine bel_set ?_ (by first | (simp; done) | (simp; omega) | (dsimp only; omega)) _)))))))) | (refine wpQuiet_step (fun K hK => ?_); go_simp; first | (refine hK _ ?_; clear hK K) | (apply Exists.intro; refine ⟨fun _ => ?_, hK _ ?_⟩; (go_at_call 16; exact calls_calm_same (CI9.out _ (by (repeat (first | exact Below.refl _ _ | (with_reducible assumption) | (with_reducible refine bel_later ?_ _) | (with_reducible refine bel_alloc ?_ _) | (with_reducible refine bel_drew ?_) | (with_reducible refine bel_drewN ?_ _) | (with_reducible refine bel_set ?_ (by first | (simp; done) | (simp; omega) | (dsimp only; omega)) _)))))); clear hK K)))
                        refine wpQuiet_nil ?_
                        intro _ hw'
                        obtain ⟨xq, hw''⟩ := hw'
                        subst hw''
                        have B10 := Lib.hid (bel_later hB9.out xq)
                        go_wp2_with fail
                        go_roundw
                        case rel => go_light; exact ⟨k + 1, by omega, by go_num, B10.out⟩
                        case measure => go_light; simp [intOf]; omega
                      · obtain rfl : k = L.length := by omega
                        go_wp2_with fail
                        refine (awake_any _).mono ?_
                        rintro e w9 ⟨rfl, hB10⟩
                        go_wp2_with fail
                        go_ret
                        exact ⟨rfl, bel_below (bel_below BW8.out hB9.out) hB10⟩
                  · go_wp2_with fail
                    refine CR.out.mono ?_
                    rintro e w7 ⟨rfl, hg7, hk7⟩
                    have R7 : Hid (RingOn (Now (fun b => W.heap.size ≤ b) w2 w5) w5 w7 rb mb (roundR f')) := hR6.out.step hinv.out ⟨_, hg7⟩ hk7
                    have G7 := Lib.hid hg7
                    have CL7 := live_at hg7
                    rw [hll.out] at CL7
                    have CLL := Lib.hid CL7
                    clear hg7 hk7 CL7
                    go_wp2_with fail
                    refine CLL.out.mono ?_
                    rintro e w8 ⟨v8, rfl, hs8, hB8⟩
                    obtain ⟨a8, q8, rfl, _⟩ := hs8.slice
                    have S8 := Lib.hid hs8
                    have B8 := Lib.hid hB8
                    have T8 := Lib.hid ((slAt_kept S35.out R7.out.kept (fun b hb hb2 => by simp only [Now]; omega)).below hB8)
                    have U8 := Lib.hid ((slAt_kept S5.out R7.out.kept (fun b hb hb2 => by simp only [Now]; omega)).below hB8)
                    have CI8 := Lib.hid (fun w' (hb : RowKit.Below w8.heap.size w8 w') (x : Int) (hx : okInt x) => id_at ((G7.out.below hB8).below hb) x hx)
                    have BW8 := Lib.hid ((BW5.out.trans (R7.out.kept.toBelow BW5.out.size (fun b hb => by simp only [Now]; omega))).trans (hB8.mono (by have := BW5.out.size; have := R7.out.kept.size; omega)))
                    clear hs8 hB8
                    go_wp2_with fail
                    go_loopw [18, 119] (fun _ i wr => ∃ k : Nat, k ≤ L.length ∧ i = .int .i64 k ∧ Hid (RowKit.Below w8.heap.size w8 wr)) (fun _ i _ => L.length - (intOf i).toNat)
                    case atStart => exact ⟨0, Nat.zero_le _, rfl, RowKit.Below.refl _ _⟩
                    case round =>
                      obtain ⟨k, hk, rfl, hB9⟩ := hrel
                      by_cases hlt : k < L.length
                      · obtain ⟨b, off, rfl, _, hb1, hc1⟩ := S8.out.at k hlt wr hB9.out
                        obtain ⟨b', off', rfl, _, hb2, hc2⟩ := T8.out.at k hlt wr hB9.out
                        obtain ⟨b'', off'', rfl, _, hb3, hc3⟩ := U8.out.at k hlt wr hB9.out
                        have hin : nth L k ∈ L := nth_mem.2 ⟨k, hlt, rfl⟩
                        have hdk := hdm.out _ hin
                        have okx : okInt (nth L k) := okInt_dom (by omega) (by omega)
                        have hmap : nth (L.map (idR f)) k = idR f (nth L k) := by rw [nth_eq (by simpa using hlt), nth_eq hlt]; simp
                        rw [hmap] at hc3
                        have CI9 := Lib.hid (fun w' (hb : RowKit.Below wr.heap.size wr w') => CI8.out _ (bel_below hB9.out hb) _ okx)
                        rw [hii.out] at CI9
                        obtain ⟨x, hx⟩ : ∃ x, x = nth L k := ⟨_, rfl⟩
                        obtain ⟨y, hy⟩ : ∃ y, y = idR f x := ⟨_, rfl⟩
                        rw [← hx] at hc1 hc2 hc3 CI9 okx
                        rw [← hy] at hc3 CI9
                        clear hin hdk hmap hx hy
                        go_wp2_with fail
                        refine wp_region_calm (by kernel_rfl) (by kernel_rfl) ?_
                        repeat (first | (go_big_quiet_step ((go_at_call 16; exact calls_calm_same (CI9.out _ (by (repeat (first | exact Below.refl _ _ | (with_reducible assumption) | (with_reducible refine bel_later ?_ _) | (with_reducible refine bel_alloc ?_ _) | (with_reducible refine bel_drew ?_) | (with_reducible refine bel_drewN ?_ _) | (with_reducible refine bel_set ?_ (by first | (simp; done) | (simp; omega) | (dsimp only; omega)) _)))))))) | (refine wpQuiet_step (fun K hK => ?_); go_simp; first | (refine hK _ ?_; clear hK K) | (apply Exists.intro; refine ⟨fun _ => ?_, hK _ ?_⟩; (go_at_call 16; exact calls_calm_same (CI9.out _ (by (repeat (first | exact Below.refl _ _ | (with_reducible assumption) | (with_reducible refine bel_later ?_ _) | (with_reducible refine bel_alloc ?_ _) | (with_reducible refine bel_drew ?_) | (with_reducible refine bel_drewN ?_ _) | (with_reducible refine bel_set ?_ (by first | (simp; done) | (simp; omega) | (dsimp only; omega)) _)))))); clear hK K)))
                        refine wpQuiet_nil ?_
                        intro _ hw'
                        obtain ⟨xq, hw''⟩ := hw'
                        subst hw''
                        have B10 := Lib.hid (bel_later hB9.out xq)
                        go_wp2_with fail
                        go_roundw
                        case rel => go_light; exact ⟨k + 1, by omega, by go_num, B10.out⟩
                        case measure => go_light; simp [intOf]; omega
                      · obtain rfl : k = L.length := by omega
                        go_wp2_with fail
                        refine (awake_any _).mono ?_
                        rintro e w9 ⟨rfl, hB10⟩
                        go_wp2_with fail
                        go_ret
                        exact ⟨rfl, bel_below (bel_below BW8.out hB9.out) hB10⟩
set_option maxRecDepth 100000 in
theorem chordSame_walk {H : Type} (enc : TypeId × Value → H) (W : World) (v0 : Value) (d0 : DataW H) (p0 : List MemPlace) {r0 : Reach} {b0 : Nat} (ok0 : Value.okWide Try.prog W r0 b0 22 v0) (h0 : DataW.Trod enc Try.prog W 0 (fun _ => true) true 22 v0 d0 p0)
    (hlt0 : ∀ x ∈ p0, x.block < W.heap.size) (sz0 : ∀ n ∈ d0.weights Try.prog 22, n ≤ reachBytes) (v1 : Value) (d1 : DataW H) (p1 : List MemPlace) {r1 : Reach} {b1 : Nat} (ok1 : Value.okWide Try.prog W r1 b1 38 v1) (h1 : DataW.Trod enc Try.prog W 0 (fun _ => true) true 38 v1 d1 p1)
    (hlt1 : ∀ x ∈ p1, x.block < W.heap.size) (sz1 : ∀ n ∈ d1.weights Try.prog 38, n ≤ reachBytes) (v2 : Value) (d2 : DataW H) (p2 : List MemPlace) {r2 : Reach} {b2 : Nat} (ok2 : Value.okWide Try.prog W r2 b2 23 v2) (h2 : DataW.Trod enc Try.prog W 0 (fun _ => true) true 23 v2 d2 p2)
    (hlt2 : ∀ x ∈ p2, x.block < W.heap.size) (sz2 : ∀ n ∈ d2.weights Try.prog 23, n ≤ reachBytes) :
    Calls Try.prog 4 #[v0, v1, v2] W fun e W' => e = .returned (.bool true) ∧ RowKit.Below W.heap.size W W' := by
  obtain ⟨ids, hi, hp⟩ := ids_open ok0 h0
  obtain ⟨acts, ha, hao⟩ := acts_open ok1 h1
  obtain ⟨looks, hl, hlo⟩ := ints_open ok2 h2
  exact chordSame_main W v0 v1 v2 ids acts looks hi hp ha hao hl hlo
end Go.Proofs.Ythbijjpaljjapaa
