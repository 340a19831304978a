
/-
  ChordAlways: one ring, in order, on which all others hang.
-/
import Derived.Test.YthbijjpaljjapaaDoorErrAs
import Derived.Test.YthbijjpaljjapaaDoorChordHd
namespace Go.Proofs.YthbijjpaljjapaaDoor
open Go.RowKit Go.Maps Go.Sort Go.WideShapes Go.ChangeShapes Go.Deep
set_option linter.unusedVariables false
set_option linter.unusedSimpArgs false
attribute [local go_sem] later_cell later_frozen later_lt cell_set_off cell_set_block

/-! ### Once round -/
theorem turn_step {a x y : Int} (pa : isPlace a) (px : isPlace x) (py : isPlace y) (hxy : x ≠ y) (h : withinB a x y = false) :
    0 < dist x y ∧ 0 ≤ dist a x ∧ dist a x < 18446744073709551616 ∧ dist x y < 18446744073709551616 ∧
    ((y = a ∧ dist a x + dist x y = 18446744073709551616) ∨ (y ≠ a ∧ dist a x + dist x y < 18446744073709551616 ∧ dist a y = dist a x + dist x y)) := by
  have := (within_no.1 h).2 hxy
  unfold isPlace at *
  unfold dist at *
  refine ⟨by omega, by omega, by omega, by omega, ?_⟩
  by_cases e : y = a
  · left; refine ⟨e, by omega⟩
  · right; refine ⟨e, by omega, by omega⟩
/-- Those that live and lie farther than one. -/
def farther (f : RS) (a x : Int) : Nat := (liveL f).countP fun y => decide (dist a (idR f x) < dist a (idR f y))
theorem farther_lt {f : RS} (hd : Dom f) {a x y : Int} (hy : livesR f y = true) (h : dist a (idR f x) < dist a (idR f y)) : farther f a y < farther f a x := by
  unfold farther
  exact countP_lt (z := y) (by simp) (by simpa using h) (fun z hz => by simp at hz ⊢; omega) ((mem_liveL hd).2 hy)
theorem farther_zero {f : RS} (I : Inv f) : farther f (idR f 0) 0 ≤ 31 := by
  have h0 := I.base 0 (by omega) (by omega)
  have h1 : farther f (idR f 0) 0 < (liveL f).countP fun _ => true := by
    unfold farther
    exact countP_lt (z := 0) (by simp) rfl (fun _ _ => rfl) ((mem_liveL I.dom).2 h0)
  have h2 := length_liveL f
  rw [List.countP_true] at h1
  omega
variable {S : Nat → Prop} {w : World} {rb mb : Nat} {g : Int → Nat} {f : RS}
set_option maxRecDepth 100000 in
set_option maxHeartbeats 4000000 in
theorem turns_at (h : RAt S w rb mb g f) (I : Inv f) : Calls Tryd.prog 13 #[.pointer (some ⟨rb, 0, none⟩)] w fun e w' => e = .returned (.int .i64 0) ∧ RowKit.Below w.heap.size w w' := by
  have H := Lib.hid h
  have HI := Lib.hid I
  have hz : Hid (dist (idR f 0) (idR f 0) = 0) := show dist (idR f 0) (idR f 0) = 0 by unfold dist; simp
  clear h I
  go_enter Tryd.func13, Tryd.ntmps13
  go_wp2_with fail
  go_loopw [3, 4, 5, 6, 7] (fun x s i _ _ wr => ∃ (k : Nat) (n : Int), k + farther f (idR f 0) n ≤ 31 ∧ i = .int .i64 k ∧ x = .int .i64 n ∧ s = .int .u64 (dist (idR f 0) (idR f n)) ∧ Hid (livesR f n = true) ∧ Hid (RowKit.Below w.heap.size w wr)) (fun _ _ i _ _ _ => 40 - (intOf i).toNat)
  case atStart => exact ⟨0, 0, by have := farther_zero HI.out; omega, rfl, rfl, by rw [hz.out], HI.out.base 0 (by omega) (by omega), RowKit.Below.refl _ _⟩
  case round =>
    obtain ⟨k, n, hk, rfl, rfl, rfl, hn, hB⟩ := hrel
    have P := place_id HI.out.dom
    have hh := HI.out.head hn.out
    have hdn := livesR_dom HI.out.dom hn.out
    have hdh := livesR_dom HI.out.dom hh.2
    have hst := turn_step (P 0) (P n) (P (headR f n)) (HI.out.head_ne hn.out) (hh.1 0 (by omega) (by omega))
    have okn : okInt n := okInt_dom (by omega) (by omega)
    have okh : okInt (headR f n) := okInt_dom (by omega) (by omega)
    have h0 : 0 ≤ headR f n := hdh.1
    have CH := Lib.hid (fun w' (hb : RowKit.Below wr.heap.size wr w') => hd_at (H.out.below (bel_below hB.out hb)) n okn)
    rw [hdR_live hn.out] at CH
    have C1 := Lib.hid (fun w' (hb : RowKit.Below wr.heap.size wr w') => id_at (H.out.below (bel_below hB.out hb)) n okn)
    have C2 := Lib.hid (fun w' (hb : RowKit.Below wr.heap.size wr w') => id_at (H.out.below (bel_below hB.out hb)) (headR f n) okh)
    have hlt := farther_lt HI.out.dom (a := idR f 0) (x := n) (y := headR f n) hh.2
    have huq := HI.out.uniq (headR f n) 0 hh.2 (HI.out.base 0 (by omega) (by omega))
    have hlh := Lib.hid hh.2
    obtain ⟨s, hs⟩ : ∃ s, s = headR f n := ⟨_, rfl⟩
    rw [← hs] at CH C2 hst hlt huq h0 okh hlh
    obtain ⟨x, hx⟩ : ∃ x, x = idR f n := ⟨_, rfl⟩
    obtain ⟨y, hy⟩ : ∃ y, y = idR f s := ⟨_, rfl⟩
    obtain ⟨a, ha⟩ : ∃ a, a = idR f 0 := ⟨_, rfl⟩
    have HY := Lib.hid hy
    have HA := Lib.hid ha
    rw [← hx] at C1 hst hlt ⊢
    rw [← hy] at C2 hst hlt huq
    rw [← ha] at hst hlt huq hk ⊢
    obtain ⟨d, hd⟩ : ∃ d, d = dist x y := ⟨_, rfl⟩
    obtain ⟨sm, hsm⟩ : ∃ sm, sm = dist a x := ⟨_, rfl⟩
    have CD : Hid (∀ w', Calls Tryd.prog 32 #[.int .u64 x, .int .u64 y] w' fun e w'' => e = .returned (.int .u64 d) ∧ w' = w'') := fun w' => by rw [hd]; exact dist_any _ _ _
    rw [← hd, ← hsm] at hst
    rw [← hsm] at hlt ⊢
    obtain ⟨d0, s0, s1, d1, hcase⟩ := hst
    have hdb : (d == 0) = false := by simp; omega
    have hk40 : k < 40 := by omega
    clear P hh hdn hdh hs hx hy ha hd hsm
    rcases hcase with ⟨hya, hsum⟩ | ⟨hya, hsum, hsum2⟩
    · have hs0 : s = 0 := huq hya
      have hw : IntKind.u64.wrap (sm + d) = 0 := by rw [hsum]; decide
      subst hs0
      clear hsum hya hlt huq
      go_wp2_with (first
        | (go_at_call 31; refine (CH.out _ (by (repeat (first | exact Below.refl _ _ | (with_reducible assumption) | (with_reducible refine bel_later ?_ _) | (with_reducible refine bel_alloc ?_ _) | (with_reducible refine bel_drew ?_) | (with_reducible refine bel_drewN ?_ _) | (with_reducible refine bel_set ?_ (by first | (simp; done) | (simp; omega) | (dsimp only; omega)) _))))).mono ?_; rintro e w5 ⟨rfl, hB5⟩)
        | (go_at_call_of 22 (Value.int .i64 n); refine (C1.out _ hB5).mono ?_; rintro e w6 ⟨rfl, rfl⟩)
        | (go_at_call_of 22 (Value.int .i64 0); refine (C2.out _ hB5).mono ?_; rintro e w6 ⟨rfl, rfl⟩)
        | (go_at_call 32; refine (CD.out _).mono ?_; rintro e w6 ⟨rfl, rfl⟩))
      go_ret
      exact ⟨rfl, bel_below hB.out hB5⟩
    · have hw : IntKind.u64.wrap (sm + d) = sm + d := by rw [IntKind.wrap_u64]; omega
      have hf2 := hlt (by rw [hsum2]; omega)
      have hnl : ¬ (sm + d < d) := by omega
      have HS2 := Lib.hid hsum2
      have hf3 : k + 1 + farther f a s ≤ 31 := by omega
      clear hsum2 hlt huq hya hf2
      go_wp2_with (first
        | (go_at_call 31; refine (CH.out _ (by (repeat (first | exact Below.refl _ _ | (with_reducible assumption) | (with_reducible refine bel_later ?_ _) | (with_reducible refine bel_alloc ?_ _) | (with_reducible refine bel_drew ?_) | (with_reducible refine bel_drewN ?_ _) | (with_reducible refine bel_set ?_ (by first | (simp; done) | (simp; omega) | (dsimp only; omega)) _))))).mono ?_; rintro e w5 ⟨rfl, hB5⟩)
        | (go_at_call_of 22 (Value.int .i64 n); refine (C1.out _ hB5).mono ?_; rintro e w6 ⟨rfl, rfl⟩)
        | (go_at_call_of 22 (Value.int .i64 s); refine (C2.out _ hB5).mono ?_; rintro e w6 ⟨rfl, rfl⟩)
        | (go_at_call 32; refine (CD.out _).mono ?_; rintro e w6 ⟨rfl, rfl⟩))
      have B5 := Lib.hid (bel_below hB.out hB5)
      clear hB5
      go_roundw
      case rel =>
        go_light
        refine ⟨k + 1, s, hf3, by go_num, rfl, ?_, hlh.out, B5.out⟩
        rw [← HY.out, HS2.out]
      case measure => go_light; simp [intOf]; omega

set_option maxRecDepth 100000 in
set_option maxHeartbeats 16000000 in
theorem chordAlways_main (W : World) (v0 v1 : Value) (ids : List Int) (acts : List ActD) (hi : SlAt 0 (fun i => .int .u64 (nth ids i)) ids.length W v0) (hp : ∀ x ∈ ids, isPlace x)
    (ha : ActsAt acts W v1) (hao : ∀ k, k < acts.length → (actAt acts k).ok) (hg : HandleAt W) : Calls Tryd.prog 3 #[v0, v1] W (OneYes W) := by
  have CB := Lib.hid (born_any W W (RowKit.Below.refl _ _) v0 ids hi hp)
  have HG := Lib.hid hg
  have HA := Lib.hid ha
  have HAO := Lib.hid hao
  obtain ⟨a1, q1, rfl, _, hm1⟩ := ha.slice
  have ham : acts.length ≤ 9223372036854775807 := by unfold maxLen at hm1; omega
  unfold Born at CB
  cases hf : fourB ids with
  | false =>
    rw [hf] at CB
    clear hi hp hf hm1 ha hao hg
    go_enter Tryd.func3, Tryd.ntmps3
    go_wp2_with fail
    refine CB.out.mono ?_
    intro e w1 hq
    rw [if_neg (by decide)] at hq
    obtain ⟨b, rfl, hB1⟩ := hq
    go_wp2_with fail
    refine (awake_any _).mono ?_
    rintro e w2 ⟨rfl, hB2⟩
    go_wp2_with fail
    refine (awake_any _).mono ?_
    rintro e w3 ⟨rfl, hB3⟩
    go_wp2_with fail
    go_ret
    exact ⟨rfl, bel_below (bel_below hB1 hB2) hB3⟩
  | true =>
    rw [hf] at CB
    clear hi hp hf hm1 ha hao hg
    go_enter Tryd.func3, Tryd.ntmps3
    go_wp2_with fail
    refine CB.out.mono ?_
    intro e w1 hq
    rw [if_pos trivial] at hq
    obtain ⟨rb, mb, rfl, hR1⟩ := hq
    have R1 := Lib.hid hR1
    clear hR1
    go_wp2_with fail
    refine (awake_any _).mono ?_
    rintro e w2 ⟨rfl, hB2⟩
    have R2 := Lib.hid (R1.out.later hB2)
    clear hB2 R1
    go_wp2_with fail
    go_loopw [7, 8] (fun i _ wr => ∃ (k : Nat) (f : RS), k ≤ 100 ∧ i = .int .i64 k ∧ Hid (RingOk W.heap.size W wr rb mb f)) (fun i _ _ => 100 - (intOf i).toNat)
    case atStart => exact ⟨0, _, by omega, rfl, R2.out⟩
    case round =>
      obtain ⟨k, f, hk, rfl, hR⟩ := hrel
      by_cases hlt : k < acts.length ∧ k < 100
      · obtain ⟨hlt, hlt2⟩ := hlt
        obtain ⟨b, off, rfl, hb, c0, c1, c2, c3⟩ := HA.out.at k hlt wr hR.out.below
        have hok := HAO.out k hlt
        generalize hA : actAt acts k = A at c0 c1 c2 c3 hok
        obtain ⟨kd, an, av, ai⟩ := A
        have HOK := Lib.hid hok
        clear hA hok
        dsimp only at c0 c1 c2 c3
        have R2 := Lib.hid (hR.out.later (bel_alloc (RowKit.Below.refl _ wr) (.cells #[.int .i64 kd, .int .i64 an, .int .i64 av, .int .u64 ai] 33)))
        obtain ⟨g2, hg2⟩ := R2.out.ring
        have G2 := Lib.hid hg2
        clear hg2
        by_cases k1 : kd = 1
        · subst k1
          have hne5 := (joinC_cases R2.out.inv (n := an) (via := av) HOK.out.id).1
          have hb5 : (joinC f an ai av == 5) = false := by simpa using hne5
          clear hne5
          go_wp2_with fail
          refine (join_act G2.out R2.out.inv.heads _ _ _ HOK.out.n HOK.out.via HOK.out.id).mono ?_
          rintro e w5 ⟨v, rfl, hcd, hg5, hk5⟩
          have R5 := Lib.hid (R2.out.step (inv_joinR R2.out.inv HOK.out.id) hg5 hk5)
          have CO := Lib.hid (of_code hcd (HG.out.below R5.out.below))
          clear hg5 hk5 R2 G2 hcd
          go_wp2_with fail
          refine CO.out.mono ?_
          rintro e w6 ⟨rfl, hB6⟩
          have R7 := Lib.hid (R5.out.later hB6)
          clear hB6 R5
          obtain ⟨f7, hf7⟩ : ∃ f7, f7 = joinR f an ai av := ⟨_, rfl⟩
          rw [← hf7] at R7
          have inv7 := R7.out.inv
          clear hf7
          have hfin := Lib.hid (inv7)
          obtain ⟨g7, hg7⟩ := R7.out.ring
          have C7 := Lib.hid (live_at hg7)
          have G7 := Lib.hid hg7
          have hmem : Hid (∀ x ∈ liveL f7, livesR f7 x = true) := fun x hx => (mem_liveL hg7.dom).1 hx
          have hlen := length_liveL f7
          obtain ⟨L, hL⟩ : ∃ L, L = liveL f7 := ⟨_, rfl⟩
          rw [← hL] at C7 hmem hlen
          clear hL hg7
          go_wp2_with fail
          refine C7.out.mono ?_
          rintro e w8 ⟨v8, rfl, hs8, hB8⟩
          obtain ⟨a8, q8, rfl, _⟩ := hs8.slice
          have S8 := Lib.hid hs8
          have B8 := Lib.hid hB8
          clear hs8 hB8
          go_wp2_with fail
          go_loopw [10, 78] (fun _ i wr => ∃ j : Nat, j ≤ L.length ∧ i = .int .i64 j ∧ Hid (RowKit.Below w8.heap.size w8 wr)) (fun _ i _ => L.length - (intOf i).toNat)
          case atStart => exact ⟨0, Nat.zero_le _, rfl, RowKit.Below.refl _ _⟩
          case round =>
            obtain ⟨j, hj, rfl, hBj⟩ := hrel
            by_cases hlj : j < L.length
            · obtain ⟨b, off, rfl, _, hb, hc⟩ := S8.out.at j hlj wr hBj.out
              have hin : nth L j ∈ L := nth_mem.2 ⟨j, hlj, rfl⟩
              have CR := Lib.hid (reach_at (G7.out.below (bel_below B8.out hBj.out)) R7.out.inv _ (hmem.out _ hin))
              clear hin
              go_wp2_with fail
              refine CR.out.mono ?_
              rintro e w9 ⟨rfl, hB9⟩
              have B9 := Lib.hid (bel_below hBj.out hB9)
              clear hB9
              go_wp2_with fail
              go_roundw
              case rel => go_light; exact ⟨j + 1, by omega, by go_num, B9.out⟩
              case measure => go_light; simp [intOf]; omega
            · obtain rfl : j = L.length := by omega
              have CT := Lib.hid (turns_at (G7.out.below (bel_below B8.out hBj.out)) R7.out.inv)
              have R9 := Lib.hid (R7.out.later (bel_below B8.out hBj.out))
              clear hlj
              go_wp2_with fail
              refine CT.out.mono ?_
              rintro e w9 ⟨rfl, hB9⟩
              have R10 := Lib.hid (R9.out.later hB9)
              clear hB9
              go_wp2_with fail
              go_roundw
              case rel => go_light; exact ⟨k + 1, _, by omega, by go_num, R10.out⟩
              case measure => go_light; simp [intOf]; omega
        · have k1b : (kd == 1) = false := by simpa using k1
          clear k1
          by_cases k2 : kd = 2
          · subst k2
            clear k1b
            go_wp2_with fail
            refine (fail_act G2.out _ HOK.out.n).mono ?_
            rintro e w5 ⟨v, rfl, hcd, hg5, hk5⟩
            have R7 := Lib.hid (R2.out.step (inv_failR R2.out.inv _) hg5 hk5)
            clear hg5 hk5 R2 G2 hcd
            obtain ⟨f7, hf7⟩ : ∃ f7, f7 = failR f an := ⟨_, rfl⟩
            rw [← hf7] at R7
            have inv7 := R7.out.inv
            clear hf7
            have hfin := Lib.hid (inv7)
            obtain ⟨g7, hg7⟩ := R7.out.ring
            have C7 := Lib.hid (live_at hg7)
            have G7 := Lib.hid hg7
            have hmem : Hid (∀ x ∈ liveL f7, livesR f7 x = true) := fun x hx => (mem_liveL hg7.dom).1 hx
            have hlen := length_liveL f7
            obtain ⟨L, hL⟩ : ∃ L, L = liveL f7 := ⟨_, rfl⟩
            rw [← hL] at C7 hmem hlen
            clear hL hg7
            go_wp2_with fail
            refine C7.out.mono ?_
            rintro e w8 ⟨v8, rfl, hs8, hB8⟩
            obtain ⟨a8, q8, rfl, _⟩ := hs8.slice
            have S8 := Lib.hid hs8
            have B8 := Lib.hid hB8
            clear hs8 hB8
            go_wp2_with fail
            go_loopw [10, 78] (fun _ i wr => ∃ j : Nat, j ≤ L.length ∧ i = .int .i64 j ∧ Hid (RowKit.Below w8.heap.size w8 wr)) (fun _ i _ => L.length - (intOf i).toNat)
            case atStart => exact ⟨0, Nat.zero_le _, rfl, RowKit.Below.refl _ _⟩
            case round =>
              obtain ⟨j, hj, rfl, hBj⟩ := hrel
              by_cases hlj : j < L.length
              · obtain ⟨b, off, rfl, _, hb, hc⟩ := S8.out.at j hlj wr hBj.out
                have hin : nth L j ∈ L := nth_mem.2 ⟨j, hlj, rfl⟩
                have CR := Lib.hid (reach_at (G7.out.below (bel_below B8.out hBj.out)) R7.out.inv _ (hmem.out _ hin))
                clear hin
                go_wp2_with fail
                refine CR.out.mono ?_
                rintro e w9 ⟨rfl, hB9⟩
                have B9 := Lib.hid (bel_below hBj.out hB9)
                clear hB9
                go_wp2_with fail
                go_roundw
                case rel => go_light; exact ⟨j + 1, by omega, by go_num, B9.out⟩
                case measure => go_light; simp [intOf]; omega
              · obtain rfl : j = L.length := by omega
                have CT := Lib.hid (turns_at (G7.out.below (bel_below B8.out hBj.out)) R7.out.inv)
                have R9 := Lib.hid (R7.out.later (bel_below B8.out hBj.out))
                clear hlj
                go_wp2_with fail
                refine CT.out.mono ?_
                rintro e w9 ⟨rfl, hB9⟩
                have R10 := Lib.hid (R9.out.later hB9)
                clear hB9
                go_wp2_with fail
                go_roundw
                case rel => go_light; exact ⟨k + 1, _, by omega, by go_num, R10.out⟩
                case measure => go_light; simp [intOf]; omega
          · have k2b : (kd == 2) = false := by simpa using k2
            clear k2
            by_cases k3 : kd = 3
            · subst k3
              clear k1b k2b
              go_wp2_with fail
              refine (stab_act G2.out R2.out.inv.heads _ HOK.out.n).mono ?_
              rintro e w5 ⟨v, rfl, hcd, hg5, hk5⟩
              have R7 := Lib.hid (R2.out.step (inv_stabE R2.out.inv _) hg5 hk5)
              clear hg5 hk5 R2 G2 hcd
              obtain ⟨f7, hf7⟩ : ∃ f7, f7 = stabE f an := ⟨_, rfl⟩
              rw [← hf7] at R7
              have inv7 := R7.out.inv
              clear hf7
              have hfin := Lib.hid (inv7)
              obtain ⟨g7, hg7⟩ := R7.out.ring
              have C7 := Lib.hid (live_at hg7)
              have G7 := Lib.hid hg7
              have hmem : Hid (∀ x ∈ liveL f7, livesR f7 x = true) := fun x hx => (mem_liveL hg7.dom).1 hx
              have hlen := length_liveL f7
              obtain ⟨L, hL⟩ : ∃ L, L = liveL f7 := ⟨_, rfl⟩
              rw [← hL] at C7 hmem hlen
              clear hL hg7
              go_wp2_with fail
              refine C7.out.mono ?_
              rintro e w8 ⟨v8, rfl, hs8, hB8⟩
              obtain ⟨a8, q8, rfl, _⟩ := hs8.slice
              have S8 := Lib.hid hs8
              have B8 := Lib.hid hB8
              clear hs8 hB8
              go_wp2_with fail
              go_loopw [10, 78] (fun _ i wr => ∃ j : Nat, j ≤ L.length ∧ i = .int .i64 j ∧ Hid (RowKit.Below w8.heap.size w8 wr)) (fun _ i _ => L.length - (intOf i).toNat)
              case atStart => exact ⟨0, Nat.zero_le _, rfl, RowKit.Below.refl _ _⟩
              case round =>
                obtain ⟨j, hj, rfl, hBj⟩ := hrel
                by_cases hlj : j < L.length
                · obtain ⟨b, off, rfl, _, hb, hc⟩ := S8.out.at j hlj wr hBj.out
                  have hin : nth L j ∈ L := nth_mem.2 ⟨j, hlj, rfl⟩
                  have CR := Lib.hid (reach_at (G7.out.below (bel_below B8.out hBj.out)) R7.out.inv _ (hmem.out _ hin))
                  clear hin
                  go_wp2_with fail
                  refine CR.out.mono ?_
                  rintro e w9 ⟨rfl, hB9⟩
                  have B9 := Lib.hid (bel_below hBj.out hB9)
                  clear hB9
                  go_wp2_with fail
                  go_roundw
                  case rel => go_light; exact ⟨j + 1, by omega, by go_num, B9.out⟩
                  case measure => go_light; simp [intOf]; omega
                · obtain rfl : j = L.length := by omega
                  have CT := Lib.hid (turns_at (G7.out.below (bel_below B8.out hBj.out)) R7.out.inv)
                  have R9 := Lib.hid (R7.out.later (bel_below B8.out hBj.out))
                  clear hlj
                  go_wp2_with fail
                  refine CT.out.mono ?_
                  rintro e w9 ⟨rfl, hB9⟩
                  have R10 := Lib.hid (R9.out.later hB9)
                  clear hB9
                  go_wp2_with fail
                  go_roundw
                  case rel => go_light; exact ⟨k + 1, _, by omega, by go_num, R10.out⟩
                  case measure => go_light; simp [intOf]; omega
            · have k3b : (kd == 3) = false := by simpa using k3
              clear k3
              by_cases k4 : kd = 4
              · subst k4
                clear k1b k2b k3b
                go_wp2_with fail
                refine (round_at G2.out R2.out.inv.heads).mono ?_
                rintro e w5 ⟨rfl, hg5, hk5⟩
                have R7 := Lib.hid (R2.out.step (inv_round R2.out.inv) ⟨_, hg5⟩ hk5)
                clear hg5 hk5 R2 G2
                obtain ⟨f7, hf7⟩ : ∃ f7, f7 = roundR f := ⟨_, rfl⟩
                rw [← hf7] at R7
                have inv7 := R7.out.inv
                clear hf7
                have hfin := Lib.hid (inv7)
                obtain ⟨g7, hg7⟩ := R7.out.ring
                have C7 := Lib.hid (live_at hg7)
                have G7 := Lib.hid hg7
                have hmem : Hid (∀ x ∈ liveL f7, livesR f7 x = true) := fun x hx => (mem_liveL hg7.dom).1 hx
                have hlen := length_liveL f7
                obtain ⟨L, hL⟩ : ∃ L, L = liveL f7 := ⟨_, rfl⟩
                rw [← hL] at C7 hmem hlen
                clear hL hg7
                go_wp2_with fail
                refine C7.out.mono ?_
                rintro e w8 ⟨v8, rfl, hs8, hB8⟩
                obtain ⟨a8, q8, rfl, _⟩ := hs8.slice
                have S8 := Lib.hid hs8
                have B8 := Lib.hid hB8
                clear hs8 hB8
                go_wp2_with fail
                go_loopw [10, 78] (fun _ i wr => ∃ j : Nat, j ≤ L.length ∧ i = .int .i64 j ∧ Hid (RowKit.Below w8.heap.size w8 wr)) (fun _ i _ => L.length - (intOf i).toNat)
                case atStart => exact ⟨0, Nat.zero_le _, rfl, RowKit.Below.refl _ _⟩
                case round =>
                  obtain ⟨j, hj, rfl, hBj⟩ := hrel
                  by_cases hlj : j < L.length
                  · obtain ⟨b, off, rfl, _, hb, hc⟩ := S8.out.at j hlj wr hBj.out
                    have hin : nth L j ∈ L := nth_mem.2 ⟨j, hlj, rfl⟩
                    have CR := Lib.hid (reach_at (G7.out.below (bel_below B8.out hBj.out)) R7.out.inv _ (hmem.out _ hin))
                    clear hin
                    go_wp2_with fail
                    refine CR.out.mono ?_
                    rintro e w9 ⟨rfl, hB9⟩
                    have B9 := Lib.hid (bel_below hBj.out hB9)
                    clear hB9
                    go_wp2_with fail
                    go_roundw
                    case rel => go_light; exact ⟨j + 1, by omega, by go_num, B9.out⟩
                    case measure => go_light; simp [intOf]; omega
                  · obtain rfl : j = L.length := by omega
                    have CT := Lib.hid (turns_at (G7.out.below (bel_below B8.out hBj.out)) R7.out.inv)
                    have R9 := Lib.hid (R7.out.later (bel_below B8.out hBj.out))
                    clear hlj
                    go_wp2_with fail
                    refine CT.out.mono ?_
                    rintro e w9 ⟨rfl, hB9⟩
                    have R10 := Lib.hid (R9.out.later hB9)
                    clear hB9
                    go_wp2_with fail
                    go_roundw
                    case rel => go_light; exact ⟨k + 1, _, by omega, by go_num, R10.out⟩
                    case measure => go_light; simp [intOf]; omega
              · have k4b : (kd == 4) = false := by simpa using k4
                clear k4
                have R7 := R2
                obtain ⟨f7, hf7⟩ : ∃ f7, f7 = f := ⟨_, rfl⟩
                rw [← hf7] at R7
                have inv7 := R7.out.inv
                clear hf7 R2 G2
                have hfin := Lib.hid (inv7)
                obtain ⟨g7, hg7⟩ := R7.out.ring
                have C7 := Lib.hid (live_at hg7)
                have G7 := Lib.hid hg7
                have hmem : Hid (∀ x ∈ liveL f7, livesR f7 x = true) := fun x hx => (mem_liveL hg7.dom).1 hx
                have hlen := length_liveL f7
                obtain ⟨L, hL⟩ : ∃ L, L = liveL f7 := ⟨_, rfl⟩
                rw [← hL] at C7 hmem hlen
                clear hL hg7
                go_wp2_with fail
                refine C7.out.mono ?_
                rintro e w8 ⟨v8, rfl, hs8, hB8⟩
                obtain ⟨a8, q8, rfl, _⟩ := hs8.slice
                have S8 := Lib.hid hs8
                have B8 := Lib.hid hB8
                clear hs8 hB8
                go_wp2_with fail
                go_loopw [10, 78] (fun _ i wr => ∃ j : Nat, j ≤ L.length ∧ i = .int .i64 j ∧ Hid (RowKit.Below w8.heap.size w8 wr)) (fun _ i _ => L.length - (intOf i).toNat)
                case atStart => exact ⟨0, Nat.zero_le _, rfl, RowKit.Below.refl _ _⟩
                case round =>
                  obtain ⟨j, hj, rfl, hBj⟩ := hrel
                  by_cases hlj : j < L.length
                  · obtain ⟨b, off, rfl, _, hb, hc⟩ := S8.out.at j hlj wr hBj.out
                    have hin : nth L j ∈ L := nth_mem.2 ⟨j, hlj, rfl⟩
                    have CR := Lib.hid (reach_at (G7.out.below (bel_below B8.out hBj.out)) R7.out.inv _ (hmem.out _ hin))
                    clear hin
                    go_wp2_with fail
                    refine CR.out.mono ?_
                    rintro e w9 ⟨rfl, hB9⟩
                    have B9 := Lib.hid (bel_below hBj.out hB9)
                    clear hB9
                    go_wp2_with fail
                    go_roundw
                    case rel => go_light; exact ⟨j + 1, by omega, by go_num, B9.out⟩
                    case measure => go_light; simp [intOf]; omega
                  · obtain rfl : j = L.length := by omega
                    have CT := Lib.hid (turns_at (G7.out.below (bel_below B8.out hBj.out)) R7.out.inv)
                    have R9 := Lib.hid (R7.out.later (bel_below B8.out hBj.out))
                    clear hlj
                    go_wp2_with fail
                    refine CT.out.mono ?_
                    rintro e w9 ⟨rfl, hB9⟩
                    have R10 := Lib.hid (R9.out.later hB9)
                    clear hB9
                    go_wp2_with fail
                    go_roundw
                    case rel => go_light; exact ⟨k + 1, _, by omega, by go_num, R10.out⟩
                    case measure => go_light; simp [intOf]; omega
      · have hcase : acts.length ≤ k ∨ k < acts.length ∧ k = 100 := by omega
        clear hlt
        rcases hcase with hcase | ⟨hcase, rfl⟩
        all_goals
          go_wp2_with fail
          go_ret
          exact ⟨rfl, hR.out.below⟩
set_option maxRecDepth 100000 in
theorem chordAlways_walk {H : Type} (enc : TypeId × Value → H) (W : World) (v0 : Value) (d0 : DataW H) (p0 : List MemPlace) {r0 : Reach} {b0 : Nat} (ok0 : Value.okWide Tryd.prog W r0 b0 22 v0) (h0 : DataW.Trod enc Tryd.prog W 0 (fun _ => true) true 22 v0 d0 p0)
    (hlt0 : ∀ x ∈ p0, x.block < W.heap.size) (sz0 : ∀ n ∈ d0.weights Tryd.prog 22, n ≤ reachBytes) (v1 : Value) (d1 : DataW H) (p1 : List MemPlace) {r1 : Reach} {b1 : Nat} (ok1 : Value.okWide Tryd.prog W r1 b1 23 v1) (h1 : DataW.Trod enc Tryd.prog W 0 (fun _ => true) true 23 v1 d1 p1)
    (hlt1 : ∀ x ∈ p1, x.block < W.heap.size) (sz1 : ∀ n ∈ d1.weights Tryd.prog 23, n ≤ reachBytes) (hg : HandleAt W) :
    Calls Tryd.prog 3 #[v0, v1] W fun e W' => e = .returned (.bool true) ∧ RowKit.Below W.heap.size W W' := by
  obtain ⟨ids, hi, hp⟩ := ids_open ok0 h0
  obtain ⟨acts, ha, hao⟩ := acts_open ok1 h1
  exact chordAlways_main W v0 v1 ids acts hi hp ha hao hg
end Go.Proofs.YthbijjpaljjapaaDoor
