

/-
  IdealStays walked.
-/
import Derived.Test.YthbijjpaljjapaaGreatDoorMade
import Derived.Test.YthbijjpaljjapaaGreatDoorIdealZ
namespace Go.Proofs.YthbijjpaljjapaaGreatDoor
open Go.RowKit Go.Maps Go.Sort Go.WideShapes Go.ChangeShapes Go.Deep
set_option linter.unusedVariables false
set_option linter.unusedSimpArgs false
attribute [local go_sem] later_cell later_frozen later_lt cell_set_off cell_set_block

theorem both_ok {S Q : Nat → Prop} {W w : World} {rb mb : Nat} {f : RS} {p : Where} (h : Both S Q W w rb mb f p) : RingOk W.heap.size W w rb mb f := by
  obtain ⟨g, hg⟩ := h.ring
  exact ⟨⟨g, hg.same (Nat.le_refl _) (fun _ _ _ => rfl) (fun b _ hS => h.low b hS) fun b hb => by have := h.below.size; omega⟩, h.inv, h.below⟩
/-- What Made leaves, as the laws use it that look at the ring alone. -/
theorem made_ring (W : World) (hH : HandleAt W) (v0 v1 : Value) (ids : List Int) (acts : List ActD) (n : Nat) (hi : SlAt 0 (fun i => .int .u64 (nth ids i)) ids.length W v0) (hp : ∀ x ∈ ids, isPlace x)
    (ha : ActsAt acts W v1) (hao : ∀ k, k < acts.length → (actAt acts k).ok) (hn : n ≤ 1000) (m : Int) (hm : m = n) : Calls Tryz.prog 15 #[v0, v1, .int .i64 m] W fun e w' =>
      (e = .returned (.tuple #[.pointer none, .agg #[.slice none 0 0, .slice none 0 0, .slice none 0 0, .slice none 0 0], .bool false]) ∧ RowKit.Below W.heap.size W w') ∨
      ∃ (rb mb : Nat) (f : RS) (p : Where), e = .returned (.tuple #[.pointer (some ⟨rb, 0, none⟩), (.agg #[.slice (some ⟨(p).b1, (p).o1, none⟩) 32 (p).k1, .slice (some ⟨(p).b2, (p).o2, none⟩) 32 (p).k2, .slice (some ⟨(p).b3, (p).o3, none⟩) 32 (p).k3, .slice (some ⟨(p).b4, (p).o4, none⟩) 32 (p).k4]), .bool true]) ∧ RingOk W.heap.size W w' rb mb f := by
  subst hm
  refine (made_any W hH v0 v1 ids acts n hi hp ha hao hn).mono fun e w' h => ?_
  unfold MadePost at h
  split at h
  · obtain ⟨rb, mb, f, p, S, Q, rfl, hB⟩ := h
    exact Or.inr ⟨rb, mb, f, p, rfl, both_ok hB⟩
  · exact Or.inl h
/-! When all is as it should be, it stays so. -/
theorem good_is {f : RS} (I : Inv f) {h : Int → Int} (D : Done f h 3) (hp : AllPr f) : isB f = true := by
  refine is_done I D.hr hp fun k hk => ?_
  have key : ∀ (n : Nat) (x : Int), livesR f x = true → chain h x n = chain (headR f) x n := by
    intro n
    induction n with
    | zero => intro x _; rfl
    | succ n ih =>
      intro x hx
      unfold chain
      rw [← D.hd x hx, ih _ (I.head hx).2]
  have := D.ls k hk
  unfold Lj at this ⊢
  rw [this, key 3 k hk]
theorem good_stab {f : RS} (I : Inv f) {h : Int → Int} {n : Int} (hn : livesR f n = true) (D : Done f h 3) (hp : AllPr f) : Done (stabR f n) h 3 ∧ AllPr (stabR f n) := by
  refine ⟨⟨all_hr_stab I hn D.hr, fun k hk => ?_, fun k hk => ?_⟩, fun k hk => ?_⟩
  · rw [livesR_stab] at hk
    exact (hr_keep I hn (D.hr k hk)).1.trans (D.hd k hk)
  · rw [livesR_stab] at hk
    by_cases e : k = n
    · subst e
      exact lj_stab I D.hd (by omega) hn D.hr fun k hk => lj_less (D.ls k hk)
    · exact lj_other e (D.ls k hk)
  · rw [livesR_stab] at hk
    exact pr_keep I hn hk (D.hr k hk) (hp k hk)
theorem good_stabE {f : RS} (I : Inv f) {h : Int → Int} (n : Int) (D : Done f h 3) (hp : AllPr f) : Done (stabE f n) h 3 ∧ AllPr (stabE f n) := by
  unfold stabE
  split
  · rename_i hn; exact good_stab I hn D hp
  · exact ⟨D, hp⟩
theorem good_rounds {f : RS} (I : Inv f) (j : Nat) (hj : 4 * (liveL f).length + 8 ≤ j) : ∃ h, Done (rn j f) h 3 ∧ AllPr (rn j f) := by
  obtain ⟨d, hd⟩ : ∃ d, j = 2 * (liveL f).length + (3 + (d + 1)) := ⟨j - 2 * (liveL f).length - 4, by omega⟩
  have D := rn_done I 3 (by omega) (d + 1)
  have hp := rn_pr I (3 + d)
  rw [show 3 + d + 1 = 3 + (d + 1) by omega, ← hd] at hp
  rw [← hd] at D
  exact ⟨_, D, hp⟩
set_option maxRecDepth 100000 in
set_option maxHeartbeats 8000000 in
theorem idealStays_main (W : World) (hH : HandleAt W) (v0 v1 v2 : Value) (ids : List Int) (acts : List ActD) (looks : List Int) (hi : SlAt 0 (fun i => .int .u64 (nth ids i)) ids.length W v0) (hp : ∀ x ∈ ids, isPlace x)
    (ha : ActsAt acts W v1) (hao : ∀ k, k < acts.length → (actAt acts k).ok) (hl : SlAt 0 (fun i => .int .i64 (nth looks i)) looks.length W v2) (hlo : ∀ z ∈ looks, okInt z) : Calls Tryz.prog 6 #[v0, v1, v2] W (OneYes W) := by
  have CM := Lib.hid (made_ring W hH v0 v1 ids acts 40 hi hp ha hao (by omega) 40 rfl)
  obtain ⟨a2, q2, rfl, hq2, hm2⟩ := hl.slice
  have hlm : looks.length ≤ 9223372036854775807 := by unfold maxLen at hm2; omega
  have HL := Lib.hid hl
  have HLO := Lib.hid hlo
  clear hi hp ha hao hl hlo hH
  go_enter Tryz.func6, Tryz.ntmps6
  go_wp2_with fail
  refine CM.out.mono ?_
  rintro e w1 (hm | ⟨rb, mb, f, p, rfl, hR⟩)
  · obtain ⟨rfl, hB1⟩ := hm
    go_wp2_with fail
    refine (awake11_any _).mono ?_
    rintro e w2 ⟨rfl, hB2⟩
    go_wp2_with fail
    go_ret
    exact ⟨rfl, bel_below (bel_below hB1 (bel_alloc (RowKit.Below.refl _ _) _)) hB2⟩
  · have R1 := Lib.hid hR
    have hlen := length_liveL f
    obtain ⟨n, hn⟩ : ∃ n, n = (liveL f).length := ⟨_, rfl⟩
    rw [← hn] at hlen
    have HN := Lib.hid hn
    have HIN := Lib.hid hR.inv
    clear hR CM hn
    go_wp2_with fail
    obtain ⟨w2, hw2⟩ : ∃ z, z = w1.alloc (.cells #[.slice (some ⟨p.b1, p.o1, none⟩) 32 p.k1, .slice (some ⟨p.b2, p.o2, none⟩) 32 p.k2, .slice (some ⟨p.b3, p.o3, none⟩) 32 p.k3, .slice (some ⟨p.b4, p.o4, none⟩) 32 p.k4] 35) := ⟨_, rfl⟩
    have R2 : Hid (RingOk W.heap.size W w2 rb mb f) := by rw [hw2]; exact R1.out.later (bel_alloc (RowKit.Below.refl _ _) _)
    rw [← hw2]
    clear hw2 R1
    go_loopw [10] (fun i wr => ∃ j : Nat, j ≤ 4 * n + 8 ∧ i = .int .i64 j ∧ Hid (RingOk W.heap.size W wr rb mb (rn j f))) (fun i _ => 4 * n + 8 - (intOf i).toNat)
    case atStart => exact ⟨0, by omega, rfl, R2.out⟩
    case round =>
      obtain ⟨j, hj, rfl, hRj⟩ := hrel
      obtain ⟨g3, G3⟩ := hRj.out.ring
      have CLV := live_at G3
      rw [liveL_rn] at CLV
      have hn2 := HN.out
      obtain ⟨L, hL⟩ : ∃ L, L = liveL f := ⟨_, rfl⟩
      rw [← hL] at CLV hn2
      have CV := Lib.hid CLV
      clear G3 CLV hL
      by_cases hlj : j < 4 * n + 8
      · have hljI : (j : Int) < 4 * (n : Int) + 8 := by omega
        go_wp2_with fail
        refine CV.out.mono ?_
        rintro e w4 ⟨v4, rfl, hs4, hB4⟩
        obtain ⟨a4, q4, rfl, _⟩ := hs4.slice
        have R4 := Lib.hid (hRj.out.later hB4)
        rw [← hn2]
        clear hs4 hB4 hn2
        obtain ⟨g5, G5⟩ := R4.out.ring
        have CR := Lib.hid (round_at G5 R4.out.inv.heads)
        clear G5
        go_wp2_with fail
        refine (rounds_any _ (by omega) (by omega) _).mono ?_
        rintro e w5 ⟨rfl, rfl⟩
        go_wp2_with fail
        refine CR.out.mono ?_
        rintro e w5 ⟨rfl, hg5, hk5⟩
        have R5 : Hid (RingOk W.heap.size W w5 rb mb (rn (j + 1) f)) := R4.out.step (inv_round R4.out.inv) ⟨_, hg5⟩ hk5
        clear hg5 hk5
        go_wp2_with fail
        go_roundw
        case rel => go_light; exact ⟨j + 1, by omega, by go_num, R5.out⟩
        case measure => go_light; simp [intOf]; omega
      · have hljI : ¬ (j : Int) < 4 * (n : Int) + 8 := by omega
        obtain ⟨h, hD, hP⟩ := good_rounds HIN.out j (by have := HN.out; omega)
        have D0 : Hid (Done (rn j f) h 3 ∧ AllPr (rn j f)) := ⟨hD, hP⟩
        obtain ⟨f0, hf0⟩ : ∃ f0, f0 = rn j f := ⟨_, rfl⟩
        rw [← hf0] at D0 hRj
        clear hD hP hf0
        go_wp2_with fail
        refine CV.out.mono ?_
        rintro e w4 ⟨v4, rfl, hs4, hB4⟩
        obtain ⟨a4, q4, rfl, _⟩ := hs4.slice
        have R4 := Lib.hid (hRj.out.later hB4)
        rw [← hn2]
        clear hs4 hB4 hn2 hRj CV
        go_wp2_with fail
        refine (rounds_any _ (by omega) (by omega) _).mono ?_
        rintro e w5 ⟨rfl, rfl⟩
        go_wp2_with fail
        obtain ⟨w5, hw5⟩ : ∃ z, z = w4 := ⟨_, rfl⟩
        rw [← hw5] at R4 ⊢
        clear hw5 hljI hlj
        go_loopw [11] (fun i wr => ∃ (k : Nat) (f' : RS), k ≤ looks.length ∧ k ≤ 40 ∧ i = .int .i64 k ∧ Hid (Done f' h 3 ∧ AllPr f') ∧ Hid (RingOk W.heap.size W wr rb mb f')) (fun i _ => looks.length - (intOf i).toNat)
        case atStart => exact ⟨0, f0, Nat.zero_le _, Nat.zero_le _, rfl, D0.out, R4.out⟩
        case round =>
          obtain ⟨k, f', hk, hk40, rfl, hD, hRk⟩ := hrel
          by_cases hlt : k < looks.length
          · by_cases hlt2 : k < 40
            · have hk2 : ((k : Nat) : Int) < 40 := by omega
              obtain ⟨b, off, rfl, _, hb, hck⟩ := HL.out.at k hlt wr hRk.out.below
              have okx := HLO.out _ (nth_mem.2 ⟨k, hlt, rfl⟩)
              obtain ⟨g5, G5⟩ := hRk.out.ring
              have CS := Lib.hid (stab_act G5 hRk.out.inv.heads (nth looks k) okx)
              have D2 := Lib.hid (good_stabE hRk.out.inv (nth looks k) hD.out.1 hD.out.2)
              clear G5 okx
              go_wp2_with fail
              refine CS.out.mono ?_
              rintro e w6 ⟨v, rfl, _, hg6, hk6⟩
              have R6 := Lib.hid (hRk.out.step (inv_stabE hRk.out.inv (nth looks k)) hg6 hk6)
              obtain ⟨g7, G7⟩ := R6.out.ring
              have CI := is_at G7 R6.out.inv
              rw [good_is R6.out.inv D2.out.1 D2.out.2] at CI
              have CII := Lib.hid CI
              clear hg6 hk6 G7 CI CS hck hb
              go_wp2_with fail
              refine CII.out.mono ?_
              rintro e w7 ⟨rfl, hB7⟩
              have R7 := Lib.hid (R6.out.later hB7)
              clear hB7
              go_wp2_with fail
              go_roundw
              case rel => go_light; exact ⟨k + 1, _, by omega, by omega, by go_num, D2.out, R7.out⟩
              case measure => go_light; simp [intOf]; omega
            · have hk2 : ¬ ((k : Nat) : Int) < 40 := by omega
              obtain ⟨g5, G5⟩ := hRk.out.ring
              have CI := fun w' (hb : RowKit.Below wr.heap.size wr w') => is_at (G5.below hb) hRk.out.inv
              rw [good_is hRk.out.inv hD.out.1 hD.out.2] at CI
              have CII := Lib.hid CI
              clear G5 CI
              go_wp2_with fail
              refine (awake11_any _).mono ?_
              rintro e w6 ⟨rfl, hB6⟩
              have B6 := Lib.hid hB6
              clear hB6
              go_wp2_with fail
              refine (CII.out _ B6.out).mono ?_
              rintro e w7 ⟨rfl, hB7⟩
              go_wp2_with fail
              go_ret
              exact ⟨rfl, bel_below (bel_below hRk.out.below B6.out) hB7⟩
          · have hk2 : ¬ ((k : Nat) : Int) < (looks.length : Int) := by omega
            obtain ⟨g5, G5⟩ := hRk.out.ring
            have CI := fun w' (hb : RowKit.Below wr.heap.size wr w') => is_at (G5.below hb) hRk.out.inv
            rw [good_is hRk.out.inv hD.out.1 hD.out.2] at CI
            have CII := Lib.hid CI
            clear G5 CI
            go_wp2_with fail
            refine (awake11_any _).mono ?_
            rintro e w6 ⟨rfl, hB6⟩
            have B6 := Lib.hid hB6
            clear hB6
            go_wp2_with fail
            refine (CII.out _ B6.out).mono ?_
            rintro e w7 ⟨rfl, hB7⟩
            go_wp2_with fail
            go_ret
            exact ⟨rfl, bel_below (bel_below hRk.out.below B6.out) hB7⟩
set_option maxRecDepth 100000 in
theorem idealStays_walk {H : Type} (enc : TypeId × Value → H) (W : World) (v0 : Value) (d0 : DataW H) (p0 : List MemPlace) {r0 : Reach} {b0 : Nat} (ok0 : Value.okWide Tryz.prog W r0 b0 22 v0) (h0 : DataW.Trod enc Tryz.prog W 0 (fun _ => true) true 22 v0 d0 p0)
    (hlt0 : ∀ x ∈ p0, x.block < W.heap.size) (sz0 : ∀ n ∈ d0.weights Tryz.prog 22, n ≤ reachBytes) (v1 : Value) (d1 : DataW H) (p1 : List MemPlace) {r1 : Reach} {b1 : Nat} (ok1 : Value.okWide Tryz.prog W r1 b1 23 v1) (h1 : DataW.Trod enc Tryz.prog W 0 (fun _ => true) true 23 v1 d1 p1)
    (hlt1 : ∀ x ∈ p1, x.block < W.heap.size) (sz1 : ∀ n ∈ d1.weights Tryz.prog 23, n ≤ reachBytes) (v2 : Value) (d2 : DataW H) (p2 : List MemPlace) {r2 : Reach} {b2 : Nat} (ok2 : Value.okWide Tryz.prog W r2 b2 52 v2) (h2 : DataW.Trod enc Tryz.prog W 0 (fun _ => true) true 52 v2 d2 p2)
    (hlt2 : ∀ x ∈ p2, x.block < W.heap.size) (sz2 : ∀ n ∈ d2.weights Tryz.prog 52, n ≤ reachBytes) (hg : HandleAt W) :
    Calls Tryz.prog 6 #[v0, v1, v2] W fun e W' => e = .returned (.bool true) ∧ RowKit.Below W.heap.size W W' := by
  obtain ⟨ids, hi, hp⟩ := ids_open ok0 h0
  obtain ⟨acts, ha, hao⟩ := acts_open ok1 h1
  obtain ⟨looks, hl, hlo⟩ := ints_open ok2 h2
  exact idealStays_main W hg v0 v1 v2 ids acts looks hi hp ha hao hl hlo
end Go.Proofs.YthbijjpaljjapaaGreatDoor
