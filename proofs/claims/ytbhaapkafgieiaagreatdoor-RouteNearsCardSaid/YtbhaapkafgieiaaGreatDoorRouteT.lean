


/-
  RouteNears walked.
-/
import Derived.Test.YtbhaapkafgieiaaGreatDoorMade
import Derived.Test.YtbhaapkafgieiaaGreatDoorRouteD
namespace Go.Proofs.YtbhaapkafgieiaaGreatDoor
open Go.RowKit Go.Maps Go.Sort Go.WideShapes Go.ChangeShapes Go.Deep
set_option linter.unusedVariables false
set_option linter.unusedSimpArgs false
attribute [local go_sem] later_cell later_frozen later_lt cell_set_off cell_set_block

theorem both_ok {S Q : Nat → Prop} {W w : World} {rb mb : Nat} {f : RS} {p : Where} (h : Both S Q W w rb mb f p) : RingOk W.heap.size W w rb mb f := by
  obtain ⟨g, hg⟩ := h.ring
  exact ⟨⟨g, hg.same (Nat.le_refl _) (fun _ _ _ => rfl) (fun b _ hS => h.low b hS) fun b hb => by have := h.below.size; omega⟩, h.inv, h.below⟩
/-- What Made leaves, as the laws use it that look at the ring alone. -/
theorem made_ring (W : World) (hH : HandleAt W) (v0 v1 : Value) (ids : List Int) (acts : List ActD) (n : Nat) (hi : SlAt 0 (fun i => .int .u64 (nth ids i)) ids.length W v0) (hp : ∀ x ∈ ids, isPlace x)
    (ha : ActsAt acts W v1) (hao : ∀ k, k < acts.length → (actAt acts k).ok) (hn : n ≤ 1000) (m : Int) (hm : m = n) : Calls Tryz.prog 9 #[v0, v1, .int .i64 m] W fun e w' =>
      (e = .returned (.tuple #[.pointer none, .agg #[.slice none 0 0, .slice none 0 0, .slice none 0 0, .slice none 0 0], .bool false]) ∧ RowKit.Below W.heap.size W w') ∨
      ∃ (rb mb : Nat) (f : RS) (p : Where), e = .returned (.tuple #[.pointer (some ⟨rb, 0, none⟩), (.agg #[.slice (some ⟨(p).b1, (p).o1, none⟩) 32 (p).k1, .slice (some ⟨(p).b2, (p).o2, none⟩) 32 (p).k2, .slice (some ⟨(p).b3, (p).o3, none⟩) 32 (p).k3, .slice (some ⟨(p).b4, (p).o4, none⟩) 32 (p).k4]), .bool true]) ∧ RingOk W.heap.size W w' rb mb f := by
  subst hm
  refine (made_any W hH v0 v1 ids acts n hi hp ha hao hn).mono fun e w' h => ?_
  unfold MadePost at h
  split at h
  · obtain ⟨rb, mb, f, p, S, Q, rfl, hB⟩ := h
    exact Or.inr ⟨rb, mb, f, p, rfl, both_ok hB⟩
  · exact Or.inl h

set_option maxRecDepth 100000 in
set_option maxHeartbeats 8000000 in
theorem routeNears_main (W : World) (hH : HandleAt W) (v0 v1 : Value) (ids : List Int) (acts : List ActD) (n X : Int) (hn : okInt n) (hX : isPlace X) (hi : SlAt 0 (fun i => .int .u64 (nth ids i)) ids.length W v0) (hp : ∀ x ∈ ids, isPlace x)
    (ha : ActsAt acts W v1) (hao : ∀ k, k < acts.length → (actAt acts k).ok) : Calls Tryz.prog 4 #[v0, v1, .int .i64 n, .int .u64 X] W (OneYes W) := by
  have CM := Lib.hid (made_ring W hH v0 v1 ids acts 30 hi hp ha hao (by omega) 30 rfl)
  clear hi hp ha hao hH
  go_enter Tryz.func4, Tryz.ntmps4
  go_wp2_with fail
  refine CM.out.mono ?_
  rintro e w1 (hm | ⟨rb, mb, f, p, rfl, hR⟩)
  · obtain ⟨rfl, hB1⟩ := hm
    go_wp2_with fail
    refine (awake12_any _).mono ?_
    rintro e w2 ⟨rfl, hB2⟩
    go_wp2_with fail
    go_ret
    exact ⟨rfl, bel_below (bel_below hB1 (bel_alloc (RowKit.Below.refl _ _) _)) hB2⟩
  · have R1 := Lib.hid hR
    have hlen := length_liveL f
    obtain ⟨nl, hnl⟩ : ∃ n, n = (liveL f).length := ⟨_, rfl⟩
    rw [← hnl] at hlen
    have HN := Lib.hid hnl
    have HIN := Lib.hid hR.inv
    clear hR CM hnl
    go_wp2_with fail
    obtain ⟨w2, hw2⟩ : ∃ z, z = w1.alloc (.cells #[.slice (some ⟨p.b1, p.o1, none⟩) 32 p.k1, .slice (some ⟨p.b2, p.o2, none⟩) 32 p.k2, .slice (some ⟨p.b3, p.o3, none⟩) 32 p.k3, .slice (some ⟨p.b4, p.o4, none⟩) 32 p.k4] 33) := ⟨_, rfl⟩
    have R2 : Hid (RingOk W.heap.size W w2 rb mb f) := by rw [hw2]; exact R1.out.later (bel_alloc (RowKit.Below.refl _ _) _)
    rw [← hw2]
    clear hw2 R1
    go_loopw [12] (fun i wr => ∃ j : Nat, j ≤ 4 * nl + 8 ∧ i = .int .i64 j ∧ Hid (RingOk W.heap.size W wr rb mb (rn j f))) (fun i _ => 4 * nl + 8 - (intOf i).toNat)
    case atStart => exact ⟨0, by omega, rfl, R2.out⟩
    case round =>
      obtain ⟨j, hj, rfl, hRj⟩ := hrel
      obtain ⟨g3, G3⟩ := hRj.out.ring
      have CLV := live_at G3
      rw [liveL_rn] at CLV
      have hn2 := HN.out
      obtain ⟨L, hL⟩ : ∃ L, L = liveL f := ⟨_, rfl⟩
      rw [← hL] at CLV hn2
      have CV := Lib.hid CLV
      clear G3 CLV hL
      by_cases hlj : j < 4 * nl + 8
      · have hljI : (j : Int) < 4 * (nl : Int) + 8 := by omega
        go_wp2_with fail
        refine CV.out.mono ?_
        rintro e w4 ⟨v4, rfl, hs4, hB4⟩
        obtain ⟨a4, q4, rfl, _⟩ := hs4.slice
        have R4 := Lib.hid (hRj.out.later hB4)
        rw [← hn2]
        clear hs4 hB4 hn2
        obtain ⟨g5, G5⟩ := R4.out.ring
        have CR := Lib.hid (round_at G5 R4.out.inv.heads)
        clear G5
        go_wp2_with fail
        refine (rounds_any _ (by omega) (by omega) _).mono ?_
        rintro e w5 ⟨rfl, rfl⟩
        go_wp2_with fail
        refine CR.out.mono ?_
        rintro e w5 ⟨rfl, hg5, hk5⟩
        have R5 : Hid (RingOk W.heap.size W w5 rb mb (rn (j + 1) f)) := R4.out.step (inv_round R4.out.inv) ⟨_, hg5⟩ hk5
        clear hg5 hk5
        go_wp2_with fail
        go_roundw
        case rel => go_light; exact ⟨j + 1, by omega, by go_num, R5.out⟩
        case measure => go_light; simp [intOf]; omega
      have hljI : ¬ (j : Int) < 4 * (nl : Int) + 8 := by omega
      have GD0 : Hid (Good (rn j f)) := good_rn HIN.out (by have := HN.out; omega)
      have HLF0 : Hid (nl = (liveL (rn j f)).length) := show nl = _ by rw [liveL_rn]; exact HN.out
      obtain ⟨f0, hf0⟩ : ∃ f0, f0 = rn j f := ⟨_, rfl⟩
      rw [← hf0] at GD0 HLF0 hRj
      clear hf0
      go_wp2_with fail
      refine CV.out.mono ?_
      rintro e w4 ⟨v4, rfl, hs4, hB4⟩
      obtain ⟨a4, q4, rfl, _⟩ := hs4.slice
      have R4 := Lib.hid (hRj.out.later hB4)
      rw [← hn2]
      clear hs4 hB4 hn2 hRj CV
      go_wp2_with fail
      refine (rounds_any _ (by omega) (by omega) _).mono ?_
      rintro e w5 ⟨rfl, rfl⟩
      go_wp2_with fail
      obtain ⟨w5, hw5⟩ : ∃ z, z = w4 := ⟨_, rfl⟩
      rw [← hw5] at R4 ⊢
      clear hw5 hljI hlj HN HIN R2
      obtain ⟨g, hG⟩ := R4.out.ring
      refine (newf_any w5 rb).mono ?_
      rintro e w6 ⟨fb, fm, rfl, hf, hb6⟩
      have G6 := Lib.hid (hG.now hb6)
      have F6 := Lib.hid hf
      have B6 := Lib.hid (bel_below R4.out.below hb6)
      have hnow : ¬ Now (fun b => W.heap.size ≤ b) w5 w6 fm := fun h => by
        have h2 := hf.fmQ
        have h3 := hf.fmz
        rcases h with ⟨_, h⟩ | h <;> omega
      have CRF := Lib.hid (roundf_at G6.out F6.out GD0.out.inv.heads hnow)
      clear hf hb6 hG
      go_wp2_with fail
      refine CRF.out.mono ?_
      rintro e w7 ⟨rfl, hf7, hk7⟩
      have G7 := Lib.hid (G6.out.off hk7 hnow)
      obtain ⟨F, hF⟩ : ∃ z, z = fixes f0 (fun _ => []) (liveL f0) := ⟨_, rfl⟩
      rw [← hF] at hf7
      have F7 := Lib.hid hf7
      have B7 : Hid (RowKit.Below W.heap.size W w7) := show RowKit.Below _ _ _ from B6.out.trans (hk7.toBelow B6.out.size (fun b hb e => by
        have := F6.out.fmQ
        have := R4.out.below.size
        omega))
      clear hf7 hk7 CRF hF F6 G6 hnow R4 B6
      cases hlv : livesR f0 n with
      | false =>
        have CP := Lib.hid (path_dead G7.out F7.out GD0.out.inv.heads n X hn hlv)
        go_wp2_with fail
        refine CP.out.mono ?_
        rintro e w8 ⟨v, rfl, ⟨b, rfl, _⟩, hb8⟩
        have CL := lives_at (G7.out.below hb8) n hn
        rw [hlv] at CL
        have B8 := Lib.hid (bel_below B7.out hb8)
        clear hlv hb8
        go_wp2_with fail
        refine CL.mono ?_
        rintro e w9 ⟨rfl, rfl⟩
        go_wp2_with fail
        refine (awake12_any _).mono ?_
        rintro e w9 ⟨rfl, hb9⟩
        go_wp2_with fail
        go_ret
        exact ⟨rfl, bel_below B8.out hb9⟩
      | true =>
        obtain ⟨l, hl, hGW⟩ := good_path GD0.out F hX hlv
        obtain ⟨hW, hl65⟩ := path_way _ _ _ hl
        have hlL := good_len GD0.out hGW
        have CP := Lib.hid (path_some G7.out F7.out GD0.out.inv.heads n X hn hlv hl)
        have hlpos := hW.pos
        have hfirst := hW.first
        have HGW := Lib.hid hGW
        rw [← HLF0.out] at hlL
        go_wp2_with fail
        refine CP.out.mono ?_
        rintro e w8 ⟨v, rfl, hs8, hb8⟩
        obtain ⟨a8, c8, rfl, _⟩ := hs8.slice
        have S8 := Lib.hid (hs8.base (Nat.zero_le _))
        have B8 := Lib.hid (bel_below B7.out hb8)
        have G8 := Lib.hid (G7.out.below hb8)
        have CL := lives_at G8.out n hn
        rw [hlv] at CL
        have CV := live_at G8.out
        obtain ⟨L, hL⟩ : ∃ z, z = liveL f0 := ⟨_, rfl⟩
        rw [← hL] at CV HLF0
        have CV := Lib.hid CV
        clear hs8 hb8 CP hlv hl hW hGW hL
        go_wp2_with fail
        refine CL.mono ?_
        rintro e w9 ⟨rfl, rfl⟩
        clear CL
        go_wp2_with fail
        refine CV.out.mono ?_
        rintro e w9 ⟨v9, rfl, hs9, hb9⟩
        obtain ⟨a9, c9, rfl, _⟩ := hs9.slice
        rw [← HLF0.out]
        obtain ⟨b, off, rfl, _, hbz, hck⟩ := S8.out.at 0 hlpos w9 hb9
        rw [hfirst, Nat.add_zero] at hck
        have B9 := Lib.hid (bel_below B8.out hb9)
        have G9 := Lib.hid (G8.out.below hb9)
        have S9 := Lib.hid (S8.out.below hb9)
        clear hs9 hb9 CV S8
        go_wp2_with fail
        go_loopw [16] (fun i wr => ∃ k : Nat, 1 ≤ k ∧ k ≤ l.length ∧ i = .int .i64 k ∧ Hid (RowKit.Below w9.heap.size w9 wr)) (fun i _ => l.length - (intOf i).toNat)
        case atStart => exact ⟨1, Nat.le_refl _, hlpos, rfl, RowKit.Below.refl _ _⟩
        case round =>
          obtain ⟨k, hk1, hk, rfl, hB⟩ := hrel
          by_cases hlt : k + 1 < l.length
          · have hI : ((k : Nat) : Int) + 1 < (l.length : Int) := by omega
            obtain ⟨b1, o1, e1, _, hz1, hc1⟩ := S9.out.at k (by omega) wr hB.out
            obtain ⟨b2, o2, e2, _, hz2, hc2⟩ := S9.out.at (k - 1) (by omega) wr hB.out
            cases e1
            cases e2
            have hkc : ((k : Nat) : Int) - 1 = ((k - 1 : Nat) : Int) := by omega
            have hdn := HGW.out.down (k - 1) (by omega)
            rw [show k - 1 + 1 = k by omega] at hdn
            have hy1 := livesR_dom GD0.out.inv.dom (HGW.out.lives _ (nth_mem.2 ⟨k, by omega, rfl⟩))
            have hy2 := livesR_dom GD0.out.inv.dom (HGW.out.lives _ (nth_mem.2 ⟨k - 1, by omega, rfl⟩))
            obtain ⟨y1, hy1e⟩ : ∃ z, z = nth l k := ⟨_, rfl⟩
            obtain ⟨y2, hy2e⟩ : ∃ z, z = nth l (k - 1) := ⟨_, rfl⟩
            rw [← hy1e] at hc1 hdn hy1
            rw [← hy2e] at hc2 hdn hy2
            have C1 := Lib.hid fun wr' (hb : RowKit.Below wr.heap.size wr wr') => id_at (G9.out.below (bel_below hB.out hb)) y1 (okInt_dom (by omega) (by omega))
            have C2 := Lib.hid fun wr' (hb : RowKit.Below wr.heap.size wr wr') => id_at (G9.out.below (bel_below hB.out hb)) y2 (okInt_dom (by omega) (by omega))
            obtain ⟨i1, hi1⟩ : ∃ z, z = idR f0 y1 := ⟨_, rfl⟩
            obtain ⟨i2, hi2⟩ : ∃ z, z = idR f0 y2 := ⟨_, rfl⟩
            rw [← hi1] at C1 hdn
            rw [← hi2] at C2 hdn
            obtain ⟨d1, hd1⟩ : ∃ z, z = dist i1 X := ⟨_, rfl⟩
            obtain ⟨d2, hd2⟩ : ∃ z, z = dist i2 X := ⟨_, rfl⟩
            have D1 : Hid (∀ w', Calls Tryz.prog 19 #[.int .u64 i1, .int .u64 X] w' fun e w'' => e = .returned (.int .u64 d1) ∧ w' = w'') := fun w' => hd1 ▸ dist_any _ _ _
            have D2 : Hid (∀ w', Calls Tryz.prog 19 #[.int .u64 i2, .int .u64 X] w' fun e w'' => e = .returned (.int .u64 d2) ∧ w' = w'') := fun w' => hd2 ▸ dist_any _ _ _
            rw [← hd1, ← hd2] at hdn
            clear hy1e hy2e hi1 hi2 hd1 hd2 hy1 hy2
            go_wp2_with fail
            refine wp_region_calm (by kernel_rfl) (by kernel_rfl) ?_
            repeat (first | (go_big_quiet_step ((first | (go_at_call_of 20 (Value.int .i64 y1); exact calls_calm_same (C1.out _ (by (repeat (first | exact Below.refl _ _ | (with_reducible assumption) | (with_reducible refine bel_later ?_ _) | (with_reducible refine bel_alloc ?_ _) | (with_reducible refine bel_drew ?_) | (with_reducible refine bel_drewN ?_ _) | (with_reducible refine bel_set ?_ (by first | (simp; done) | (simp; omega) | (dsimp only; omega)) _)))))) | (go_at_call_of 20 (Value.int .i64 y2); exact calls_calm_same (C2.out _ (by (repeat (first | exact Below.refl _ _ | (with_reducible assumption) | (with_reducible refine bel_later ?_ _) | (with_reducible refine bel_alloc ?_ _) | (with_reducible refine bel_drew ?_) | (with_reducible refine bel_drewN ?_ _) | (with_reducible refine bel_set ?_ (by first | (simp; done) | (simp; omega) | (dsimp only; omega)) _)))))) | (go_at_call_of 19 (Value.int .u64 i1); exact calls_calm_same (D1.out _)) | (go_at_call_of 19 (Value.int .u64 i2); exact calls_calm_same (D2.out _))))) | (refine wpQuiet_step (fun K hK => ?_); go_simp; first | (refine hK _ ?_; clear hK K) | (apply Exists.intro; refine ⟨fun _ => ?_, hK _ ?_⟩; (first | (go_at_call_of 20 (Value.int .i64 y1); exact calls_calm_same (C1.out _ (by (repeat (first | exact Below.refl _ _ | (with_reducible assumption) | (with_reducible refine bel_later ?_ _) | (with_reducible refine bel_alloc ?_ _) | (with_reducible refine bel_drew ?_) | (with_reducible refine bel_drewN ?_ _) | (with_reducible refine bel_set ?_ (by first | (simp; done) | (simp; omega) | (dsimp only; omega)) _)))))) | (go_at_call_of 20 (Value.int .i64 y2); exact calls_calm_same (C2.out _ (by (repeat (first | exact Below.refl _ _ | (with_reducible assumption) | (with_reducible refine bel_later ?_ _) | (with_reducible refine bel_alloc ?_ _) | (with_reducible refine bel_drew ?_) | (with_reducible refine bel_drewN ?_ _) | (with_reducible refine bel_set ?_ (by first | (simp; done) | (simp; omega) | (dsimp only; omega)) _)))))) | (go_at_call_of 19 (Value.int .u64 i1); exact calls_calm_same (D1.out _)) | (go_at_call_of 19 (Value.int .u64 i2); exact calls_calm_same (D2.out _))); clear hK K)))
            refine wpQuiet_nil ?_
            intro _ hw'
            obtain ⟨xq, hw''⟩ := hw'
            subst hw''
            obtain ⟨wy, hby⟩ := xq
            dsimp only
            have BY := Lib.hid (bel_below hB.out hby)
            clear hby C1 C2 D1 D2 hc1 hc2
            go_wp2_with fail
            go_roundw
            case rel => go_light; exact ⟨k + 1, by omega, by omega, by go_num, BY⟩
            case measure => go_light; simp [intOf]; omega
          · have hI : ¬ ((k : Nat) : Int) + 1 < (l.length : Int) := by omega
            go_wp2_with fail
            refine (awake12_any _).mono ?_
            rintro e wA ⟨rfl, hbA⟩
            go_wp2_with fail
            go_ret
            exact ⟨rfl, bel_below (bel_below B9.out hB.out) hbA⟩
set_option maxRecDepth 100000 in
theorem routeNears_walk {H : Type} (enc : TypeId × Value → H) (W : World) (v0 : Value) (d0 : DataW H) (p0 : List MemPlace) {r0 : Reach} {b0 : Nat} (ok0 : Value.okWide Tryz.prog W r0 b0 22 v0) (h0 : DataW.Trod enc Tryz.prog W 0 (fun _ => true) true 22 v0 d0 p0)
    (hlt0 : ∀ x ∈ p0, x.block < W.heap.size) (sz0 : ∀ n ∈ d0.weights Tryz.prog 22, n ≤ reachBytes) (v1 : Value) (d1 : DataW H) (p1 : List MemPlace) {r1 : Reach} {b1 : Nat} (ok1 : Value.okWide Tryz.prog W r1 b1 23 v1) (h1 : DataW.Trod enc Tryz.prog W 0 (fun _ => true) true 23 v1 d1 p1)
    (hlt1 : ∀ x ∈ p1, x.block < W.heap.size) (sz1 : ∀ n ∈ d1.weights Tryz.prog 23, n ≤ reachBytes) (a2 : Int) (w2 : (Lit.int .i64 a2).wf = true) (a3 : Int) (w3 : (Lit.int .u64 a3).wf = true) (hg : HandleAt W) :
    Calls Tryz.prog 4 #[v0, v1, .int .i64 a2, .int .u64 a3] W fun e W' => e = .returned (.bool true) ∧ RowKit.Below W.heap.size W W' := by
  obtain ⟨ids, hi, hp⟩ := ids_open ok0 h0
  obtain ⟨acts, ha, hao⟩ := acts_open ok1 h1
  exact routeNears_main W hg v0 v1 ids acts a2 a3 w2 (placeOf w3) hi hp ha hao
end Go.Proofs.YtbhaapkafgieiaaGreatDoor
