


/-
  RouteCalm walked.
-/
import Derived.Test.YtbhaapkafgieiaaGreatDoorMade
import Derived.Test.YtbhaapkafgieiaaGreatDoorRouteD
namespace Go.Proofs.YtbhaapkafgieiaaGreatDoor
open Go.RowKit Go.Maps Go.Sort Go.WideShapes Go.ChangeShapes Go.Deep
set_option linter.unusedVariables false
set_option linter.unusedSimpArgs false
attribute [local go_sem] later_cell later_frozen later_lt cell_set_off cell_set_block

theorem both_ok {S Q : Nat → Prop} {W w : World} {rb mb : Nat} {f : RS} {p : Where} (h : Both S Q W w rb mb f p) : RingOk W.heap.size W w rb mb f := by
  obtain ⟨g, hg⟩ := h.ring
  exact ⟨⟨g, hg.same (Nat.le_refl _) (fun _ _ _ => rfl) (fun b _ hS => h.low b hS) fun b hb => by have := h.below.size; omega⟩, h.inv, h.below⟩
/-- What Made leaves, as the laws use it that look at the ring alone. -/
theorem made_ring (W : World) (hH : HandleAt W) (v0 v1 : Value) (ids : List Int) (acts : List ActD) (n : Nat) (hi : SlAt 0 (fun i => .int .u64 (nth ids i)) ids.length W v0) (hp : ∀ x ∈ ids, isPlace x)
    (ha : ActsAt acts W v1) (hao : ∀ k, k < acts.length → (actAt acts k).ok) (hn : n ≤ 1000) (m : Int) (hm : m = n) : Calls Tryz.prog 9 #[v0, v1, .int .i64 m] W fun e w' =>
      (e = .returned (.tuple #[.pointer none, .agg #[.slice none 0 0, .slice none 0 0, .slice none 0 0, .slice none 0 0], .bool false]) ∧ RowKit.Below W.heap.size W w') ∨
      ∃ (rb mb : Nat) (f : RS) (p : Where), e = .returned (.tuple #[.pointer (some ⟨rb, 0, none⟩), (.agg #[.slice (some ⟨(p).b1, (p).o1, none⟩) 32 (p).k1, .slice (some ⟨(p).b2, (p).o2, none⟩) 32 (p).k2, .slice (some ⟨(p).b3, (p).o3, none⟩) 32 (p).k3, .slice (some ⟨(p).b4, (p).o4, none⟩) 32 (p).k4]), .bool true]) ∧ RingOk W.heap.size W w' rb mb f := by
  subst hm
  refine (made_any W hH v0 v1 ids acts n hi hp ha hao hn).mono fun e w' h => ?_
  unfold MadePost at h
  split at h
  · obtain ⟨rb, mb, f, p, S, Q, rfl, hB⟩ := h
    exact Or.inr ⟨rb, mb, f, p, rfl, both_ok hB⟩
  · exact Or.inl h

/-- The fingers that a member should have. -/
def owL (f : RS) (n : Int) (k : Nat) : List Int := ((List.range k).map fun j => own f (startR (idR f n) j)).foldl addF []
theorem owL_succ (f : RS) (n : Int) (k : Nat) : owL f n (k + 1) = addF (owL f n k) (own f (startR (idR f n) k)) := by unfold owL; rw [List.range_succ, List.map_append, List.foldl_append]; rfl
theorem owL_len (f : RS) (n : Int) (k : Nat) : (owL f n k).length ≤ k := by
  induction k with
  | zero => simp [owL]
  | succ k ih => rw [owL_succ]; have := addF_len (owL f n k) (own f (startR (idR f n) k)); omega
theorem fixes_right {f : RS} (G : Good f) : ∀ (l : List Int) (F : Int → List Int) (n : Int), (∀ x ∈ l, livesR f x = true) → (n ∈ l ∨ F n = owL f n 64) → fixes f F l n = owL f n 64
  | [], F, n, _, h => by
    rcases h with h | h
    · cases h
    · exact h
  | x :: l, F, n, hl, h => by
    show fixes f (fix1 f F x) l n = _
    refine fixes_right G l _ n (fun y hy => hl y (List.mem_cons_of_mem _ hy)) ?_
    by_cases hx : n = x
    · right
      subst hx
      show setL F n (fixR f F n) n = _
      rw [show setL F n (fixR f F n) n = fixR f F n by simp [setL]]
      exact good_fixN G F (hl n (by simp)) 64
    · rcases h with h | h
      · rcases List.mem_cons.1 h with h | h
        · exact absurd h hx
        · exact Or.inl h
      · right
        show setL F x _ n = _
        rw [show setL F x (fixR f F x) n = F n by simp [setL, hx]]; exact h
theorem finger_own {f : RS} (I : Inv f) {n : Int} (hn : livesR f n = true) (k : Nat) (hk : k < 64) : cFinger (circ f) ((circ f).map (idR f)) n k = own f (startR (idR f n) k) := by
  obtain ⟨x, rfl⟩ := cAt_of I hn
  obtain ⟨i, hi, e1, _, e2⟩ := cAt_nat I x
  unfold cFinger
  rw [cAt_idx I, e2, if_neg (by omega), show ((i : Int)).toNat = i by simp, nth_ids I hi, ← e1]
  rfl
/-- No address stands twice in a list without doubles. -/
theorem twice_any (w : World) (v : Value) (l : List Int) (h : SlAt 0 (fun i => .int .i64 (nth l i)) l.length w v) (hl : l.length ≤ 1000) (hd : l.Nodup) :
    Calls Tryz.prog 39 #[v] w fun e w' => e = .returned (.int .i64 0) ∧ RowKit.Below w.heap.size w w' := by
  obtain ⟨a, c, rfl, hc1, hc2⟩ := h.slice
  have S := Lib.hid h
  have HD : Hid (∀ i k, i < l.length → k < i → (nth l i == nth l k) = false) := show ∀ i k, _ → _ → _ from fun i k hi hk => by
    have := List.pairwise_iff_getElem.1 hd k i (by omega) hi hk
    rw [nth_eq hi, nth_eq (by omega : k < l.length), beq_eq_false_iff_ne]
    exact fun e => this e.symm
  unfold maxLen at hc2
  clear h hd
  go_enter Tryz.func39, Tryz.ntmps39
  go_wp2
  go_loopw [7] (fun i wr => ∃ k : Nat, k ≤ l.length ∧ i = .int .i64 k ∧ Hid (RowKit.Below w.heap.size w wr)) (fun i _ => l.length - (intOf i).toNat)
  case atStart => exact ⟨0, Nat.zero_le _, rfl, RowKit.Below.refl _ _⟩
  case round =>
    obtain ⟨k, hk, rfl, hB⟩ := hrel
    by_cases hlt : k < l.length
    · obtain ⟨b, off, rfl, _, hbz, hck⟩ := S.out.at k hlt wr hB.out
      obtain ⟨wo, rfl⟩ : ∃ wo : World, wo = wr := ⟨_, rfl⟩
      have hkc : ((k : Nat) : Int) ≤ (c : Int) := by omega
      go_wp2_with fail
      go_loopw [14] (fun i wr => ∃ j : Nat, j ≤ k ∧ i = .int .i64 j ∧ Hid (RowKit.Below wo.heap.size wo wr)) (fun i _ => k - (intOf i).toNat)
      case atStart => exact ⟨0, Nat.zero_le _, rfl, RowKit.Below.refl _ _⟩
      case round =>
        obtain ⟨j, hj, rfl, hBi⟩ := hrel
        by_cases hjk : j < k
        · obtain ⟨b2, off2, e2, _, hbz2, hcj⟩ := S.out.at j (by omega) wr (bel_below hB.out hBi.out)
          cases e2
          have hck := (hBi.out.cell (p := ⟨b, off + k, none⟩) hbz).trans hck
          have hne := HD.out k j hlt hjk
          have hjl : j < l.length := by omega
          obtain ⟨x, hx⟩ : ∃ z, z = nth l k := ⟨_, rfl⟩
          obtain ⟨y, hy⟩ : ∃ z, z = nth l j := ⟨_, rfl⟩
          rw [← hx] at hck hne
          rw [← hy] at hcj hne
          clear hx hy
          go_wp2_with fail
          refine wp_region_calm (by kernel_rfl) (by kernel_rfl) ?_
          repeat (first | (go_big_quiet_step ((fail))) | (refine wpQuiet_step (fun K hK => ?_); go_simp; first | (refine hK _ ?_; clear hK K) | (apply Exists.intro; refine ⟨fun _ => ?_, hK _ ?_⟩; (fail); clear hK K)))
          refine wpQuiet_nil ?_
          intro _ hw'
          obtain ⟨xq, hw''⟩ := hw'
          subst hw''
          obtain ⟨wy, hby⟩ := xq
          dsimp only
          have BY := Lib.hid (bel_below hBi.out hby)
          clear hby hck hcj
          go_wp2_with fail
          go_roundw
          case rel => go_light; exact ⟨j + 1, by omega, by go_num, BY⟩
          case measure => go_light; simp [intOf]; omega
        · obtain rfl : j = k := by omega
          go_wp2_with fail
          go_roundw
          case rel => go_light; exact ⟨j + 1, by omega, by go_num, bel_below hB.out hBi.out⟩
          case measure => go_light; simp [intOf]; omega
    · obtain rfl : k = l.length := by omega
      go_wp2_with fail
      go_ret
      exact ⟨rfl, hB.out⟩

theorem cell_blk {w w' : World} {b : Nat} (o : Nat) (h : w'.heap[b]? = w.heap[b]?) : w'.cell? ⟨b, o, none⟩ = w.cell? ⟨b, o, none⟩ := World.cell?_of_block h
theorem slAt_keptQ {B : Nat} {gg : Nat → Value} {n : Nat} {w w' : World} {v : Value} {T : Nat → Prop} (h : SlAt B gg n w v) (hk : Kept T w w') (hT : ∀ b, B ≤ b → b < w.heap.size → ¬ T b) : SlAt B gg n w' v := by
  obtain ⟨a, cap, rfl, h1, h2, h6, h3⟩ := h
  refine ⟨a, cap, rfl, h1, h2, h6, h3.imp id ?_⟩
  rintro ⟨b, off, rfl, h7, h4, h5⟩
  exact ⟨b, off, rfl, h7, Nat.lt_of_lt_of_le h4 hk.size, fun i hi => (World.cell?_of_block (hk.block b h4 (hT b h7 h4))).trans (h5 i hi)⟩
set_option maxRecDepth 100000 in
set_option maxHeartbeats 32000000 in
theorem routeCalm_main (W : World) (hH : HandleAt W) (v0 v1 : Value) (ids : List Int) (acts : List ActD) (fix X : Int) (hX : isPlace X) (hi : SlAt 0 (fun i => .int .u64 (nth ids i)) ids.length W v0) (hp : ∀ x ∈ ids, isPlace x)
    (ha : ActsAt acts W v1) (hao : ∀ k, k < acts.length → (actAt acts k).ok) : Calls Tryz.prog 7 #[v0, v1, .int .i64 fix, .int .u64 X] W (OneYes W) := by
  have CM := Lib.hid (made_ring W hH v0 v1 ids acts 0 hi hp ha hao (by omega) 0 rfl)
  obtain ⟨i0, hi0, hz0, hz1, hz2⟩ : ∃ i0, Tryz.prog.info? 3 = some i0 ∧ i0.zero = some (Value.int .i64 0) ∧ i0.size = 1 ∧ i0.bytes = 8 := ⟨intI, intI_at, by kernel_rfl, by kernel_rfl, by kernel_rfl⟩
  obtain ⟨a1, q1, rfl, hq1, hm1⟩ := ha.slice
  have ham : acts.length ≤ 9223372036854775807 := by unfold maxLen at hm1; omega
  have HA := Lib.hid ha
  have HAO := Lib.hid hao
  clear hi hp ha hao hH
  go_enter Tryz.func7, Tryz.ntmps7
  go_wp2_with fail
  refine CM.out.mono ?_
  rintro e w1 (hm | ⟨rb, mb, f, p, rfl, hR⟩)
  · obtain ⟨rfl, hB1⟩ := hm
    go_wp2_with fail
    refine (awake12_any _).mono ?_
    rintro e w2 ⟨rfl, hB2⟩
    go_wp2_with fail
    go_ret
    exact ⟨rfl, bel_below (bel_below hB1 (bel_alloc (RowKit.Below.refl _ _) _)) hB2⟩
  · have R1 := Lib.hid hR
    have I1 := Lib.hid hR.inv
    clear hR CM
    go_wp2_with fail
    obtain ⟨w2, hw2⟩ : ∃ z, z = w1.alloc (.cells #[.slice (some ⟨p.b1, p.o1, none⟩) 32 p.k1, .slice (some ⟨p.b2, p.o2, none⟩) 32 p.k2, .slice (some ⟨p.b3, p.o3, none⟩) 32 p.k3, .slice (some ⟨p.b4, p.o4, none⟩) 32 p.k4] 33) := ⟨_, rfl⟩
    have R2 : Hid (RingOk W.heap.size W w2 rb mb f) := by rw [hw2]; exact R1.out.later (bel_alloc (RowKit.Below.refl _ _) _)
    rw [← hw2]
    clear hw2 R1
    refine (newf_any w2 rb).mono ?_
    rintro e w3 ⟨fb, fm, rfl, hf, hb3⟩
    have J3 := Lib.hid (joint_new R2.out hf hb3)
    clear hf hb3 R2
    go_wp2_with fail
    go_loopw [13] (fun i wr => ∃ (k : Nat) (f' : RS) (F : Int → List Int), k ≤ acts.length ∧ k ≤ 40 ∧ i = .int .i64 k ∧ Hid (Joint W wr rb mb fb fm f' F) ∧ Hid (Inv f')) (fun i _ => acts.length - (intOf i).toNat)
    case atStart => exact ⟨0, f, _, Nat.zero_le _, Nat.zero_le _, rfl, J3, I1⟩
    case round =>
      obtain ⟨k, f', F, hk, hk40, rfl, hJ, hI⟩ := hrel
      by_cases hlt : k < acts.length ∧ k < 40
      · obtain ⟨hlt, hlt2⟩ := hlt
        have hk2 : ((k : Nat) : Int) < 40 := by omega
        obtain ⟨b, off, rfl, hb, c0, c1, c2, c3⟩ := HA.out.at k hlt wr hJ.out.bel
        have hok := HAO.out k hlt
        generalize hA : actAt acts k = A at c0 c1 c2 c3 hok
        obtain ⟨kd, an, av, ai⟩ := A
        have HOK := Lib.hid hok
        clear hA hok
        dsimp only at c0 c1 c2 c3
        have J2 := Lib.hid (hJ.out.later (bel_alloc (RowKit.Below.refl _ wr) (.cells #[.int .i64 kd, .int .i64 an, .int .i64 av, .int .u64 ai] 60)))
        by_cases hk1 : kd = 1
        · subst hk1
          obtain ⟨S, Q, g2, hj2⟩ := J2.out
          have HJ2 := Lib.hid hj2
          have r0 := hj2.ring.root
          clear hj2
          go_wp2_with fail
          refine (join_act HJ2.out.ring hI.out.heads an ai av HOK.out.n HOK.out.via HOK.out.id).mono ?_
          rintro e w5 ⟨v, rfl, _, ⟨g5, hg5⟩, hk5⟩
          have J5 : Hid (Joint W w5 rb mb fb fm _ F) := ⟨_, _, _, HJ2.out.ringStep hg5 hk5⟩
          have I5 := Lib.hid ((inv_joinR hI.out HOK.out.id : Inv (joinR f' an ai av)))
          clear hg5 hk5 J2 r0
          go_wp2_with fail
          have CJ := Lib.hid (joint_round (J5).out (I5).out.heads)
          go_wp2_with fail
          · refine CJ.out.mono ?_
            rintro e w8 ⟨rfl, hJ8⟩
            have J8 := Lib.hid hJ8
            clear hJ8 CJ
            go_wp2_with fail
            go_roundw
            case rel => go_light; exact ⟨k + 1, _, _, by omega, by omega, by go_num, J8, I5⟩
            case measure => go_light; simp [intOf]; omega
          · go_roundw
            case rel => go_light; exact ⟨k + 1, _, _, by omega, by omega, by go_num, J5, I5⟩
            case measure => go_light; simp [intOf]; omega
        have hb1 : (kd == 1) = false := by simpa using hk1
        clear hk1
        by_cases hk2 : kd = 2
        · subst hk2
          obtain ⟨S, Q, g2, hj2⟩ := J2.out
          have HJ2 := Lib.hid hj2
          have r0 := hj2.ring.root
          clear hj2
          go_wp2_with fail
          refine (fail_act HJ2.out.ring an HOK.out.n).mono ?_
          rintro e w5 ⟨v, rfl, _, ⟨g5, hg5⟩, hk5⟩
          have J5 : Hid (Joint W w5 rb mb fb fm _ F) := ⟨_, _, _, HJ2.out.ringStep hg5 hk5⟩
          have I5 := Lib.hid (inv_failR hI.out an)
          clear hg5 hk5 J2 r0
          go_wp2_with fail
          have CJ := Lib.hid (joint_round (J5).out (I5).out.heads)
          go_wp2_with fail
          · refine CJ.out.mono ?_
            rintro e w8 ⟨rfl, hJ8⟩
            have J8 := Lib.hid hJ8
            clear hJ8 CJ
            go_wp2_with fail
            go_roundw
            case rel => go_light; exact ⟨k + 1, _, _, by omega, by omega, by go_num, J8, I5⟩
            case measure => go_light; simp [intOf]; omega
          · go_roundw
            case rel => go_light; exact ⟨k + 1, _, _, by omega, by omega, by go_num, J5, I5⟩
            case measure => go_light; simp [intOf]; omega
        have hb2 : (kd == 2) = false := by simpa using hk2
        clear hk2
        by_cases hk3 : kd = 3
        · subst hk3
          obtain ⟨S, Q, g2, hj2⟩ := J2.out
          have HJ2 := Lib.hid hj2
          have r0 := hj2.ring.root
          clear hj2
          go_wp2_with fail
          refine (stab_act HJ2.out.ring hI.out.heads an HOK.out.n).mono ?_
          rintro e w5 ⟨v, rfl, _, ⟨g5, hg5⟩, hk5⟩
          have J5 : Hid (Joint W w5 rb mb fb fm _ F) := ⟨_, _, _, HJ2.out.ringStep hg5 hk5⟩
          have I5 := Lib.hid (inv_stabE hI.out an)
          clear hg5 hk5 J2 r0
          go_wp2_with fail
          have CJ := Lib.hid (joint_round (J5).out (I5).out.heads)
          go_wp2_with fail
          · refine CJ.out.mono ?_
            rintro e w8 ⟨rfl, hJ8⟩
            have J8 := Lib.hid hJ8
            clear hJ8 CJ
            go_wp2_with fail
            go_roundw
            case rel => go_light; exact ⟨k + 1, _, _, by omega, by omega, by go_num, J8, I5⟩
            case measure => go_light; simp [intOf]; omega
          · go_roundw
            case rel => go_light; exact ⟨k + 1, _, _, by omega, by omega, by go_num, J5, I5⟩
            case measure => go_light; simp [intOf]; omega
        have hb3 : (kd == 3) = false := by simpa using hk3
        clear hk3
        by_cases hk4 : kd = 4
        · subst hk4
          obtain ⟨S, Q, g2, hj2⟩ := J2.out
          have HJ2 := Lib.hid hj2
          clear hj2
          go_wp2_with fail
          refine (round_at HJ2.out.ring hI.out.heads).mono ?_
          rintro e w5 ⟨rfl, hg5, hk5⟩
          have J5 : Hid (Joint W w5 rb mb fb fm _ F) := ⟨_, _, _, HJ2.out.ringStep hg5 hk5⟩
          have I5 := Lib.hid (inv_round hI.out)
          clear hg5 hk5 J2
          go_wp2_with fail
          have CJ := Lib.hid (joint_round (J5).out (I5).out.heads)
          go_wp2_with fail
          · refine CJ.out.mono ?_
            rintro e w8 ⟨rfl, hJ8⟩
            have J8 := Lib.hid hJ8
            clear hJ8 CJ
            go_wp2_with fail
            go_roundw
            case rel => go_light; exact ⟨k + 1, _, _, by omega, by omega, by go_num, J8, I5⟩
            case measure => go_light; simp [intOf]; omega
          · go_roundw
            case rel => go_light; exact ⟨k + 1, _, _, by omega, by omega, by go_num, J5, I5⟩
            case measure => go_light; simp [intOf]; omega
        have hb4 : (kd == 4) = false := by simpa using hk4
        clear hk4
        have J5 := J2
        clear J2
        have CJ := Lib.hid (joint_round (J5).out (hI).out.heads)
        go_wp2_with fail
        · refine CJ.out.mono ?_
          rintro e w8 ⟨rfl, hJ8⟩
          have J8 := Lib.hid hJ8
          clear hJ8 CJ
          go_wp2_with fail
          go_roundw
          case rel => go_light; exact ⟨k + 1, _, _, by omega, by omega, by go_num, J8, hI⟩
          case measure => go_light; simp [intOf]; omega
        · go_roundw
          case rel => go_light; exact ⟨k + 1, _, _, by omega, by omega, by go_num, J5, hI⟩
          case measure => go_light; simp [intOf]; omega
      · by_cases hlt1 : k < acts.length
        · have hk2 : ¬ ((k : Nat) : Int) < 40 := by omega
          have hnl := length_liveL f'
          obtain ⟨nl, hnl'⟩ : ∃ n, n = (liveL f').length := ⟨_, rfl⟩
          rw [← hnl'] at hnl
          have HN := Lib.hid hnl'
          clear hnl'
          go_wp2_with fail
          go_loopw [15] (fun i wr => ∃ j : Nat, j ≤ 4 * nl + 8 ∧ i = .int .i64 j ∧ Hid (Joint W wr rb mb fb fm (rn j f') F)) (fun i _ => 4 * nl + 8 - (intOf i).toNat)
          case atStart => exact ⟨0, by omega, rfl, hJ.out⟩
          case round =>
            obtain ⟨j, hj, rfl, hJj⟩ := hrel
            obtain ⟨S, Q, g, hq⟩ := hJj.out
            have HQ := Lib.hid hq
            have CLV := live_at hq.ring
            rw [liveL_rn] at CLV
            have hn2 := HN.out
            obtain ⟨L, hL⟩ : ∃ L, L = liveL f' := ⟨_, rfl⟩
            rw [← hL] at CLV hn2
            have CV := Lib.hid CLV
            clear CLV hL hq
            by_cases hlj : j < 4 * nl + 8
            · have hljI : (j : Int) < 4 * (nl : Int) + 8 := by omega
              go_wp2_with fail
              refine CV.out.mono ?_
              rintro e w4 ⟨v4, rfl, hs4, hB4⟩
              obtain ⟨a4, q4, rfl, _⟩ := hs4.slice
              have R4 := Lib.hid (HQ.out.below' hB4)
              rw [← hn2]
              clear hs4 hB4 hn2
              have CR := Lib.hid (round_at R4.out.ring (inv_rn hI.out j).heads)
              go_wp2_with fail
              refine (rounds_any _ (by omega) (by omega) _).mono ?_
              rintro e w5 ⟨rfl, rfl⟩
              go_wp2_with fail
              refine CR.out.mono ?_
              rintro e w5 ⟨rfl, hg5, hk5⟩
              have R5 : Hid (Joint W w5 rb mb fb fm (rn (j + 1) f') F) := ⟨_, _, _, R4.out.ringStep hg5 hk5⟩
              clear hg5 hk5
              go_wp2_with fail
              go_roundw
              case rel => go_light; exact ⟨j + 1, by omega, by go_num, R5.out⟩
              case measure => go_light; simp [intOf]; omega
            have hljI : ¬ (j : Int) < 4 * (nl : Int) + 8 := by omega
            have GD : Hid (Good (rn j f')) := good_rn hI.out (by have := HN.out; omega)
            have HLF : Hid (nl = (liveL (rn j f')).length) := show nl = _ by rw [liveL_rn]; exact HN.out
            obtain ⟨f0, hf0⟩ : ∃ f0, f0 = rn j f' := ⟨_, rfl⟩
            rw [← hf0] at GD HLF HQ
            clear hf0 hJj
            go_wp2_with fail
            refine CV.out.mono ?_
            rintro e w4 ⟨v4, rfl, hs4, hB4⟩
            obtain ⟨a4, q4, rfl, _⟩ := hs4.slice
            have R4 := Lib.hid (HQ.out.below' hB4)
            rw [← hn2]
            clear hs4 hB4 hn2 CV HQ
            go_wp2_with fail
            refine (rounds_any _ (by omega) (by omega) _).mono ?_
            rintro e w5 ⟨rfl, rfl⟩
            go_wp2_with fail
            have hlc : (circ f0).length ≤ 32 := by rw [circ_len]; exact length_liveL f0
            have hfm5 := R4.out.fin.fmz
            refine (of_at R4.out.ring GD.out.inv).mono ?_
            rintro e w5 ⟨av, iv, rfl, hav, hiv, hB5⟩
            obtain ⟨aa, ac, rfl, _⟩ := hav.slice
            obtain ⟨ia, ic, rfl, _⟩ := hiv.slice
            have R5 := Lib.hid (R4.out.below' hB5)
            have UPc : Hid (Up ((circ f0).map (idR f0))) := circ_up GD.out.inv
            go_upto_region 25 with (fail)
            obtain ⟨w6, hw6⟩ : ∃ z, z = w5.alloc (.cells #[.slice aa (circ f0).length ac, .slice ia (circ f0).length ic] 78) := ⟨_, rfl⟩
            obtain ⟨Y, hY⟩ : ∃ z, z = w5.heap.size := ⟨_, rfl⟩
            have b56 : RowKit.Below w5.heap.size w5 w6 := by rw [hw6]; exact bel_alloc (RowKit.Below.refl _ _) _
            have y0 : w6.cell? ⟨Y, 0, none⟩ = some (.slice aa (circ f0).length ac) := by rw [hw6, hY]; simp [go_sem]
            have y1 : w6.cell? ⟨Y, 1, none⟩ = some (.slice ia (circ f0).length ic) := by rw [hw6, hY]; simp [go_sem]
            have yz : Y < w6.heap.size := by rw [hw6, hY]; simp
            have yne : Y ≠ fm := by have := hB5.size; omega
            have J6 : Hid (Joint W w6 rb mb fb fm f0 F) := ⟨_, _, _, R5.out.below' b56⟩
            have AV := Lib.hid fun (wr : World) (hk : Kept (fun b => b = fm) w6 wr) => ((slAt_keptQ (hav.below b56) hk (fun b hb _ e => by omega)).base (Nat.zero_le _))
            have IV := Lib.hid fun (wr : World) (hk : Kept (fun b => b = fm) w6 wr) => (by have := (slAt_keptQ (hiv.below b56) hk (fun b hb _ e => by omega)).base (Nat.zero_le _); simpa using this : SlAt 0 (fun i => .int .u64 (nth ((circ f0).map (idR f0)) i)) ((circ f0).map (idR f0)).length wr (.slice ia (circ f0).length ic))
            have CO := Lib.hid fun (wr : World) (hk : Kept (fun b => b = fm) w6 wr) => cowner_at wr (circ f0) ((circ f0).map (idR f0)) _ _ (AV.out wr hk) (IV.out wr hk) (by simp) (by omega) UPc.out X
            have CF := Lib.hid fun (wr : World) (hk : Kept (fun b => b = fm) w6 wr) (n : Int) (hn : livesR f0 n = true) (k : Nat) (hk64 : k < 64) => finger_own GD.out.inv hn k hk64 ▸ finger_at wr (circ f0) ((circ f0).map (idR f0)) _ _ (AV.out wr hk) (IV.out wr hk) (by simp) (by omega) UPc.out n k
            have YC : Hid (w6.cell? ⟨Y, 0, none⟩ = some (.slice aa (circ f0).length ac) ∧ w6.cell? ⟨Y, 1, none⟩ = some (.slice ia (circ f0).length ic) ∧ Y < w6.heap.size ∧ Y ≠ fm) := ⟨y0, y1, yz, yne⟩
            obtain ⟨cl, hcl⟩ : ∃ cl, cl = (circ f0).length := ⟨_, rfl⟩
            rw [← hw6, ← hY]
            rw [← hcl] at CO CF YC ⊢
            obtain ⟨o, ho⟩ : ∃ z, z = own f0 X := ⟨_, rfl⟩
            have HO := Lib.hid ho
            have hmem := Lib.hid (fun x (hx : x ∈ liveL f0) => (mem_liveL GD.out.inv.dom).1 hx)
            clear hw6 hY b56 y0 y1 yz yne AV IV hcl hav hiv hB5 R5 R4 hljI hlj UPc ho
            go_wp2_with fail
            go_loopw [17] (fun i wr => ∃ (t : Nat) (F : Int → List Int), t ≤ 2 ∧ i = .int .i64 t ∧ Hid (Joint W wr rb mb fb fm f0 F) ∧ Hid (Kept (fun b => b = fm) w6 wr) ∧ Hid (t = 0 ∨ ∀ n, livesR f0 n = true → F n = owL f0 n 64)) (fun i _ => 2 - (intOf i).toNat)
            case atStart => exact ⟨0, F, by omega, rfl, J6, Kept.refl _ _, Or.inl rfl⟩
            case round =>
              obtain ⟨t, F, ht, rfl, hJt, hKt, hRt⟩ := hrel
              obtain ⟨wt, rfl⟩ : ∃ wt : World, wt = wr := ⟨_, rfl⟩
              obtain ⟨S, Q, g, hq⟩ := hJt.out
              have HQ := Lib.hid hq
              have CLV := live_at hq.ring
              obtain ⟨L, hL⟩ : ∃ L, L = liveL f0 := ⟨_, rfl⟩
              rw [← hL] at CLV
              have CV := Lib.hid CLV
              have hml := Lib.hid fun x (hx : x ∈ L) => hmem.out x (hL ▸ hx)
              have hlL : L.length ≤ 32 := by rw [hL]; exact length_liveL f0
              clear CLV hq
              by_cases htt : t < 2
              · have htI : ((t : Nat) : Int) < 2 := by omega
                go_wp2_with fail
                refine CV.out.mono ?_
                rintro e w7 ⟨v7, rfl, hs7, hB7⟩
                obtain ⟨a7, q7, rfl, _⟩ := hs7.slice
                have Q7 := Lib.hid (HQ.out.below' hB7)
                have K7 : Hid (Kept (fun b => b = fm) w6 w7) := hKt.out.below hB7
                have S7 := Lib.hid (hs7.base (Nat.zero_le _))
                clear hs7 hB7 CV hL
                go_wp2_with fail
                go_loopw [105] (fun i wr => ∃ k : Nat, k ≤ L.length ∧ i = .int .i64 k ∧ Hid (RowKit.Below w7.heap.size w7 wr)) (fun i _ => L.length - (intOf i).toNat)
                case atStart => exact ⟨0, Nat.zero_le _, rfl, RowKit.Below.refl _ _⟩
                case round =>
                  obtain ⟨k, hk, rfl, hB⟩ := hrel
                  by_cases hlt : k < L.length
                  · obtain ⟨b, off, rfl, _, hbz, hck⟩ := S7.out.at k hlt wr hB.out
                    have hly := hml.out _ (nth_mem.2 ⟨k, hlt, rfl⟩)
                    have hdy := livesR_dom GD.out.inv.dom hly
                    obtain ⟨y, hy⟩ : ∃ z, z = nth L k := ⟨_, rfl⟩
                    rw [← hy] at hck hly hdy
                    have Qr := Lib.hid (Q7.out.below' hB.out)
                    have Kr : Hid (Kept (fun b => b = fm) w6 wr) := K7.out.below hB.out
                    obtain ⟨l, hl, hGW⟩ := good_path GD.out F hX hly
                    have hW := (path_way _ _ _ hl).1
                    have hl32 := good_len GD.out hGW
                    rw [← HLF.out] at hl32
                    have CP := Lib.hid (path_some Qr.out.ring Qr.out.fin GD.out.inv.heads y X (okInt_dom (by omega) (by omega)) hly hl)
                    have hlast : Hid (nth l (l.length - 1) = o) := show _ = o by rw [HO.out]; exact hGW.last
                    have hpos := hW.pos
                    have HND := Lib.hid hGW.nodup
                    clear hy hly hdy hl hGW hW
                    go_wp2_with fail
                    refine CP.out.mono ?_
                    rintro e w8 ⟨v8, rfl, hs8, hb8⟩
                    obtain ⟨a8, c8, rfl, _⟩ := hs8.slice
                    obtain ⟨b8, o8, rfl, _, hz8, hc8⟩ := hs8.at (l.length - 1) (by omega) w8 (RowKit.Below.refl _ _)
                    rw [hlast.out] at hc8
                    have S8 := Lib.hid (hs8.base (Nat.zero_le _))
                    have K8 : Hid (Kept (fun b => b = fm) w6 w8) := Kr.out.below hb8
                    have y0 := (cell_blk 0 (K8.out.block Y YC.out.2.2.1 YC.out.2.2.2)).trans YC.out.1
                    have y1 := (cell_blk 1 (K8.out.block Y YC.out.2.2.1 YC.out.2.2.2)).trans YC.out.2.1
                    have yz := Nat.lt_of_lt_of_le YC.out.2.2.1 K8.out.size
                    have B8 := Lib.hid (bel_below hB.out hb8)
                    have C1 := Lib.hid fun wr' (hb : RowKit.Below w8.heap.size w8 wr') => CO.out wr' (K8.out.below hb)
                    rw [← show o = cOwner (circ f0) ((circ f0).map (idR f0)) X from HO.out] at C1
                    have C2 := Lib.hid fun wr' (hb : RowKit.Below w8.heap.size w8 wr') => twice_any wr' _ l (S8.out.below hb) (by omega) HND.out
                    obtain ⟨m, hm⟩ : ∃ m, l.length = m + 1 := ⟨l.length - 1, by omega⟩
                    have hl32' : m + 1 ≤ nl := by omega
                    have hL1 : ¬ ((m : Nat) : Int) + 1 < 1 := by omega
                    have hL2 : ¬ (((m + 1 : Nat)) : Int) < 1 := by omega
                    have hL3 : ((m : Nat) : Int) < ((m : Nat) : Int) + 1 := by omega
                    have hL4 : m < m + 1 := by omega
                    have hmw : IntKind.i64.wrap ((m : Nat) : Int) = ((m : Nat) : Int) := by rw [IntKind.wrap_i64]; omega
                    rw [hm] at hc8 C2 ⊢
                    rw [Nat.add_sub_cancel] at hc8
                    clear hs8 hb8 CP hck hbz hlast hl32 hpos hm S8
                    go_wp2_with fail
                    refine wp_region_calm (by kernel_rfl) (by kernel_rfl) ?_
                    repeat (first | (go_big_quiet_step ((first | (go_at_call 35; exact calls_calm (C1.out _ (by (repeat (first | exact Below.refl _ _ | (with_reducible assumption) | (with_reducible refine bel_later ?_ _) | (with_reducible refine bel_alloc ?_ _) | (with_reducible refine bel_drew ?_) | (with_reducible refine bel_drewN ?_ _) | (with_reducible refine bel_set ?_ (by first | (simp; done) | (simp; omega) | (dsimp only; omega)) _)))))) | (go_at_call 39; exact calls_calm (C2.out _ (by (repeat (first | exact Below.refl _ _ | (with_reducible assumption) | (with_reducible refine bel_later ?_ _) | (with_reducible refine bel_alloc ?_ _) | (with_reducible refine bel_drew ?_) | (with_reducible refine bel_drewN ?_ _) | (with_reducible refine bel_set ?_ (by first | (simp; done) | (simp; omega) | (dsimp only; omega)) _))))))))) | (refine wpQuiet_step (fun K hK => ?_); go_simp; first | (refine hK _ ?_; clear hK K) | (apply Exists.intro; refine ⟨fun _ => ?_, hK _ ?_⟩; (first | (go_at_call 35; exact calls_calm (C1.out _ (by (repeat (first | exact Below.refl _ _ | (with_reducible assumption) | (with_reducible refine bel_later ?_ _) | (with_reducible refine bel_alloc ?_ _) | (with_reducible refine bel_drew ?_) | (with_reducible refine bel_drewN ?_ _) | (with_reducible refine bel_set ?_ (by first | (simp; done) | (simp; omega) | (dsimp only; omega)) _)))))) | (go_at_call 39; exact calls_calm (C2.out _ (by (repeat (first | exact Below.refl _ _ | (with_reducible assumption) | (with_reducible refine bel_later ?_ _) | (with_reducible refine bel_alloc ?_ _) | (with_reducible refine bel_drew ?_) | (with_reducible refine bel_drewN ?_ _) | (with_reducible refine bel_set ?_ (by first | (simp; done) | (simp; omega) | (dsimp only; omega)) _))))))); clear hK K)))
                    refine wpQuiet_nil ?_
                    intro _ hw'
                    obtain ⟨xq, hw''⟩ := hw'
                    subst hw''
                    obtain ⟨wy, hby⟩ := xq
                    dsimp only
                    have BY := Lib.hid (bel_below B8.out hby)
                    clear hby C1 C2 hc8 y0 y1 yz K8 B8
                    go_wp2_with fail
                    go_roundw
                    case rel => go_light; exact ⟨k + 1, by omega, by go_num, BY⟩
                    case measure => go_light; simp [intOf]; omega
                  · obtain rfl : k = L.length := by omega
                    have Jr : Joint W wr rb mb fb fm f0 F := ⟨_, _, _, Q7.out.below' hB.out⟩
                    have Kr : Hid (Kept (fun b => b = fm) w6 wr) := K7.out.below hB.out
                    obtain ⟨S2, Q2, g2, hj2⟩ := Jr
                    have HJ2 := Lib.hid hj2
                    have CR := Lib.hid (roundf_at hj2.ring hj2.fin GD.out.inv.heads hj2.fmS)
                    clear hj2
                    go_wp2_with fail
                    refine CR.out.mono ?_
                    rintro e w8 ⟨rfl, hf8, hk8⟩
                    have J8 : Hid (Joint W w8 rb mb fb fm f0 (fixes f0 F (liveL f0))) := ⟨_, _, _, HJ2.out.finStep hf8 hk8⟩
                    have K8 : Hid (Kept (fun b => b = fm) w6 w8) := Kr.out.trans hk8
                    have F8 : Hid (t + 1 = 0 ∨ ∀ n, livesR f0 n = true → fixes f0 F (liveL f0) n = owL f0 n 64) := Or.inr fun n hn => fixes_right GD.out _ F n (fun x hx => hmem.out x hx) (Or.inl ((mem_liveL GD.out.inv.dom).2 hn))
                    clear hf8 hk8 CR
                    go_wp2_with fail
                    go_roundw
                    case rel => go_light; exact ⟨t + 1, _, by omega, by go_num, J8, K8, F8⟩
                    case measure => go_light; simp [intOf]; omega
              · obtain rfl : t = 2 := by omega
                have htI : ¬ ((2 : Nat) : Int) < 2 := by omega
                have hFR := Lib.hid (hRt.out.resolve_left (by decide))
                go_wp2_with fail
                refine CV.out.mono ?_
                rintro e w7 ⟨v7, rfl, hs7, hB7⟩
                obtain ⟨a7, q7, rfl, _⟩ := hs7.slice
                have Q7 := Lib.hid (HQ.out.below' hB7)
                have K7 : Hid (Kept (fun b => b = fm) w6 w7) := hKt.out.below hB7
                have S7 := Lib.hid (hs7.base (Nat.zero_le _))
                clear hs7 hB7 CV hL
                go_wp2_with fail
                go_loopw [146] (fun i wr => ∃ k : Nat, k ≤ L.length ∧ i = .int .i64 k ∧ Hid (RowKit.Below w7.heap.size w7 wr)) (fun i _ => L.length - (intOf i).toNat)
                case atStart => exact ⟨0, Nat.zero_le _, rfl, RowKit.Below.refl _ _⟩
                case round =>
                  obtain ⟨k, hk, rfl, hB⟩ := hrel
                  by_cases hlt : k < L.length
                  · obtain ⟨b, off, rfl, _, hbz, hck⟩ := S7.out.at k hlt wr hB.out
                    have hly := hml.out _ (nth_mem.2 ⟨k, hlt, rfl⟩)
                    have hdy := livesR_dom GD.out.inv.dom hly
                    obtain ⟨y, hy⟩ : ∃ z, z = nth L k := ⟨_, rfl⟩
                    rw [← hy] at hck hly hdy
                    have HLY := Lib.hid hly
                    have OKY : Hid (okInt y) := okInt_dom (by omega) (by omega)
                    obtain ⟨wo, rfl⟩ : ∃ wo : World, wo = wr := ⟨_, rfl⟩
                    clear hy hly hdy
                    go_wp2_with fail
                    have O0 : Hid ((wo.alloc (.cells #[] 3)).ownsRow wo.heap.size 3 1 (.slice (some ⟨wo.heap.size, 0, none⟩) 0 0) (owL f0 y 0).length ((owL f0 y 0).map (Value.int .i64))) := own_nil _ _ _ _ _ rfl (Nat.le_refl _)
                    have B0 : Hid (RowKit.Below wo.heap.size wo (wo.alloc (.cells #[] 3))) := bel_alloc (RowKit.Below.refl _ _) _
                    go_loopw [24, 25] (fun v i wr => ∃ j : Nat, j ≤ 64 ∧ i = .int .i64 j ∧ Hid (wr.ownsRow wo.heap.size 3 1 v (owL f0 y j).length ((owL f0 y j).map (Value.int .i64))) ∧ Hid (RowKit.Below wo.heap.size wo wr)) (fun _ i _ => 64 - (intOf i).toNat)
                    case atStart => exact ⟨0, by omega, rfl, O0, B0⟩
                    case round =>
                      obtain ⟨j, hj, rfl, hO, hBj⟩ := hrel
                      have Kj : Hid (Kept (fun b => b = fm) w6 wr) := K7.out.below (bel_below hB.out hBj.out)
                      by_cases hj64 : j < 64
                      · have hjI : ((j : Nat) : Int) < 64 := by omega
                        have y0 := (cell_blk 0 (Kj.out.block Y YC.out.2.2.1 YC.out.2.2.2)).trans YC.out.1
                        have y1 := (cell_blk 1 (Kj.out.block Y YC.out.2.2.1 YC.out.2.2.2)).trans YC.out.2.1
                        have yz := Nat.lt_of_lt_of_le YC.out.2.2.1 Kj.out.size
                        have CFj := CF.out wr Kj.out y HLY.out j hj64
                        have hsu := owL_succ f0 y j
                        obtain ⟨o2, ho2⟩ : ∃ z, z = own f0 (startR (idR f0 y) j) := ⟨_, rfl⟩
                        rw [← ho2] at CFj hsu
                        have hlo := owL_len f0 y j
                        obtain ⟨l, hl⟩ : ∃ z, z = owL f0 y j := ⟨_, rfl⟩
                        rw [← hl] at hsu hlo hO
                        have HSU := Lib.hid hsu
                        have CFJ := Lib.hid CFj
                        clear CFj hsu ho2 hl
                        go_wp2_with fail
                        refine CFJ.out.mono ?_
                        rintro e w8 ⟨rfl, hb8⟩
                        have O8 := Lib.hid (owns_below hO.out hb8)
                        have B8 := Lib.hid (bel_below hBj.out hb8)
                        clear hb8 hO hBj y0 y1 yz CFJ
                        have hsl8 := Lib.hid (own_ints O8.out)
                        obtain ⟨a8, c8, rfl, _⟩ := hsl8.out.slice
                        by_cases h0 : l.length = 0
                        · have hE : Hid (owL f0 y (j + 1) = l ++ [o2]) := show _ = _ by rw [HSU.out]; unfold addF; rw [if_neg (by omega)]
                          have h0b : (((l.length : Nat) : Int) == 0) = true := by rw [beq_iff_eq]; omega
                          clear h0
                          go_wp2_with (at_builtin; refine wpList_app rfl _ _ 39 rfl wo.heap.size 3 i0 (.int .i64 0) 8 Tryz.underlying39 hi0 hz0 hz1 hz2 rfl _ l.length _ rfl (O8.out.alloc _) 0 _ 1 _ rfl (sl_new _ .i64 [o2] 3 _ 1 rfl rfl (by simp [maxLen])) (fun _ => rfl) ?qc1 ?qc2 ?qc3 ?_)
                          case qc1 => simp only [maxLen]; omega
                          case qc2 => omega
                          case qc3 => have := B8.out.size; simp; omega
                          intro v' w9 ho9 hg9
                          have B9 : Hid (RowKit.Below wo.heap.size wo w9) := (bel_alloc B8.out _).grown hg9 (by have := B8.out.size; simp; omega) (fun q hq => (O8.out.lt q hq).1)
                          have HO9 := Lib.hid ho9
                          clear ho9 hg9
                          go_wp2_with fail
                          go_roundw
                          case rel =>
                            go_light
                            refine ⟨j + 1, by omega, by go_num, ?_, B9⟩
                            have := HO9.out
                            show World.ownsRow _ _ _ _ _ _ _
                            rw [hE.out]
                            simpa [nth] using this
                          case measure => go_light; simp [intOf]; omega
                        · obtain ⟨b8, o8, rfl, _, hz8, hc8⟩ := hsl8.out.at (l.length - 1) (by omega) w8 (RowKit.Below.refl _ _)
                          have h0b : (((l.length : Nat) : Int) == 0) = false := by rw [beq_eq_false_iff_ne]; omega
                          have hcast : ((l.length : Nat) : Int) - 1 = ((l.length - 1 : Nat) : Int) := by omega
                          have hl1 : l.length - 1 < l.length := by omega
                          obtain ⟨x, hx⟩ : ∃ z, z = nth l (l.length - 1) := ⟨_, rfl⟩
                          have HXL : Hid (x = lastL l) := hx
                          rw [← hx] at hc8
                          clear hx
                          by_cases hxo : x = o2
                          · have hE : Hid (owL f0 y (j + 1) = l) := show _ = _ by rw [HSU.out]; unfold addF; rw [if_pos ⟨by omega, by rw [← HXL.out]; exact hxo⟩]
                            have hxb : (x != o2) = false := by simpa using hxo
                            clear hxo
                            go_wp2_with fail
                            go_roundw
                            case rel =>
                              go_light
                              refine ⟨j + 1, by omega, by go_num, ?_, B8⟩
                              show World.ownsRow _ _ _ _ _ _ _
                              rw [hE.out]; exact O8.out
                            case measure => go_light; simp [intOf]; omega
                          · have hE : Hid (owL f0 y (j + 1) = l ++ [o2]) := show _ = _ by rw [HSU.out]; unfold addF; rw [if_neg (fun h => hxo (by rw [HXL.out]; exact h.2))]
                            have hxb : (x != o2) = true := by simpa using hxo
                            clear hxo
                            go_wp2_with (at_builtin; refine wpList_app rfl _ _ 39 rfl wo.heap.size 3 i0 (.int .i64 0) 8 Tryz.underlying39 hi0 hz0 hz1 hz2 rfl _ l.length _ rfl (O8.out.alloc _) 0 _ 1 _ rfl (sl_new _ .i64 [o2] 3 _ 1 rfl rfl (by simp [maxLen])) (fun _ => rfl) ?qc1 ?qc2 ?qc3 ?_)
                            case qc1 => simp only [maxLen]; omega
                            case qc2 => omega
                            case qc3 => have := B8.out.size; simp; omega
                            intro v' w9 ho9 hg9
                            have B9 : Hid (RowKit.Below wo.heap.size wo w9) := (bel_alloc B8.out _).grown hg9 (by have := B8.out.size; simp; omega) (fun q hq => (O8.out.lt q hq).1)
                            have HO9 := Lib.hid ho9
                            clear ho9 hg9
                            go_wp2_with fail
                            go_roundw
                            case rel =>
                              go_light
                              refine ⟨j + 1, by omega, by go_num, ?_, B9⟩
                              have := HO9.out
                              show World.ownsRow _ _ _ _ _ _ _
                              rw [hE.out]
                              simpa [nth] using this
                            case measure => go_light; simp [intOf]; omega
                      · obtain rfl : j = 64 := by omega
                        have hjI : ¬ ((64 : Nat) : Int) < 64 := by omega
                        have Qr := Lib.hid (Q7.out.below' (bel_below hB.out hBj.out))
                        have CO1 := Lib.hid (off_at Qr.out.fin y OKY.out)
                        rw [hFR.out y HLY.out] at CO1
                        obtain ⟨l, hl⟩ : ∃ z, z = owL f0 y 64 := ⟨_, rfl⟩
                        have hlo := owL_len f0 y 64
                        rw [← hl] at hlo CO1 hO
                        clear hl
                        go_wp2_with fail
                        refine CO1.out.mono ?_
                        rintro e w8 ⟨v8, rfl, hs8, hb8⟩
                        obtain ⟨a8, c8, rfl, _⟩ := hs8.slice
                        have S8 := Lib.hid (hs8.base (Nat.zero_le _))
                        have O8 := Lib.hid ((own_ints (owns_below hO.out hb8)).base (Nat.zero_le _))
                        have B8 := Lib.hid (bel_below hBj.out hb8)
                        clear hs8 hb8 CO1 hO
                        go_wp2_with fail
                        refine (rints_any _ _ _ l l S8.out O8.out (by omega)).mono ?_
                        rw [show sameI l l = true by simp [sameI]]
                        rintro e w9 ⟨rfl, hb9⟩
                        have B9 := Lib.hid (bel_below hB.out (bel_below B8.out hb9))
                        clear hb9
                        go_wp2_with fail
                        go_roundw
                        case rel => go_light; exact ⟨k + 1, by omega, by go_num, B9⟩
                        case measure => go_light; simp [intOf]; omega
                  · obtain rfl : k = L.length := by omega
                    have BE := Lib.hid (Q7.out.below' hB.out).below
                    go_wp2_with fail
                    refine (awake12_any _).mono ?_
                    rintro e wA ⟨rfl, hbA⟩
                    go_wp2_with fail
                    go_ret
                    exact ⟨rfl, bel_below BE.out hbA⟩
        · have hk2 : ¬ ((k : Nat) : Int) < (acts.length : Int) := by omega
          have hnl := length_liveL f'
          obtain ⟨nl, hnl'⟩ : ∃ n, n = (liveL f').length := ⟨_, rfl⟩
          rw [← hnl'] at hnl
          have HN := Lib.hid hnl'
          clear hnl'
          go_wp2_with fail
          go_loopw [15] (fun i wr => ∃ j : Nat, j ≤ 4 * nl + 8 ∧ i = .int .i64 j ∧ Hid (Joint W wr rb mb fb fm (rn j f') F)) (fun i _ => 4 * nl + 8 - (intOf i).toNat)
          case atStart => exact ⟨0, by omega, rfl, hJ.out⟩
          case round =>
            obtain ⟨j, hj, rfl, hJj⟩ := hrel
            obtain ⟨S, Q, g, hq⟩ := hJj.out
            have HQ := Lib.hid hq
            have CLV := live_at hq.ring
            rw [liveL_rn] at CLV
            have hn2 := HN.out
            obtain ⟨L, hL⟩ : ∃ L, L = liveL f' := ⟨_, rfl⟩
            rw [← hL] at CLV hn2
            have CV := Lib.hid CLV
            clear CLV hL hq
            by_cases hlj : j < 4 * nl + 8
            · have hljI : (j : Int) < 4 * (nl : Int) + 8 := by omega
              go_wp2_with fail
              refine CV.out.mono ?_
              rintro e w4 ⟨v4, rfl, hs4, hB4⟩
              obtain ⟨a4, q4, rfl, _⟩ := hs4.slice
              have R4 := Lib.hid (HQ.out.below' hB4)
              rw [← hn2]
              clear hs4 hB4 hn2
              have CR := Lib.hid (round_at R4.out.ring (inv_rn hI.out j).heads)
              go_wp2_with fail
              refine (rounds_any _ (by omega) (by omega) _).mono ?_
              rintro e w5 ⟨rfl, rfl⟩
              go_wp2_with fail
              refine CR.out.mono ?_
              rintro e w5 ⟨rfl, hg5, hk5⟩
              have R5 : Hid (Joint W w5 rb mb fb fm (rn (j + 1) f') F) := ⟨_, _, _, R4.out.ringStep hg5 hk5⟩
              clear hg5 hk5
              go_wp2_with fail
              go_roundw
              case rel => go_light; exact ⟨j + 1, by omega, by go_num, R5.out⟩
              case measure => go_light; simp [intOf]; omega
            have hljI : ¬ (j : Int) < 4 * (nl : Int) + 8 := by omega
            have GD : Hid (Good (rn j f')) := good_rn hI.out (by have := HN.out; omega)
            have HLF : Hid (nl = (liveL (rn j f')).length) := show nl = _ by rw [liveL_rn]; exact HN.out
            obtain ⟨f0, hf0⟩ : ∃ f0, f0 = rn j f' := ⟨_, rfl⟩
            rw [← hf0] at GD HLF HQ
            clear hf0 hJj
            go_wp2_with fail
            refine CV.out.mono ?_
            rintro e w4 ⟨v4, rfl, hs4, hB4⟩
            obtain ⟨a4, q4, rfl, _⟩ := hs4.slice
            have R4 := Lib.hid (HQ.out.below' hB4)
            rw [← hn2]
            clear hs4 hB4 hn2 CV HQ
            go_wp2_with fail
            refine (rounds_any _ (by omega) (by omega) _).mono ?_
            rintro e w5 ⟨rfl, rfl⟩
            go_wp2_with fail
            have hlc : (circ f0).length ≤ 32 := by rw [circ_len]; exact length_liveL f0
            have hfm5 := R4.out.fin.fmz
            refine (of_at R4.out.ring GD.out.inv).mono ?_
            rintro e w5 ⟨av, iv, rfl, hav, hiv, hB5⟩
            obtain ⟨aa, ac, rfl, _⟩ := hav.slice
            obtain ⟨ia, ic, rfl, _⟩ := hiv.slice
            have R5 := Lib.hid (R4.out.below' hB5)
            have UPc : Hid (Up ((circ f0).map (idR f0))) := circ_up GD.out.inv
            go_upto_region 25 with (fail)
            obtain ⟨w6, hw6⟩ : ∃ z, z = w5.alloc (.cells #[.slice aa (circ f0).length ac, .slice ia (circ f0).length ic] 78) := ⟨_, rfl⟩
            obtain ⟨Y, hY⟩ : ∃ z, z = w5.heap.size := ⟨_, rfl⟩
            have b56 : RowKit.Below w5.heap.size w5 w6 := by rw [hw6]; exact bel_alloc (RowKit.Below.refl _ _) _
            have y0 : w6.cell? ⟨Y, 0, none⟩ = some (.slice aa (circ f0).length ac) := by rw [hw6, hY]; simp [go_sem]
            have y1 : w6.cell? ⟨Y, 1, none⟩ = some (.slice ia (circ f0).length ic) := by rw [hw6, hY]; simp [go_sem]
            have yz : Y < w6.heap.size := by rw [hw6, hY]; simp
            have yne : Y ≠ fm := by have := hB5.size; omega
            have J6 : Hid (Joint W w6 rb mb fb fm f0 F) := ⟨_, _, _, R5.out.below' b56⟩
            have AV := Lib.hid fun (wr : World) (hk : Kept (fun b => b = fm) w6 wr) => ((slAt_keptQ (hav.below b56) hk (fun b hb _ e => by omega)).base (Nat.zero_le _))
            have IV := Lib.hid fun (wr : World) (hk : Kept (fun b => b = fm) w6 wr) => (by have := (slAt_keptQ (hiv.below b56) hk (fun b hb _ e => by omega)).base (Nat.zero_le _); simpa using this : SlAt 0 (fun i => .int .u64 (nth ((circ f0).map (idR f0)) i)) ((circ f0).map (idR f0)).length wr (.slice ia (circ f0).length ic))
            have CO := Lib.hid fun (wr : World) (hk : Kept (fun b => b = fm) w6 wr) => cowner_at wr (circ f0) ((circ f0).map (idR f0)) _ _ (AV.out wr hk) (IV.out wr hk) (by simp) (by omega) UPc.out X
            have CF := Lib.hid fun (wr : World) (hk : Kept (fun b => b = fm) w6 wr) (n : Int) (hn : livesR f0 n = true) (k : Nat) (hk64 : k < 64) => finger_own GD.out.inv hn k hk64 ▸ finger_at wr (circ f0) ((circ f0).map (idR f0)) _ _ (AV.out wr hk) (IV.out wr hk) (by simp) (by omega) UPc.out n k
            have YC : Hid (w6.cell? ⟨Y, 0, none⟩ = some (.slice aa (circ f0).length ac) ∧ w6.cell? ⟨Y, 1, none⟩ = some (.slice ia (circ f0).length ic) ∧ Y < w6.heap.size ∧ Y ≠ fm) := ⟨y0, y1, yz, yne⟩
            obtain ⟨cl, hcl⟩ : ∃ cl, cl = (circ f0).length := ⟨_, rfl⟩
            rw [← hw6, ← hY]
            rw [← hcl] at CO CF YC ⊢
            obtain ⟨o, ho⟩ : ∃ z, z = own f0 X := ⟨_, rfl⟩
            have HO := Lib.hid ho
            have hmem := Lib.hid (fun x (hx : x ∈ liveL f0) => (mem_liveL GD.out.inv.dom).1 hx)
            clear hw6 hY b56 y0 y1 yz yne AV IV hcl hav hiv hB5 R5 R4 hljI hlj UPc ho
            go_wp2_with fail
            go_loopw [17] (fun i wr => ∃ (t : Nat) (F : Int → List Int), t ≤ 2 ∧ i = .int .i64 t ∧ Hid (Joint W wr rb mb fb fm f0 F) ∧ Hid (Kept (fun b => b = fm) w6 wr) ∧ Hid (t = 0 ∨ ∀ n, livesR f0 n = true → F n = owL f0 n 64)) (fun i _ => 2 - (intOf i).toNat)
            case atStart => exact ⟨0, F, by omega, rfl, J6, Kept.refl _ _, Or.inl rfl⟩
            case round =>
              obtain ⟨t, F, ht, rfl, hJt, hKt, hRt⟩ := hrel
              obtain ⟨wt, rfl⟩ : ∃ wt : World, wt = wr := ⟨_, rfl⟩
              obtain ⟨S, Q, g, hq⟩ := hJt.out
              have HQ := Lib.hid hq
              have CLV := live_at hq.ring
              obtain ⟨L, hL⟩ : ∃ L, L = liveL f0 := ⟨_, rfl⟩
              rw [← hL] at CLV
              have CV := Lib.hid CLV
              have hml := Lib.hid fun x (hx : x ∈ L) => hmem.out x (hL ▸ hx)
              have hlL : L.length ≤ 32 := by rw [hL]; exact length_liveL f0
              clear CLV hq
              by_cases htt : t < 2
              · have htI : ((t : Nat) : Int) < 2 := by omega
                go_wp2_with fail
                refine CV.out.mono ?_
                rintro e w7 ⟨v7, rfl, hs7, hB7⟩
                obtain ⟨a7, q7, rfl, _⟩ := hs7.slice
                have Q7 := Lib.hid (HQ.out.below' hB7)
                have K7 : Hid (Kept (fun b => b = fm) w6 w7) := hKt.out.below hB7
                have S7 := Lib.hid (hs7.base (Nat.zero_le _))
                clear hs7 hB7 CV hL
                go_wp2_with fail
                go_loopw [105] (fun i wr => ∃ k : Nat, k ≤ L.length ∧ i = .int .i64 k ∧ Hid (RowKit.Below w7.heap.size w7 wr)) (fun i _ => L.length - (intOf i).toNat)
                case atStart => exact ⟨0, Nat.zero_le _, rfl, RowKit.Below.refl _ _⟩
                case round =>
                  obtain ⟨k, hk, rfl, hB⟩ := hrel
                  by_cases hlt : k < L.length
                  · obtain ⟨b, off, rfl, _, hbz, hck⟩ := S7.out.at k hlt wr hB.out
                    have hly := hml.out _ (nth_mem.2 ⟨k, hlt, rfl⟩)
                    have hdy := livesR_dom GD.out.inv.dom hly
                    obtain ⟨y, hy⟩ : ∃ z, z = nth L k := ⟨_, rfl⟩
                    rw [← hy] at hck hly hdy
                    have Qr := Lib.hid (Q7.out.below' hB.out)
                    have Kr : Hid (Kept (fun b => b = fm) w6 wr) := K7.out.below hB.out
                    obtain ⟨l, hl, hGW⟩ := good_path GD.out F hX hly
                    have hW := (path_way _ _ _ hl).1
                    have hl32 := good_len GD.out hGW
                    rw [← HLF.out] at hl32
                    have CP := Lib.hid (path_some Qr.out.ring Qr.out.fin GD.out.inv.heads y X (okInt_dom (by omega) (by omega)) hly hl)
                    have hlast : Hid (nth l (l.length - 1) = o) := show _ = o by rw [HO.out]; exact hGW.last
                    have hpos := hW.pos
                    have HND := Lib.hid hGW.nodup
                    clear hy hly hdy hl hGW hW
                    go_wp2_with fail
                    refine CP.out.mono ?_
                    rintro e w8 ⟨v8, rfl, hs8, hb8⟩
                    obtain ⟨a8, c8, rfl, _⟩ := hs8.slice
                    obtain ⟨b8, o8, rfl, _, hz8, hc8⟩ := hs8.at (l.length - 1) (by omega) w8 (RowKit.Below.refl _ _)
                    rw [hlast.out] at hc8
                    have S8 := Lib.hid (hs8.base (Nat.zero_le _))
                    have K8 : Hid (Kept (fun b => b = fm) w6 w8) := Kr.out.below hb8
                    have y0 := (cell_blk 0 (K8.out.block Y YC.out.2.2.1 YC.out.2.2.2)).trans YC.out.1
                    have y1 := (cell_blk 1 (K8.out.block Y YC.out.2.2.1 YC.out.2.2.2)).trans YC.out.2.1
                    have yz := Nat.lt_of_lt_of_le YC.out.2.2.1 K8.out.size
                    have B8 := Lib.hid (bel_below hB.out hb8)
                    have C1 := Lib.hid fun wr' (hb : RowKit.Below w8.heap.size w8 wr') => CO.out wr' (K8.out.below hb)
                    rw [← show o = cOwner (circ f0) ((circ f0).map (idR f0)) X from HO.out] at C1
                    have C2 := Lib.hid fun wr' (hb : RowKit.Below w8.heap.size w8 wr') => twice_any wr' _ l (S8.out.below hb) (by omega) HND.out
                    obtain ⟨m, hm⟩ : ∃ m, l.length = m + 1 := ⟨l.length - 1, by omega⟩
                    have hl32' : m + 1 ≤ nl := by omega
                    have hL1 : ¬ ((m : Nat) : Int) + 1 < 1 := by omega
                    have hL2 : ¬ (((m + 1 : Nat)) : Int) < 1 := by omega
                    have hL3 : ((m : Nat) : Int) < ((m : Nat) : Int) + 1 := by omega
                    have hL4 : m < m + 1 := by omega
                    have hmw : IntKind.i64.wrap ((m : Nat) : Int) = ((m : Nat) : Int) := by rw [IntKind.wrap_i64]; omega
                    rw [hm] at hc8 C2 ⊢
                    rw [Nat.add_sub_cancel] at hc8
                    clear hs8 hb8 CP hck hbz hlast hl32 hpos hm S8
                    go_wp2_with fail
                    refine wp_region_calm (by kernel_rfl) (by kernel_rfl) ?_
                    repeat (first | (go_big_quiet_step ((first | (go_at_call 35; exact calls_calm (C1.out _ (by (repeat (first | exact Below.refl _ _ | (with_reducible assumption) | (with_reducible refine bel_later ?_ _) | (with_reducible refine bel_alloc ?_ _) | (with_reducible refine bel_drew ?_) | (with_reducible refine bel_drewN ?_ _) | (with_reducible refine bel_set ?_ (by first | (simp; done) | (simp; omega) | (dsimp only; omega)) _)))))) | (go_at_call 39; exact calls_calm (C2.out _ (by (repeat (first | exact Below.refl _ _ | (with_reducible assumption) | (with_reducible refine bel_later ?_ _) | (with_reducible refine bel_alloc ?_ _) | (with_reducible refine bel_drew ?_) | (with_reducible refine bel_drewN ?_ _) | (with_reducible refine bel_set ?_ (by first | (simp; done) | (simp; omega) | (dsimp only; omega)) _))))))))) | (refine wpQuiet_step (fun K hK => ?_); go_simp; first | (refine hK _ ?_; clear hK K) | (apply Exists.intro; refine ⟨fun _ => ?_, hK _ ?_⟩; (first | (go_at_call 35; exact calls_calm (C1.out _ (by (repeat (first | exact Below.refl _ _ | (with_reducible assumption) | (with_reducible refine bel_later ?_ _) | (with_reducible refine bel_alloc ?_ _) | (with_reducible refine bel_drew ?_) | (with_reducible refine bel_drewN ?_ _) | (with_reducible refine bel_set ?_ (by first | (simp; done) | (simp; omega) | (dsimp only; omega)) _)))))) | (go_at_call 39; exact calls_calm (C2.out _ (by (repeat (first | exact Below.refl _ _ | (with_reducible assumption) | (with_reducible refine bel_later ?_ _) | (with_reducible refine bel_alloc ?_ _) | (with_reducible refine bel_drew ?_) | (with_reducible refine bel_drewN ?_ _) | (with_reducible refine bel_set ?_ (by first | (simp; done) | (simp; omega) | (dsimp only; omega)) _))))))); clear hK K)))
                    refine wpQuiet_nil ?_
                    intro _ hw'
                    obtain ⟨xq, hw''⟩ := hw'
                    subst hw''
                    obtain ⟨wy, hby⟩ := xq
                    dsimp only
                    have BY := Lib.hid (bel_below B8.out hby)
                    clear hby C1 C2 hc8 y0 y1 yz K8 B8
                    go_wp2_with fail
                    go_roundw
                    case rel => go_light; exact ⟨k + 1, by omega, by go_num, BY⟩
                    case measure => go_light; simp [intOf]; omega
                  · obtain rfl : k = L.length := by omega
                    have Jr : Joint W wr rb mb fb fm f0 F := ⟨_, _, _, Q7.out.below' hB.out⟩
                    have Kr : Hid (Kept (fun b => b = fm) w6 wr) := K7.out.below hB.out
                    obtain ⟨S2, Q2, g2, hj2⟩ := Jr
                    have HJ2 := Lib.hid hj2
                    have CR := Lib.hid (roundf_at hj2.ring hj2.fin GD.out.inv.heads hj2.fmS)
                    clear hj2
                    go_wp2_with fail
                    refine CR.out.mono ?_
                    rintro e w8 ⟨rfl, hf8, hk8⟩
                    have J8 : Hid (Joint W w8 rb mb fb fm f0 (fixes f0 F (liveL f0))) := ⟨_, _, _, HJ2.out.finStep hf8 hk8⟩
                    have K8 : Hid (Kept (fun b => b = fm) w6 w8) := Kr.out.trans hk8
                    have F8 : Hid (t + 1 = 0 ∨ ∀ n, livesR f0 n = true → fixes f0 F (liveL f0) n = owL f0 n 64) := Or.inr fun n hn => fixes_right GD.out _ F n (fun x hx => hmem.out x hx) (Or.inl ((mem_liveL GD.out.inv.dom).2 hn))
                    clear hf8 hk8 CR
                    go_wp2_with fail
                    go_roundw
                    case rel => go_light; exact ⟨t + 1, _, by omega, by go_num, J8, K8, F8⟩
                    case measure => go_light; simp [intOf]; omega
              · obtain rfl : t = 2 := by omega
                have htI : ¬ ((2 : Nat) : Int) < 2 := by omega
                have hFR := Lib.hid (hRt.out.resolve_left (by decide))
                go_wp2_with fail
                refine CV.out.mono ?_
                rintro e w7 ⟨v7, rfl, hs7, hB7⟩
                obtain ⟨a7, q7, rfl, _⟩ := hs7.slice
                have Q7 := Lib.hid (HQ.out.below' hB7)
                have K7 : Hid (Kept (fun b => b = fm) w6 w7) := hKt.out.below hB7
                have S7 := Lib.hid (hs7.base (Nat.zero_le _))
                clear hs7 hB7 CV hL
                go_wp2_with fail
                go_loopw [146] (fun i wr => ∃ k : Nat, k ≤ L.length ∧ i = .int .i64 k ∧ Hid (RowKit.Below w7.heap.size w7 wr)) (fun i _ => L.length - (intOf i).toNat)
                case atStart => exact ⟨0, Nat.zero_le _, rfl, RowKit.Below.refl _ _⟩
                case round =>
                  obtain ⟨k, hk, rfl, hB⟩ := hrel
                  by_cases hlt : k < L.length
                  · obtain ⟨b, off, rfl, _, hbz, hck⟩ := S7.out.at k hlt wr hB.out
                    have hly := hml.out _ (nth_mem.2 ⟨k, hlt, rfl⟩)
                    have hdy := livesR_dom GD.out.inv.dom hly
                    obtain ⟨y, hy⟩ : ∃ z, z = nth L k := ⟨_, rfl⟩
                    rw [← hy] at hck hly hdy
                    have HLY := Lib.hid hly
                    have OKY : Hid (okInt y) := okInt_dom (by omega) (by omega)
                    obtain ⟨wo, rfl⟩ : ∃ wo : World, wo = wr := ⟨_, rfl⟩
                    clear hy hly hdy
                    go_wp2_with fail
                    have O0 : Hid ((wo.alloc (.cells #[] 3)).ownsRow wo.heap.size 3 1 (.slice (some ⟨wo.heap.size, 0, none⟩) 0 0) (owL f0 y 0).length ((owL f0 y 0).map (Value.int .i64))) := own_nil _ _ _ _ _ rfl (Nat.le_refl _)
                    have B0 : Hid (RowKit.Below wo.heap.size wo (wo.alloc (.cells #[] 3))) := bel_alloc (RowKit.Below.refl _ _) _
                    go_loopw [24, 25] (fun v i wr => ∃ j : Nat, j ≤ 64 ∧ i = .int .i64 j ∧ Hid (wr.ownsRow wo.heap.size 3 1 v (owL f0 y j).length ((owL f0 y j).map (Value.int .i64))) ∧ Hid (RowKit.Below wo.heap.size wo wr)) (fun _ i _ => 64 - (intOf i).toNat)
                    case atStart => exact ⟨0, by omega, rfl, O0, B0⟩
                    case round =>
                      obtain ⟨j, hj, rfl, hO, hBj⟩ := hrel
                      have Kj : Hid (Kept (fun b => b = fm) w6 wr) := K7.out.below (bel_below hB.out hBj.out)
                      by_cases hj64 : j < 64
                      · have hjI : ((j : Nat) : Int) < 64 := by omega
                        have y0 := (cell_blk 0 (Kj.out.block Y YC.out.2.2.1 YC.out.2.2.2)).trans YC.out.1
                        have y1 := (cell_blk 1 (Kj.out.block Y YC.out.2.2.1 YC.out.2.2.2)).trans YC.out.2.1
                        have yz := Nat.lt_of_lt_of_le YC.out.2.2.1 Kj.out.size
                        have CFj := CF.out wr Kj.out y HLY.out j hj64
                        have hsu := owL_succ f0 y j
                        obtain ⟨o2, ho2⟩ : ∃ z, z = own f0 (startR (idR f0 y) j) := ⟨_, rfl⟩
                        rw [← ho2] at CFj hsu
                        have hlo := owL_len f0 y j
                        obtain ⟨l, hl⟩ : ∃ z, z = owL f0 y j := ⟨_, rfl⟩
                        rw [← hl] at hsu hlo hO
                        have HSU := Lib.hid hsu
                        have CFJ := Lib.hid CFj
                        clear CFj hsu ho2 hl
                        go_wp2_with fail
                        refine CFJ.out.mono ?_
                        rintro e w8 ⟨rfl, hb8⟩
                        have O8 := Lib.hid (owns_below hO.out hb8)
                        have B8 := Lib.hid (bel_below hBj.out hb8)
                        clear hb8 hO hBj y0 y1 yz CFJ
                        have hsl8 := Lib.hid (own_ints O8.out)
                        obtain ⟨a8, c8, rfl, _⟩ := hsl8.out.slice
                        by_cases h0 : l.length = 0
                        · have hE : Hid (owL f0 y (j + 1) = l ++ [o2]) := show _ = _ by rw [HSU.out]; unfold addF; rw [if_neg (by omega)]
                          have h0b : (((l.length : Nat) : Int) == 0) = true := by rw [beq_iff_eq]; omega
                          clear h0
                          go_wp2_with (at_builtin; refine wpList_app rfl _ _ 39 rfl wo.heap.size 3 i0 (.int .i64 0) 8 Tryz.underlying39 hi0 hz0 hz1 hz2 rfl _ l.length _ rfl (O8.out.alloc _) 0 _ 1 _ rfl (sl_new _ .i64 [o2] 3 _ 1 rfl rfl (by simp [maxLen])) (fun _ => rfl) ?qc1 ?qc2 ?qc3 ?_)
                          case qc1 => simp only [maxLen]; omega
                          case qc2 => omega
                          case qc3 => have := B8.out.size; simp; omega
                          intro v' w9 ho9 hg9
                          have B9 : Hid (RowKit.Below wo.heap.size wo w9) := (bel_alloc B8.out _).grown hg9 (by have := B8.out.size; simp; omega) (fun q hq => (O8.out.lt q hq).1)
                          have HO9 := Lib.hid ho9
                          clear ho9 hg9
                          go_wp2_with fail
                          go_roundw
                          case rel =>
                            go_light
                            refine ⟨j + 1, by omega, by go_num, ?_, B9⟩
                            have := HO9.out
                            show World.ownsRow _ _ _ _ _ _ _
                            rw [hE.out]
                            simpa [nth] using this
                          case measure => go_light; simp [intOf]; omega
                        · obtain ⟨b8, o8, rfl, _, hz8, hc8⟩ := hsl8.out.at (l.length - 1) (by omega) w8 (RowKit.Below.refl _ _)
                          have h0b : (((l.length : Nat) : Int) == 0) = false := by rw [beq_eq_false_iff_ne]; omega
                          have hcast : ((l.length : Nat) : Int) - 1 = ((l.length - 1 : Nat) : Int) := by omega
                          have hl1 : l.length - 1 < l.length := by omega
                          obtain ⟨x, hx⟩ : ∃ z, z = nth l (l.length - 1) := ⟨_, rfl⟩
                          have HXL : Hid (x = lastL l) := hx
                          rw [← hx] at hc8
                          clear hx
                          by_cases hxo : x = o2
                          · have hE : Hid (owL f0 y (j + 1) = l) := show _ = _ by rw [HSU.out]; unfold addF; rw [if_pos ⟨by omega, by rw [← HXL.out]; exact hxo⟩]
                            have hxb : (x != o2) = false := by simpa using hxo
                            clear hxo
                            go_wp2_with fail
                            go_roundw
                            case rel =>
                              go_light
                              refine ⟨j + 1, by omega, by go_num, ?_, B8⟩
                              show World.ownsRow _ _ _ _ _ _ _
                              rw [hE.out]; exact O8.out
                            case measure => go_light; simp [intOf]; omega
                          · have hE : Hid (owL f0 y (j + 1) = l ++ [o2]) := show _ = _ by rw [HSU.out]; unfold addF; rw [if_neg (fun h => hxo (by rw [HXL.out]; exact h.2))]
                            have hxb : (x != o2) = true := by simpa using hxo
                            clear hxo
                            go_wp2_with (at_builtin; refine wpList_app rfl _ _ 39 rfl wo.heap.size 3 i0 (.int .i64 0) 8 Tryz.underlying39 hi0 hz0 hz1 hz2 rfl _ l.length _ rfl (O8.out.alloc _) 0 _ 1 _ rfl (sl_new _ .i64 [o2] 3 _ 1 rfl rfl (by simp [maxLen])) (fun _ => rfl) ?qc1 ?qc2 ?qc3 ?_)
                            case qc1 => simp only [maxLen]; omega
                            case qc2 => omega
                            case qc3 => have := B8.out.size; simp; omega
                            intro v' w9 ho9 hg9
                            have B9 : Hid (RowKit.Below wo.heap.size wo w9) := (bel_alloc B8.out _).grown hg9 (by have := B8.out.size; simp; omega) (fun q hq => (O8.out.lt q hq).1)
                            have HO9 := Lib.hid ho9
                            clear ho9 hg9
                            go_wp2_with fail
                            go_roundw
                            case rel =>
                              go_light
                              refine ⟨j + 1, by omega, by go_num, ?_, B9⟩
                              have := HO9.out
                              show World.ownsRow _ _ _ _ _ _ _
                              rw [hE.out]
                              simpa [nth] using this
                            case measure => go_light; simp [intOf]; omega
                      · obtain rfl : j = 64 := by omega
                        have hjI : ¬ ((64 : Nat) : Int) < 64 := by omega
                        have Qr := Lib.hid (Q7.out.below' (bel_below hB.out hBj.out))
                        have CO1 := Lib.hid (off_at Qr.out.fin y OKY.out)
                        rw [hFR.out y HLY.out] at CO1
                        obtain ⟨l, hl⟩ : ∃ z, z = owL f0 y 64 := ⟨_, rfl⟩
                        have hlo := owL_len f0 y 64
                        rw [← hl] at hlo CO1 hO
                        clear hl
                        go_wp2_with fail
                        refine CO1.out.mono ?_
                        rintro e w8 ⟨v8, rfl, hs8, hb8⟩
                        obtain ⟨a8, c8, rfl, _⟩ := hs8.slice
                        have S8 := Lib.hid (hs8.base (Nat.zero_le _))
                        have O8 := Lib.hid ((own_ints (owns_below hO.out hb8)).base (Nat.zero_le _))
                        have B8 := Lib.hid (bel_below hBj.out hb8)
                        clear hs8 hb8 CO1 hO
                        go_wp2_with fail
                        refine (rints_any _ _ _ l l S8.out O8.out (by omega)).mono ?_
                        rw [show sameI l l = true by simp [sameI]]
                        rintro e w9 ⟨rfl, hb9⟩
                        have B9 := Lib.hid (bel_below hB.out (bel_below B8.out hb9))
                        clear hb9
                        go_wp2_with fail
                        go_roundw
                        case rel => go_light; exact ⟨k + 1, by omega, by go_num, B9⟩
                        case measure => go_light; simp [intOf]; omega
                  · obtain rfl : k = L.length := by omega
                    have BE := Lib.hid (Q7.out.below' hB.out).below
                    go_wp2_with fail
                    refine (awake12_any _).mono ?_
                    rintro e wA ⟨rfl, hbA⟩
                    go_wp2_with fail
                    go_ret
                    exact ⟨rfl, bel_below BE.out hbA⟩
set_option maxRecDepth 100000 in
theorem routeCalm_walk {H : Type} (enc : TypeId × Value → H) (W : World) (v0 : Value) (d0 : DataW H) (p0 : List MemPlace) {r0 : Reach} {b0 : Nat} (ok0 : Value.okWide Tryz.prog W r0 b0 22 v0) (h0 : DataW.Trod enc Tryz.prog W 0 (fun _ => true) true 22 v0 d0 p0)
    (hlt0 : ∀ x ∈ p0, x.block < W.heap.size) (sz0 : ∀ n ∈ d0.weights Tryz.prog 22, n ≤ reachBytes) (v1 : Value) (d1 : DataW H) (p1 : List MemPlace) {r1 : Reach} {b1 : Nat} (ok1 : Value.okWide Tryz.prog W r1 b1 23 v1) (h1 : DataW.Trod enc Tryz.prog W 0 (fun _ => true) true 23 v1 d1 p1)
    (hlt1 : ∀ x ∈ p1, x.block < W.heap.size) (sz1 : ∀ n ∈ d1.weights Tryz.prog 23, n ≤ reachBytes) (a2 : Int) (w2 : (Lit.int .i64 a2).wf = true) (a3 : Int) (w3 : (Lit.int .u64 a3).wf = true) (hg : HandleAt W) :
    Calls Tryz.prog 7 #[v0, v1, .int .i64 a2, .int .u64 a3] W fun e W' => e = .returned (.bool true) ∧ RowKit.Below W.heap.size W W' := by
  obtain ⟨ids, hi, hp⟩ := ids_open ok0 h0
  obtain ⟨acts, ha, hao⟩ := acts_open ok1 h1
  exact routeCalm_main W hg v0 v1 ids acts a2 a3 (placeOf w3) hi hp ha hao
end Go.Proofs.YtbhaapkafgieiaaGreatDoor
