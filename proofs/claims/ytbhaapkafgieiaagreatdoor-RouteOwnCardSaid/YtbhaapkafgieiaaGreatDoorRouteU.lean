


/-
  RouteOwn walked.
-/
import Derived.Test.YtbhaapkafgieiaaGreatDoorMade
import Derived.Test.YtbhaapkafgieiaaGreatDoorRouteD
namespace Go.Proofs.YtbhaapkafgieiaaGreatDoor
open Go.RowKit Go.Maps Go.Sort Go.WideShapes Go.ChangeShapes Go.Deep
set_option linter.unusedVariables false
set_option linter.unusedSimpArgs false
attribute [local go_sem] later_cell later_frozen later_lt cell_set_off cell_set_block

theorem both_ok {S Q : Nat → Prop} {W w : World} {rb mb : Nat} {f : RS} {p : Where} (h : Both S Q W w rb mb f p) : RingOk W.heap.size W w rb mb f := by
  obtain ⟨g, hg⟩ := h.ring
  exact ⟨⟨g, hg.same (Nat.le_refl _) (fun _ _ _ => rfl) (fun b _ hS => h.low b hS) fun b hb => by have := h.below.size; omega⟩, h.inv, h.below⟩
/-- What Made leaves, as the laws use it that look at the ring alone. -/
theorem made_ring (W : World) (hH : HandleAt W) (v0 v1 : Value) (ids : List Int) (acts : List ActD) (n : Nat) (hi : SlAt 0 (fun i => .int .u64 (nth ids i)) ids.length W v0) (hp : ∀ x ∈ ids, isPlace x)
    (ha : ActsAt acts W v1) (hao : ∀ k, k < acts.length → (actAt acts k).ok) (hn : n ≤ 1000) (m : Int) (hm : m = n) : Calls Tryz.prog 9 #[v0, v1, .int .i64 m] W fun e w' =>
      (e = .returned (.tuple #[.pointer none, .agg #[.slice none 0 0, .slice none 0 0, .slice none 0 0, .slice none 0 0], .bool false]) ∧ RowKit.Below W.heap.size W w') ∨
      ∃ (rb mb : Nat) (f : RS) (p : Where), e = .returned (.tuple #[.pointer (some ⟨rb, 0, none⟩), (.agg #[.slice (some ⟨(p).b1, (p).o1, none⟩) 32 (p).k1, .slice (some ⟨(p).b2, (p).o2, none⟩) 32 (p).k2, .slice (some ⟨(p).b3, (p).o3, none⟩) 32 (p).k3, .slice (some ⟨(p).b4, (p).o4, none⟩) 32 (p).k4]), .bool true]) ∧ RingOk W.heap.size W w' rb mb f := by
  subst hm
  refine (made_any W hH v0 v1 ids acts n hi hp ha hao hn).mono fun e w' h => ?_
  unfold MadePost at h
  split at h
  · obtain ⟨rb, mb, f, p, S, Q, rfl, hB⟩ := h
    exact Or.inr ⟨rb, mb, f, p, rfl, both_ok hB⟩
  · exact Or.inl h

/-- A place of one's own is no way; the place behind it is one step. -/
theorem way_self {f : RS} (G : Good f) (F : Int → List Int) {n : Int} (hn : livesR f n = true) : pathR (fun m => nextR f F m (idR f n)) 65 n = some [n] := by
  have ho : own f (idR f n) = n := owner_self G.inv hn
  rcases good_next G F (place_id G.inv.dom n) hn with h | h | h
  · unfold pathR; rw [if_pos h.2]
  · exact absurd ho h.1
  · exact absurd ho h.1
theorem way_next {f : RS} (G : Good f) (F : Int → List Int) {n : Int} (hn : livesR f n = true) :
    pathR (fun m => nextR f F m ((idR f n + 1) % 18446744073709551616)) 65 n = some [n, own f ((idR f n + 1) % 18446744073709551616)] := by
  have hX : isPlace ((idR f n + 1) % 18446744073709551616) := by unfold isPlace; omega
  obtain ⟨x, hx⟩ := cAt_of G.inv hn
  have ho : own f ((idR f n + 1) % 18446744073709551616) = headR f n := by
    have := owner_next G.inv x
    rw [hx]
    exact this.trans (head_cAt G.inv G.hr x).1.symm
  obtain ⟨X, hXe⟩ : ∃ X, X = (idR f n + 1) % 18446744073709551616 := ⟨_, rfl⟩
  rw [← hXe] at hX ho ⊢
  have hne : headR f n ≠ n := fun e => G.inv.head_ne hn (by rw [e])
  have h1 := good_owns G hX hn
  have h2 := good_head G hX hn
  have hnx : nextR f F n X = own f X := by
    have hf : ¬ (idR f n == X || ownsR f n X) = true := by rw [h1, ho]; simpa using hne
    have ht : inB X (idR f n) (idR f (headR f n)) = true := by rw [h2, ho]; simp
    unfold nextR; rw [if_neg hf, if_pos ht]; exact ho.symm
  have hol := owner_lives G.inv X
  have hself : nextR f F (own f X) X = own f X := by
    rcases good_next G F hX hol with h | h | h
    · exact h.2
    · exact absurd rfl h.1
    · exact absurd rfl h.1
  unfold pathR
  rw [if_neg (by rw [hnx, ho]; exact hne), hnx]
  unfold pathR
  rw [if_pos hself]; rfl
set_option maxRecDepth 100000 in
set_option maxHeartbeats 16000000 in
theorem routeOwn_main (W : World) (hH : HandleAt W) (v0 v1 : Value) (ids : List Int) (acts : List ActD) (n : Int) (hi : SlAt 0 (fun i => .int .u64 (nth ids i)) ids.length W v0) (hp : ∀ x ∈ ids, isPlace x)
    (ha : ActsAt acts W v1) (hao : ∀ k, k < acts.length → (actAt acts k).ok) : Calls Tryz.prog 6 #[v0, v1, .int .i64 n] W (OneYes W) := by
  have CM := Lib.hid (made_ring W hH v0 v1 ids acts 25 hi hp ha hao (by omega) 25 rfl)
  clear hi hp ha hao hH
  go_enter Tryz.func6, Tryz.ntmps6
  go_wp2_with fail
  refine CM.out.mono ?_
  rintro e w1 (hm | ⟨rb, mb, f, p, rfl, hR⟩)
  · obtain ⟨rfl, hB1⟩ := hm
    go_wp2_with fail
    refine (awake12_any _).mono ?_
    rintro e w2 ⟨rfl, hB2⟩
    go_wp2_with fail
    go_ret
    exact ⟨rfl, bel_below (bel_below hB1 (bel_alloc (RowKit.Below.refl _ _) _)) hB2⟩
  · have R1 := Lib.hid hR
    have hlen := length_liveL f
    obtain ⟨nl, hnl⟩ : ∃ n, n = (liveL f).length := ⟨_, rfl⟩
    rw [← hnl] at hlen
    have HN := Lib.hid hnl
    have HIN := Lib.hid hR.inv
    clear hR CM hnl
    go_wp2_with fail
    obtain ⟨w2, hw2⟩ : ∃ z, z = w1.alloc (.cells #[.slice (some ⟨p.b1, p.o1, none⟩) 32 p.k1, .slice (some ⟨p.b2, p.o2, none⟩) 32 p.k2, .slice (some ⟨p.b3, p.o3, none⟩) 32 p.k3, .slice (some ⟨p.b4, p.o4, none⟩) 32 p.k4] 33) := ⟨_, rfl⟩
    have R2 : Hid (RingOk W.heap.size W w2 rb mb f) := by rw [hw2]; exact R1.out.later (bel_alloc (RowKit.Below.refl _ _) _)
    rw [← hw2]
    clear hw2 R1
    go_loopw [10] (fun i wr => ∃ j : Nat, j ≤ 4 * nl + 8 ∧ i = .int .i64 j ∧ Hid (RingOk W.heap.size W wr rb mb (rn j f))) (fun i _ => 4 * nl + 8 - (intOf i).toNat)
    case atStart => exact ⟨0, by omega, rfl, R2.out⟩
    case round =>
      obtain ⟨j, hj, rfl, hRj⟩ := hrel
      obtain ⟨g3, G3⟩ := hRj.out.ring
      have CLV := live_at G3
      rw [liveL_rn] at CLV
      have hn2 := HN.out
      obtain ⟨L, hL⟩ : ∃ L, L = liveL f := ⟨_, rfl⟩
      rw [← hL] at CLV hn2
      have CV := Lib.hid CLV
      clear G3 CLV hL
      by_cases hlj : j < 4 * nl + 8
      · have hljI : (j : Int) < 4 * (nl : Int) + 8 := by omega
        go_wp2_with fail
        refine CV.out.mono ?_
        rintro e w4 ⟨v4, rfl, hs4, hB4⟩
        obtain ⟨a4, q4, rfl, _⟩ := hs4.slice
        have R4 := Lib.hid (hRj.out.later hB4)
        rw [← hn2]
        clear hs4 hB4 hn2
        obtain ⟨g5, G5⟩ := R4.out.ring
        have CR := Lib.hid (round_at G5 R4.out.inv.heads)
        clear G5
        go_wp2_with fail
        refine (rounds_any _ (by omega) (by omega) _).mono ?_
        rintro e w5 ⟨rfl, rfl⟩
        go_wp2_with fail
        refine CR.out.mono ?_
        rintro e w5 ⟨rfl, hg5, hk5⟩
        have R5 : Hid (RingOk W.heap.size W w5 rb mb (rn (j + 1) f)) := R4.out.step (inv_round R4.out.inv) ⟨_, hg5⟩ hk5
        clear hg5 hk5
        go_wp2_with fail
        go_roundw
        case rel => go_light; exact ⟨j + 1, by omega, by go_num, R5.out⟩
        case measure => go_light; simp [intOf]; omega
      have hljI : ¬ (j : Int) < 4 * (nl : Int) + 8 := by omega
      have GD0 : Hid (Good (rn j f)) := good_rn HIN.out (by have := HN.out; omega)
      have HLF0 : Hid (nl = (liveL (rn j f)).length) := show nl = _ by rw [liveL_rn]; exact HN.out
      obtain ⟨f0, hf0⟩ : ∃ f0, f0 = rn j f := ⟨_, rfl⟩
      rw [← hf0] at GD0 HLF0 hRj
      clear hf0
      go_wp2_with fail
      refine CV.out.mono ?_
      rintro e w4 ⟨v4, rfl, hs4, hB4⟩
      obtain ⟨a4, q4, rfl, _⟩ := hs4.slice
      have R4 := Lib.hid (hRj.out.later hB4)
      rw [← hn2]
      clear hs4 hB4 hn2 hRj CV
      go_wp2_with fail
      refine (rounds_any _ (by omega) (by omega) _).mono ?_
      rintro e w5 ⟨rfl, rfl⟩
      go_wp2_with fail
      obtain ⟨w5, hw5⟩ : ∃ z, z = w4 := ⟨_, rfl⟩
      rw [← hw5] at R4 ⊢
      clear hw5 hljI hlj HN HIN R2
      obtain ⟨g, hG⟩ := R4.out.ring
      refine (newf_any w5 rb).mono ?_
      rintro e w6 ⟨fb, fm, rfl, hf, hb6⟩
      have G6 := Lib.hid (hG.now hb6)
      have F6 := Lib.hid hf
      have B6 := Lib.hid (bel_below R4.out.below hb6)
      have hnow : ¬ Now (fun b => W.heap.size ≤ b) w5 w6 fm := fun h => by
        have h2 := hf.fmQ
        have h3 := hf.fmz
        rcases h with ⟨_, h⟩ | h <;> omega
      have CRF := Lib.hid (roundf_at G6.out F6.out GD0.out.inv.heads hnow)
      clear hf hb6 hG
      by_cases hfix : 0 < n
      · go_wp2_with fail
        refine CRF.out.mono ?_
        rintro e w7 ⟨rfl, hf7, hk7⟩
        have G7 := Lib.hid (G6.out.off hk7 hnow)
        obtain ⟨F, hF⟩ : ∃ z, z = fixes f0 (fun _ => []) (liveL f0) := ⟨_, rfl⟩
        rw [← hF] at hf7
        have F7 := Lib.hid hf7
        have B7 : Hid (RowKit.Below W.heap.size W w7) := show RowKit.Below _ _ _ from B6.out.trans (hk7.toBelow B6.out.size (fun b hb e => by
          have := F6.out.fmQ
          have := R4.out.below.size
          omega))
        clear hf7 hk7 CRF hF F6 G6 hnow R4 B6
        obtain ⟨FF, hFF⟩ : ∃ z : Int → List Int, z = F := ⟨_, rfl⟩
        rw [← hFF] at F7
        clear hFF
        have G8 := G7
        have F8 := F7
        have B8 := B7
        have CV := live_at G8.out
        have hmem := Lib.hid (fun x (hx : x ∈ liveL f0) => (mem_liveL GD0.out.inv.dom).1 hx)
        have hlc : (circ f0).length ≤ 32 := by rw [circ_len]; exact length_liveL f0
        obtain ⟨L, hL⟩ : ∃ z, z = liveL f0 := ⟨_, rfl⟩
        rw [← hL] at CV hmem HLF0
        have hll := HLF0.out
        have CV := Lib.hid CV
        clear hL
        go_wp2_with fail
        refine CV.out.mono ?_
        rintro e w9 ⟨v9, rfl, hs9, hb9⟩
        obtain ⟨a9, c9, rfl, _⟩ := hs9.slice
        have B9 := Lib.hid (bel_below B8.out hb9)
        have G9 := Lib.hid (G8.out.below hb9)
        have F9 := Lib.hid (F8.out.below hb9)
        have S9 := Lib.hid (hs9.base (Nat.zero_le _))
        have hUP : Hid (Up ((circ f0).map (idR f0))) := circ_up GD0.out.inv
        clear hs9 hb9 CV B8 G8 F8
        go_wp2_with fail
        go_loopw [47] (fun i wr => ∃ k : Nat, k ≤ L.length ∧ i = .int .i64 k ∧ Hid (RowKit.Below w9.heap.size w9 wr)) (fun i _ => L.length - (intOf i).toNat)
        case atStart => exact ⟨0, Nat.zero_le _, rfl, RowKit.Below.refl _ _⟩
        case round =>
          obtain ⟨k, hk, rfl, hB⟩ := hrel
          by_cases hlt : k < L.length
          · obtain ⟨b, off, rfl, _, hbz, hck⟩ := S9.out.at k hlt wr hB.out
            have hly := hmem.out _ (nth_mem.2 ⟨k, hlt, rfl⟩)
            have hdy := livesR_dom GD0.out.inv.dom hly
            obtain ⟨y, hy⟩ : ∃ z, z = nth L k := ⟨_, rfl⟩
            rw [← hy] at hck hly hdy
            have oky : okInt y := okInt_dom (by omega) (by omega)
            have hpy := place_id GD0.out.inv.dom y
            have ws := way_self GD0.out FF hly
            have wn := way_next GD0.out FF hly
            have CD := Lib.hid fun wr' (hb : RowKit.Below wr.heap.size wr wr') => id_at (G9.out.below (bel_below hB.out hb)) y oky
            have CP1 := Lib.hid fun wr' (hb : RowKit.Below wr.heap.size wr wr') => path_some (G9.out.below (bel_below hB.out hb)) (F9.out.below (bel_below hB.out hb)) GD0.out.inv.heads y (idR f0 y) oky hly ws
            have CP2 := Lib.hid fun wr' (hb : RowKit.Below wr.heap.size wr wr') => path_some (G9.out.below (bel_below hB.out hb)) (F9.out.below (bel_below hB.out hb)) GD0.out.inv.heads y ((idR f0 y + 1) % 18446744073709551616) oky hly wn
            obtain ⟨o, ho⟩ : ∃ z, z = own f0 ((idR f0 y + 1) % 18446744073709551616) := ⟨_, rfl⟩
            have HO := Lib.hid ho
            rw [← ho] at CP2
            obtain ⟨iy, hiy⟩ : ∃ z, z = idR f0 y := ⟨_, rfl⟩
            rw [← hiy] at CD CP1 CP2 HO
            have hwr : IntKind.u64.wrap (iy + 1) = (iy + 1) % 18446744073709551616 := IntKind.wrap_u64 _
            obtain ⟨X, hXe⟩ : ∃ X, X = (iy + 1) % 18446744073709551616 := ⟨_, rfl⟩
            rw [← hXe] at CP2 HO hwr
            clear hy hly hdy oky hpy ws wn ho hiy hXe
            go_wp2_with fail
            refine (CD.out _ (RowKit.Below.refl _ _)).mono ?_
            rintro e w10 ⟨rfl, rfl⟩
            go_wp2_with fail
            refine (CP1.out _ (RowKit.Below.refl _ _)).mono ?_
            rintro e w10 ⟨v10, rfl, hs10, hb10⟩
            obtain ⟨a10, c10, rfl, _⟩ := hs10.slice
            have B10 := Lib.hid hb10
            clear hs10 hb10 CP1 hck hbz
            go_wp2_with fail
            refine (CD.out _ B10.out).mono ?_
            rintro e w11 ⟨rfl, rfl⟩
            go_wp2_with fail
            try rw [hwr]
            refine (CP2.out _ B10.out).mono ?_
            rintro e w11 ⟨v11, rfl, hs11, hb11⟩
            obtain ⟨a11, c11, rfl, _⟩ := hs11.slice
            obtain ⟨b1, o1, rfl, _, hz1, hc1⟩ := hs11.at 1 (by simp) w11 (RowKit.Below.refl _ _)
            rw [show nth [y, o] 1 = o from rfl] at hc1
            have B11 := Lib.hid (bel_below B10.out hb11)
            have G11 := Lib.hid (G9.out.below (bel_below hB.out B11.out))
            clear hs11 hb11 CP2 B10
            go_wp2_with fail
            refine wp_region_heads [0, 1, 2, 3, 4, 5, 6, 7, 8, 9, 10, 11, 12, 13, 14, 15, 16, 17, 18, 19, 20, 22, 23] 28 (fun w' => ∃ y : Later w11, w' = y.world) (by kernel_rfl) (by kernel_rfl) ⟨⟨{ w11 with drawn := w11.drawn + 1 }, bel_drew (RowKit.Below.refl _ _)⟩, rfl⟩ ?_ ?_
            · intro d v c a w h
              cases d <;> exact h
            · simp only [headOps]
              repeat (refine wpTame_step (fun K hK => ?_); go_simp; refine hK _ ?_; clear hK K)
              refine wpTame_nil ?_
              refine wpAnyC_step (f := 5) [21] (by kernel_rfl) rfl rfl (fun i hi => ?_)
              simp only [List.mem_cons, List.not_mem_nil, or_false] at hi
              subst hi
              refine ⟨_, rfl, fun R hR => ?_⟩
              go_wp2_with fail
              refine (of_at (G11.out.below (bel_drew (RowKit.Below.refl _ _))) GD0.out.inv).mono ?_
              rintro e w12 ⟨av, iv, rfl, hav, hiv, hb12⟩
              obtain ⟨aa, ac, rfl, _⟩ := hav.slice
              obtain ⟨ia, ic, rfl, _⟩ := hiv.slice
              have b12 : RowKit.Below w11.heap.size w11 w12 := (bel_drew (RowKit.Below.refl _ _)).trans (hb12.mono (by simp))
              have B12 := Lib.hid b12
              have CO := Lib.hid (cowner_at w12 (circ f0) ((circ f0).map (idR f0)) _ _ (hav.base (Nat.zero_le _)) (by have := hiv.base (Nat.zero_le _); simpa using this : SlAt 0 (fun i => .int .u64 (nth ((circ f0).map (idR f0)) i)) ((circ f0).map (idR f0)).length w12 (.slice ia (circ f0).length ic)) (by simp) (by omega) hUP.out X)
              rw [← show o = cOwner (circ f0) ((circ f0).map (idR f0)) X from HO.out] at CO
              clear hav hiv hb12 b12
              obtain ⟨cl, hcl⟩ : ∃ cl, cl = (circ f0).length := ⟨_, rfl⟩
              rw [← hcl] at CO ⊢
              clear hcl
              go_wp2_with fail
              refine hR _ _ ⟨⟨w12, (B12).out⟩, rfl⟩ ?_
              clear hR R
              refine wpAnyC_step (f := 4) [24] (by kernel_rfl) rfl rfl (fun i hi => ?_)
              simp only [List.mem_cons, List.not_mem_nil, or_false] at hi
              subst hi
              refine ⟨_, rfl, fun R hR => ?_⟩
              go_wp2_with fail
              refine (CD.out _ (bel_below B11.out B12.out)).mono ?_
              rintro e w13 ⟨rfl, rfl⟩
              go_wp2_with fail
              refine hR _ _ ⟨⟨w12, (B12).out⟩, rfl⟩ ?_
              clear hR R
              refine wpAnyC_step (f := 3) [25] (by kernel_rfl) rfl rfl (fun i hi => ?_)
              simp only [List.mem_cons, List.not_mem_nil, or_false] at hi
              subst hi
              refine ⟨_, rfl, fun R hR => ?_⟩
              go_wp2_with fail
              try rw [hwr]
              refine hR _ _ ⟨⟨w12, B12.out⟩, rfl⟩ ?_
              clear hR R
              refine wpAnyC_step (f := 2) [26] (by kernel_rfl) rfl rfl (fun i hi => ?_)
              simp only [List.mem_cons, List.not_mem_nil, or_false] at hi
              subst hi
              refine ⟨_, rfl, fun R hR => ?_⟩
              go_wp2_with fail
              refine CO.out.mono ?_
              rintro e w13 ⟨rfl, hb13⟩
              have B13 := Lib.hid (bel_below B12.out hb13)
              clear hb13 CO
              go_wp2_with fail
              refine hR _ _ ⟨⟨w13, (B13).out⟩, rfl⟩ ?_
              clear hR R
              refine wpAnyC_step (f := 1) [27] (by kernel_rfl) rfl rfl (fun i hi => ?_)
              simp only [List.mem_cons, List.not_mem_nil, or_false] at hi
              subst hi
              refine ⟨_, rfl, fun R hR => ?_⟩
              go_wp2_with fail
              refine hR _ _ ⟨⟨w13, B13.out⟩, rfl⟩ ?_
              clear hR R
              refine wpAnyC_end (k := 28) (by decide) rfl rfl (by kernel_rfl) ?_
              have BE := Lib.hid (bel_below hB.out (bel_below B11.out B13.out))
              clear B13 B12 B11 hc1 hz1 G11 CD
              go_wp2_with fail
              go_roundw
              case rel => go_light; exact ⟨k + 1, by omega, by go_num, BE⟩
              case measure => go_light; simp [intOf]; omega
          · obtain rfl : k = L.length := by omega
            go_wp2_with fail
            refine (awake12_any _).mono ?_
            rintro e wA ⟨rfl, hbA⟩
            go_wp2_with fail
            go_ret
            exact ⟨rfl, bel_below (bel_below B9.out hB.out) hbA⟩
      · obtain ⟨FF, hFF⟩ : ∃ z : Int → List Int, z = fun _ => [] := ⟨_, rfl⟩
        rw [← hFF] at F6
        clear hFF CRF
        have G8 := G6
        have F8 := F6
        have B8 := B6
        have CV := live_at G8.out
        have hmem := Lib.hid (fun x (hx : x ∈ liveL f0) => (mem_liveL GD0.out.inv.dom).1 hx)
        have hlc : (circ f0).length ≤ 32 := by rw [circ_len]; exact length_liveL f0
        obtain ⟨L, hL⟩ : ∃ z, z = liveL f0 := ⟨_, rfl⟩
        rw [← hL] at CV hmem HLF0
        have hll := HLF0.out
        have CV := Lib.hid CV
        clear hL
        go_wp2_with fail
        refine CV.out.mono ?_
        rintro e w9 ⟨v9, rfl, hs9, hb9⟩
        obtain ⟨a9, c9, rfl, _⟩ := hs9.slice
        have B9 := Lib.hid (bel_below B8.out hb9)
        have G9 := Lib.hid (G8.out.below hb9)
        have F9 := Lib.hid (F8.out.below hb9)
        have S9 := Lib.hid (hs9.base (Nat.zero_le _))
        have hUP : Hid (Up ((circ f0).map (idR f0))) := circ_up GD0.out.inv
        clear hs9 hb9 CV B8 G8 F8
        go_wp2_with fail
        go_loopw [47] (fun i wr => ∃ k : Nat, k ≤ L.length ∧ i = .int .i64 k ∧ Hid (RowKit.Below w9.heap.size w9 wr)) (fun i _ => L.length - (intOf i).toNat)
        case atStart => exact ⟨0, Nat.zero_le _, rfl, RowKit.Below.refl _ _⟩
        case round =>
          obtain ⟨k, hk, rfl, hB⟩ := hrel
          by_cases hlt : k < L.length
          · obtain ⟨b, off, rfl, _, hbz, hck⟩ := S9.out.at k hlt wr hB.out
            have hly := hmem.out _ (nth_mem.2 ⟨k, hlt, rfl⟩)
            have hdy := livesR_dom GD0.out.inv.dom hly
            obtain ⟨y, hy⟩ : ∃ z, z = nth L k := ⟨_, rfl⟩
            rw [← hy] at hck hly hdy
            have oky : okInt y := okInt_dom (by omega) (by omega)
            have hpy := place_id GD0.out.inv.dom y
            have ws := way_self GD0.out FF hly
            have wn := way_next GD0.out FF hly
            have CD := Lib.hid fun wr' (hb : RowKit.Below wr.heap.size wr wr') => id_at (G9.out.below (bel_below hB.out hb)) y oky
            have CP1 := Lib.hid fun wr' (hb : RowKit.Below wr.heap.size wr wr') => path_some (G9.out.below (bel_below hB.out hb)) (F9.out.below (bel_below hB.out hb)) GD0.out.inv.heads y (idR f0 y) oky hly ws
            have CP2 := Lib.hid fun wr' (hb : RowKit.Below wr.heap.size wr wr') => path_some (G9.out.below (bel_below hB.out hb)) (F9.out.below (bel_below hB.out hb)) GD0.out.inv.heads y ((idR f0 y + 1) % 18446744073709551616) oky hly wn
            obtain ⟨o, ho⟩ : ∃ z, z = own f0 ((idR f0 y + 1) % 18446744073709551616) := ⟨_, rfl⟩
            have HO := Lib.hid ho
            rw [← ho] at CP2
            obtain ⟨iy, hiy⟩ : ∃ z, z = idR f0 y := ⟨_, rfl⟩
            rw [← hiy] at CD CP1 CP2 HO
            have hwr : IntKind.u64.wrap (iy + 1) = (iy + 1) % 18446744073709551616 := IntKind.wrap_u64 _
            obtain ⟨X, hXe⟩ : ∃ X, X = (iy + 1) % 18446744073709551616 := ⟨_, rfl⟩
            rw [← hXe] at CP2 HO hwr
            clear hy hly hdy oky hpy ws wn ho hiy hXe
            go_wp2_with fail
            refine (CD.out _ (RowKit.Below.refl _ _)).mono ?_
            rintro e w10 ⟨rfl, rfl⟩
            go_wp2_with fail
            refine (CP1.out _ (RowKit.Below.refl _ _)).mono ?_
            rintro e w10 ⟨v10, rfl, hs10, hb10⟩
            obtain ⟨a10, c10, rfl, _⟩ := hs10.slice
            have B10 := Lib.hid hb10
            clear hs10 hb10 CP1 hck hbz
            go_wp2_with fail
            refine (CD.out _ B10.out).mono ?_
            rintro e w11 ⟨rfl, rfl⟩
            go_wp2_with fail
            try rw [hwr]
            refine (CP2.out _ B10.out).mono ?_
            rintro e w11 ⟨v11, rfl, hs11, hb11⟩
            obtain ⟨a11, c11, rfl, _⟩ := hs11.slice
            obtain ⟨b1, o1, rfl, _, hz1, hc1⟩ := hs11.at 1 (by simp) w11 (RowKit.Below.refl _ _)
            rw [show nth [y, o] 1 = o from rfl] at hc1
            have B11 := Lib.hid (bel_below B10.out hb11)
            have G11 := Lib.hid (G9.out.below (bel_below hB.out B11.out))
            clear hs11 hb11 CP2 B10
            go_wp2_with fail
            refine wp_region_heads [0, 1, 2, 3, 4, 5, 6, 7, 8, 9, 10, 11, 12, 13, 14, 15, 16, 17, 18, 19, 20, 22, 23] 28 (fun w' => ∃ y : Later w11, w' = y.world) (by kernel_rfl) (by kernel_rfl) ⟨⟨{ w11 with drawn := w11.drawn + 1 }, bel_drew (RowKit.Below.refl _ _)⟩, rfl⟩ ?_ ?_
            · intro d v c a w h
              cases d <;> exact h
            · simp only [headOps]
              repeat (refine wpTame_step (fun K hK => ?_); go_simp; refine hK _ ?_; clear hK K)
              refine wpTame_nil ?_
              refine wpAnyC_step (f := 5) [21] (by kernel_rfl) rfl rfl (fun i hi => ?_)
              simp only [List.mem_cons, List.not_mem_nil, or_false] at hi
              subst hi
              refine ⟨_, rfl, fun R hR => ?_⟩
              go_wp2_with fail
              refine (of_at (G11.out.below (bel_drew (RowKit.Below.refl _ _))) GD0.out.inv).mono ?_
              rintro e w12 ⟨av, iv, rfl, hav, hiv, hb12⟩
              obtain ⟨aa, ac, rfl, _⟩ := hav.slice
              obtain ⟨ia, ic, rfl, _⟩ := hiv.slice
              have b12 : RowKit.Below w11.heap.size w11 w12 := (bel_drew (RowKit.Below.refl _ _)).trans (hb12.mono (by simp))
              have B12 := Lib.hid b12
              have CO := Lib.hid (cowner_at w12 (circ f0) ((circ f0).map (idR f0)) _ _ (hav.base (Nat.zero_le _)) (by have := hiv.base (Nat.zero_le _); simpa using this : SlAt 0 (fun i => .int .u64 (nth ((circ f0).map (idR f0)) i)) ((circ f0).map (idR f0)).length w12 (.slice ia (circ f0).length ic)) (by simp) (by omega) hUP.out X)
              rw [← show o = cOwner (circ f0) ((circ f0).map (idR f0)) X from HO.out] at CO
              clear hav hiv hb12 b12
              obtain ⟨cl, hcl⟩ : ∃ cl, cl = (circ f0).length := ⟨_, rfl⟩
              rw [← hcl] at CO ⊢
              clear hcl
              go_wp2_with fail
              refine hR _ _ ⟨⟨w12, (B12).out⟩, rfl⟩ ?_
              clear hR R
              refine wpAnyC_step (f := 4) [24] (by kernel_rfl) rfl rfl (fun i hi => ?_)
              simp only [List.mem_cons, List.not_mem_nil, or_false] at hi
              subst hi
              refine ⟨_, rfl, fun R hR => ?_⟩
              go_wp2_with fail
              refine (CD.out _ (bel_below B11.out B12.out)).mono ?_
              rintro e w13 ⟨rfl, rfl⟩
              go_wp2_with fail
              refine hR _ _ ⟨⟨w12, (B12).out⟩, rfl⟩ ?_
              clear hR R
              refine wpAnyC_step (f := 3) [25] (by kernel_rfl) rfl rfl (fun i hi => ?_)
              simp only [List.mem_cons, List.not_mem_nil, or_false] at hi
              subst hi
              refine ⟨_, rfl, fun R hR => ?_⟩
              go_wp2_with fail
              try rw [hwr]
              refine hR _ _ ⟨⟨w12, B12.out⟩, rfl⟩ ?_
              clear hR R
              refine wpAnyC_step (f := 2) [26] (by kernel_rfl) rfl rfl (fun i hi => ?_)
              simp only [List.mem_cons, List.not_mem_nil, or_false] at hi
              subst hi
              refine ⟨_, rfl, fun R hR => ?_⟩
              go_wp2_with fail
              refine CO.out.mono ?_
              rintro e w13 ⟨rfl, hb13⟩
              have B13 := Lib.hid (bel_below B12.out hb13)
              clear hb13 CO
              go_wp2_with fail
              refine hR _ _ ⟨⟨w13, (B13).out⟩, rfl⟩ ?_
              clear hR R
              refine wpAnyC_step (f := 1) [27] (by kernel_rfl) rfl rfl (fun i hi => ?_)
              simp only [List.mem_cons, List.not_mem_nil, or_false] at hi
              subst hi
              refine ⟨_, rfl, fun R hR => ?_⟩
              go_wp2_with fail
              refine hR _ _ ⟨⟨w13, B13.out⟩, rfl⟩ ?_
              clear hR R
              refine wpAnyC_end (k := 28) (by decide) rfl rfl (by kernel_rfl) ?_
              have BE := Lib.hid (bel_below hB.out (bel_below B11.out B13.out))
              clear B13 B12 B11 hc1 hz1 G11 CD
              go_wp2_with fail
              go_roundw
              case rel => go_light; exact ⟨k + 1, by omega, by go_num, BE⟩
              case measure => go_light; simp [intOf]; omega
          · obtain rfl : k = L.length := by omega
            go_wp2_with fail
            refine (awake12_any _).mono ?_
            rintro e wA ⟨rfl, hbA⟩
            go_wp2_with fail
            go_ret
            exact ⟨rfl, bel_below (bel_below B9.out hB.out) hbA⟩
set_option maxRecDepth 100000 in
theorem routeOwn_walk {H : Type} (enc : TypeId × Value → H) (W : World) (v0 : Value) (d0 : DataW H) (p0 : List MemPlace) {r0 : Reach} {b0 : Nat} (ok0 : Value.okWide Tryz.prog W r0 b0 22 v0) (h0 : DataW.Trod enc Tryz.prog W 0 (fun _ => true) true 22 v0 d0 p0)
    (hlt0 : ∀ x ∈ p0, x.block < W.heap.size) (sz0 : ∀ n ∈ d0.weights Tryz.prog 22, n ≤ reachBytes) (v1 : Value) (d1 : DataW H) (p1 : List MemPlace) {r1 : Reach} {b1 : Nat} (ok1 : Value.okWide Tryz.prog W r1 b1 23 v1) (h1 : DataW.Trod enc Tryz.prog W 0 (fun _ => true) true 23 v1 d1 p1)
    (hlt1 : ∀ x ∈ p1, x.block < W.heap.size) (sz1 : ∀ n ∈ d1.weights Tryz.prog 23, n ≤ reachBytes) (a2 : Int) (w2 : (Lit.int .i64 a2).wf = true) (hg : HandleAt W) :
    Calls Tryz.prog 6 #[v0, v1, .int .i64 a2] W fun e W' => e = .returned (.bool true) ∧ RowKit.Below W.heap.size W W' := by
  obtain ⟨ids, hi, hp⟩ := ids_open ok0 h0
  obtain ⟨acts, ha, hao⟩ := acts_open ok1 h1
  exact routeOwn_main W hg v0 v1 ids acts a2 hi hp ha hao
end Go.Proofs.YtbhaapkafgieiaaGreatDoor
