

/-
  IdealKnows walked.
-/
import Derived.Test.YthbijjpaljjapaaGreatDoorMade
import Derived.Test.YthbijjpaljjapaaGreatDoorRefN
namespace Go.Proofs.YthbijjpaljjapaaGreatDoor
open Go.RowKit Go.Maps Go.Sort Go.WideShapes Go.ChangeShapes Go.Deep
set_option linter.unusedVariables false
set_option linter.unusedSimpArgs false
attribute [local go_sem] later_cell later_frozen later_lt cell_set_off cell_set_block

theorem both_ok {S Q : Nat → Prop} {W w : World} {rb mb : Nat} {f : RS} {p : Where} (h : Both S Q W w rb mb f p) : RingOk W.heap.size W w rb mb f := by
  obtain ⟨g, hg⟩ := h.ring
  exact ⟨⟨g, hg.same (Nat.le_refl _) (fun _ _ _ => rfl) (fun b _ hS => h.low b hS) fun b hb => by have := h.below.size; omega⟩, h.inv, h.below⟩
/-- What Made leaves, as the laws use it that look at the ring alone. -/
theorem made_ring (W : World) (hH : HandleAt W) (v0 v1 : Value) (ids : List Int) (acts : List ActD) (n : Nat) (hi : SlAt 0 (fun i => .int .u64 (nth ids i)) ids.length W v0) (hp : ∀ x ∈ ids, isPlace x)
    (ha : ActsAt acts W v1) (hao : ∀ k, k < acts.length → (actAt acts k).ok) (hn : n ≤ 1000) (m : Int) (hm : m = n) : Calls Tryz.prog 15 #[v0, v1, .int .i64 m] W fun e w' =>
      (e = .returned (.tuple #[.pointer none, .agg #[.slice none 0 0, .slice none 0 0, .slice none 0 0, .slice none 0 0], .bool false]) ∧ RowKit.Below W.heap.size W w') ∨
      ∃ (rb mb : Nat) (f : RS) (p : Where), e = .returned (.tuple #[.pointer (some ⟨rb, 0, none⟩), (.agg #[.slice (some ⟨(p).b1, (p).o1, none⟩) 32 (p).k1, .slice (some ⟨(p).b2, (p).o2, none⟩) 32 (p).k2, .slice (some ⟨(p).b3, (p).o3, none⟩) 32 (p).k3, .slice (some ⟨(p).b4, (p).o4, none⟩) 32 (p).k4]), .bool true]) ∧ RingOk W.heap.size W w' rb mb f := by
  subst hm
  refine (made_any W hH v0 v1 ids acts n hi hp ha hao hn).mono fun e w' h => ?_
  unfold MadePost at h
  split at h
  · obtain ⟨rb, mb, f, p, S, Q, rfl, hB⟩ := h
    exact Or.inr ⟨rb, mb, f, p, rfl, both_ok hB⟩
  · exact Or.inl h

theorem told11_any (w : World) (i pr : Int) (a : Option Addr) (n c : Nat) : Calls Tryz.prog 29 #[.agg #[.int .u64 i, .int .i64 pr, .slice a n c]] w fun e w' => e = .returned (.agg #[.int .u64 i, .int .i64 pr, .slice a n c]) ∧ RowKit.Below w.heap.size w w' := by
  go_enter Tryz.func29, Tryz.ntmps29
  go_wp2_with fail
  refine bodyPost_ret (v := .agg #[.int .u64 i, .int .i64 pr, .slice a n c]) ?_ rfl ?_
  · simp [results, Tryz.results29, go_sem]
  exact ⟨rfl, by (repeat (first | exact Below.refl _ _ | (with_reducible assumption) | (with_reducible refine bel_later ?_ _) | (with_reducible refine bel_alloc ?_ _) | (with_reducible refine bel_drew ?_) | (with_reducible refine bel_drewN ?_ _) | (with_reducible refine bel_set ?_ (by first | (simp; done) | (simp; omega) | (dsimp only; omega)) _)))⟩
theorem okInt_33b {n : Int} (h0 : -1 ≤ n) (h1 : n < 33) : okInt n := by
  by_cases h : n < 32
  · exact okInt_dom h0 h
  · obtain rfl : n = 32 := by omega
    unfold okInt; decide
theorem idx_none {f : RS} (I : Inv f) {n : Int} (h : livesR f n = false) : idxI (circ f) n < 0 := by
  rcases idxI_cases (circ f) n with e | ⟨i, hi, _, e⟩
  · omega
  · have := (circ_mem I).1 (nth_mem.2 ⟨i, hi, e⟩)
    rw [h] at this; cases this
/-- The boxes of the law's: the document's ring, the circle. -/
structure KB (u : World) (T Y : Nat) (p : Where) (aa ia : Option Addr) (cl ac ic : Nat) : Prop where
  t : BoxOf u T p
  x0 : u.cell? ⟨Y, 0, none⟩ = some (.slice aa cl ac)
  x1 : u.cell? ⟨Y, 1, none⟩ = some (.slice ia cl ic)
  zY : Y < u.heap.size
theorem KB.later {u u' : World} {T Y : Nat} {p : Where} {aa ia : Option Addr} {cl ac ic : Nat} (h : KB u T Y p aa ia cl ac ic) (hb : RowKit.Below u.heap.size u u') : KB u' T Y p aa ia cl ac ic :=
  ⟨h.t.later hb, (hb.cell (p := ⟨Y, 0, none⟩) h.zY).trans h.x0, (hb.cell (p := ⟨Y, 1, none⟩) h.zY).trans h.x1, Nat.lt_of_lt_of_le h.zY hb.size⟩
set_option maxRecDepth 100000 in
set_option maxHeartbeats 16000000 in
theorem idealKnows_main (W : World) (hH : HandleAt W) (v0 v1 : Value) (ids : List Int) (acts : List ActD) (X : Int) (hX : isPlace X) (kk : Int) (hi : SlAt 0 (fun i => .int .u64 (nth ids i)) ids.length W v0) (hp : ∀ x ∈ ids, isPlace x)
    (ha : ActsAt acts W v1) (hao : ∀ k, k < acts.length → (actAt acts k).ok) : Calls Tryz.prog 4 #[v0, v1, .int .u64 X, .int .i64 kk] W (OneYes W) := by
  have CM : Hid (Calls Tryz.prog 15 #[v0, v1, .int .i64 40] W (MadePost W ids)) := made_any W hH v0 v1 ids acts 40 hi hp ha hao (by omega)
  clear hi hp ha hao hH
  go_enter Tryz.func4, Tryz.ntmps4
  go_wp2_with fail
  refine CM.out.mono ?_
  intro e w1 hm
  unfold MadePost at hm
  by_cases hf : fourB ids = true
  case neg =>
    rw [if_neg hf] at hm
    obtain ⟨rfl, hB1⟩ := hm
    go_wp2_with fail
    refine (awake11_any _).mono ?_
    rintro e w2 ⟨rfl, hB2⟩
    go_wp2_with fail
    go_ret
    exact ⟨rfl, bel_below (bel_below hB1 (bel_alloc (RowKit.Below.refl _ _) _)) hB2⟩
  case pos =>
    rw [if_pos hf] at hm
    obtain ⟨rb, mb, f, p, S, Q, rfl, hBo⟩ := hm
    have I := hBo.inv
    have h4 : 4 ≤ (circ f).length := by rw [circ_len]; exact live4 I
    have hlen : (circ f).length ≤ 32 := by rw [circ_len]; exact length_liveL f
    have HLV := Lib.hid (circ_len f)
    have HKN := Lib.hid (fun x w w' e h => know_at I x (w := w) (w' := w') (e := e) h)
    have HOF := Lib.hid (fun n (h : livesR f n = true) => okN_at I h)
    have HNO := Lib.hid (fun n (h : livesR f n = false) => idx_none I h)
    have HUP : Hid (Up ((circ f).map (idR f))) := circ_up I
    have O1 := Lib.hid hBo
    clear hBo CM hf
    go_wp2_with fail
    obtain ⟨w2, hw2⟩ : ∃ z, z = w1.alloc (.cells #[.slice (some ⟨p.b1, p.o1, none⟩) 32 p.k1, .slice (some ⟨p.b2, p.o2, none⟩) 32 p.k2, .slice (some ⟨p.b3, p.o3, none⟩) 32 p.k3, .slice (some ⟨p.b4, p.o4, none⟩) 32 p.k4] 35) := ⟨_, rfl⟩
    obtain ⟨T, hT⟩ : ∃ T, T = w1.heap.size := ⟨_, rfl⟩
    have T2 : Hid (BoxOf w2 T p) := by rw [hw2, hT]; exact ⟨by simp [go_sem], by simp [go_sem], by simp [go_sem], by simp [go_sem], by simp [go_sem], by simp [go_sem], by simp [go_sem], by simp [go_sem], by simp⟩
    have O2 : Hid (Both S Q W w2 rb mb f p) := by rw [hw2]; exact O1.out.later (bel_alloc (RowKit.Below.refl _ _) _)
    rw [← hw2, ← hT]
    clear hw2 hT O1
    obtain ⟨g2, G2⟩ := O2.out.ring
    refine (of_at G2 I).mono ?_
    rintro e w3 ⟨av, iv, rfl, hav, hiv, hB3⟩
    obtain ⟨aa, ac, rfl, _⟩ := hav.slice
    obtain ⟨ia, ic, rfl, _⟩ := hiv.slice
    have O3 := Lib.hid (O2.out.later hB3)
    have T3 := Lib.hid (T2.out.later hB3)
    have A3 := Lib.hid (hav.base (Nat.zero_le _))
    have I3 : Hid (SlAt 0 (fun i => .int .u64 (nth ((circ f).map (idR f)) i)) ((circ f).map (idR f)).length w3 (.slice ia (circ f).length ic)) := by have := hiv.base (Nat.zero_le _); show SlAt _ _ _ _ _; simpa using this
    clear hav hiv hB3 G2 O2 T2
    go_upto_region 5 with (fail)
    obtain ⟨cl, hcl⟩ : ∃ cl, cl = (circ f).length := ⟨_, rfl⟩
    rw [← hcl]
    obtain ⟨Y, hY⟩ : ∃ Y, Y = w3.heap.size := ⟨_, rfl⟩
    obtain ⟨w4, hw4⟩ : ∃ z, z = w3.alloc (.cells #[.slice aa cl ac, .slice ia cl ic] 54) := ⟨_, rfl⟩
    have b34 : RowKit.Below w3.heap.size w3 w4 := by rw [hw4]; exact bel_alloc (RowKit.Below.refl _ _) _
    have K4 : Hid (KB w4 T Y p aa ia cl ac ic) := ⟨T3.out.later b34, by rw [hw4, hY]; simp [go_sem], by rw [hw4, hY]; simp [go_sem], by rw [hw4, hY]; simp⟩
    have O4 := Lib.hid (O3.out.later b34)
    have A4 := A3.out.below b34
    have I4 := I3.out.below b34
    rw [← hw4, ← hY]
    clear hw4 hY b34 A3 I3 O3 T3
    obtain ⟨g, G⟩ := O4.out.ring
    obtain ⟨V, HV⟩ := O4.out.ref
    have CP := fun (wr : World) (hb : RowKit.Below w4.heap.size w4 wr) (n : Int) => cpeer_at wr (circ f) ((circ f).map (idR f)) _ _ (A4.below hb) (I4.below hb) (by simp) (by omega) n
    have CO := fun (wr : World) (hb : RowKit.Below w4.heap.size w4 wr) => cowner_at wr (circ f) ((circ f).map (idR f)) _ _ (A4.below hb) (I4.below hb) (by simp) (by omega) HUP.out X
    have CF := fun (wr : World) (hb : RowKit.Below w4.heap.size w4 wr) (n : Int) => finger_at wr (circ f) ((circ f).map (idR f)) _ _ (A4.below hb) (I4.below hb) (by simp) (by omega) HUP.out n kk
    rw [← hcl] at CP CO CF hlen h4
    have CIS := fun (wr : World) (hb : RowKit.Below w4.heap.size w4 wr) => is_at (G.below hb) I
    have CRL := Lib.hid fun (wr : World) (hb : RowKit.Below w4.heap.size w4 wr) => rlive_any (HV.below hb).rows
    have CRO := fun (wr : World) (hb : RowKit.Below w4.heap.size w4 wr) => rown_any (HV.below hb).rows I X hX
    have CRI := fun (wr : World) (hb : RowKit.Below w4.heap.size w4 wr) => ris_any (HV.below hb) I
    have CRV := Lib.hid fun (wr : World) (hb : RowKit.Below w4.heap.size w4 wr) (n : Int) => rlives_any (HV.below hb).rows I.dom n
    have CRF := Lib.hid fun (wr : World) (hb : RowKit.Below w4.heap.size w4 wr) (x n : Int) (hn : n = cAt (circ f) x) (hk : 0 ≤ kk ∧ kk ≤ 63) => rfing_any (HV.below hb).rows I x n hn kk hk
    have CRP := Lib.hid fun (wr : World) (hb : RowKit.Below w4.heap.size w4 wr) (x n : Int) (hn : n = cAt (circ f) x) => rpeer_any (HV.below hb).rows I x n hn
    have CPP := Lib.hid CP
    have CFN := Lib.hid CF
    clear CP CF A4 I4 G HV I HUP hX
    obtain ⟨own, hown⟩ : ∃ o, o = cOwner (circ f) ((circ f).map (idR f)) X := ⟨_, rfl⟩
    rw [← hown] at CO CRO
    clear hown
    obtain ⟨isb, hisb⟩ : ∃ o, o = isB f := ⟨_, rfl⟩
    rw [← hisb] at CIS CRI
    clear hisb
    have COO := Lib.hid CO
    have CROO := Lib.hid CRO
    have CISS := Lib.hid CIS
    have CRII := Lib.hid CRI
    have HLV2 : Hid ((liveL f).length = cl) := by show _ = _; rw [← HLV.out, hcl]
    clear CO CRO CIS CRI hcl
    have t0 := (K4).out.t.c0
    have t1 := (K4).out.t.c1
    have t2 := (K4).out.t.c2
    have t3 := (K4).out.t.c3
    have zT := (K4).out.t.z
    have x0 := (K4).out.x0
    have x1 := (K4).out.x1
    have zY := (K4).out.zY
    refine wp_region_heads [] 25 (fun w' => ∃ y : Later w4, w' = y.world) (by kernel_rfl) (by kernel_rfl) ⟨⟨{ w4 with drawn := w4.drawn + 1 }, bel_drew (RowKit.Below.refl _ _)⟩, rfl⟩ ?_ ?_
    · intro d v c a w h
      cases d <;> exact h
    · simp only [headOps]
      refine wpTame_nil ?_
      refine wpAnyC_step (f := 25) [0] (by kernel_rfl) rfl rfl (fun i hi => ?_)
      simp only [List.mem_cons, List.not_mem_nil, or_false] at hi
      subst hi
      refine ⟨_, rfl, fun R hR => ?_⟩
      go_wp2_with fail
      refine (awake11_any _).mono ?_
      rintro e w5 ⟨rfl, hb5⟩
      have B5 : Hid (RowKit.Below w4.heap.size w4 w5) := (bel_drew (RowKit.Below.refl _ _)).trans (hb5.mono (by simp))
      clear hb5
      go_wp2_with fail
      refine hR _ _ ⟨⟨w5, (B5).out⟩, rfl⟩ ?_
      clear hR R
      refine wpAnyC_mid (f := 21) [1, 2, 3, 5] ⟨⟨w5, B5.out⟩, rfl⟩ (by kernel_rfl) (fun d v c a w h => by cases d <;> exact h) ?_
      simp only [headOps]
      repeat (refine wpTame_step (fun K hK => ?_); go_simp; refine hK _ ?_; clear hK K)
      refine wpTame_nil ?_
      refine wpAnyC_step (f := 20) [4] (by kernel_rfl) rfl rfl (fun i hi => ?_)
      simp only [List.mem_cons, List.not_mem_nil, or_false] at hi
      subst hi
      refine ⟨_, rfl, fun R hR => ?_⟩
      go_wp2_with fail
      refine (circ_lenC _ _ _ _ _).mono ?_
      rintro e w6 ⟨rfl, hb6⟩
      have B6 := Lib.hid (bel_below B5.out hb6)
      clear hb6 B5
      go_wp2_with fail
      refine hR _ _ ⟨⟨w6, (B6).out⟩, rfl⟩ ?_
      clear hR R
      refine wpAnyC_step (f := 19) [6] (by kernel_rfl) rfl rfl (fun i hi => ?_)
      simp only [List.mem_cons, List.not_mem_nil, or_false] at hi
      subst hi
      refine ⟨_, rfl, fun R hR => ?_⟩
      go_wp2_with fail
      refine (CRL.out _ B6.out).mono ?_
      rintro e w7 ⟨v7, rfl, hs7, hb7⟩
      obtain ⟨va7, vc7, rfl, _⟩ := hs7.slice
      rw [HLV2.out]
      have B7 := Lib.hid (bel_below B6.out hb7)
      clear hb7 hs7 B6
      go_wp2_with fail
      refine hR _ _ ⟨⟨w7, (B7).out⟩, rfl⟩ ?_
      clear hR R
      refine wpAnyC_mid (f := 11) [7, 8, 9, 10, 11, 12, 14, 15] ⟨⟨w7, B7.out⟩, rfl⟩ (by kernel_rfl) (fun d v c a w h => by cases d <;> exact h) ?_
      simp only [headOps]
      repeat (refine wpTame_step (fun K hK => ?_); go_simp; refine hK _ ?_; clear hK K)
      refine wpTame_nil ?_
      refine wpAnyC_step (f := 10) [13] (by kernel_rfl) rfl rfl (fun i hi => ?_)
      simp only [List.mem_cons, List.not_mem_nil, or_false] at hi
      subst hi
      refine ⟨_, rfl, fun R hR => ?_⟩
      go_wp2_with fail
      refine (COO.out _ B7.out).mono ?_
      rintro e w8 ⟨rfl, hb8⟩
      have B8 := Lib.hid (bel_below B7.out hb8)
      clear hb8 B7
      go_wp2_with fail
      refine hR _ _ ⟨⟨w8, (B8).out⟩, rfl⟩ ?_
      clear hR R
      refine wpAnyC_step (f := 9) [16] (by kernel_rfl) rfl rfl (fun i hi => ?_)
      simp only [List.mem_cons, List.not_mem_nil, or_false] at hi
      subst hi
      refine ⟨_, rfl, fun R hR => ?_⟩
      go_wp2_with fail
      refine (CROO.out _ B8.out).mono ?_
      rintro e w9 ⟨rfl, hb9⟩
      have B9 := Lib.hid (bel_below B8.out hb9)
      clear hb9 B8
      go_wp2_with fail
      refine hR _ _ ⟨⟨w9, (B9).out⟩, rfl⟩ ?_
      clear hR R
      refine wpAnyC_mid (f := 4) [17, 18, 19, 20, 22] ⟨⟨w9, B9.out⟩, rfl⟩ (by kernel_rfl) (fun d v c a w h => by cases d <;> exact h) ?_
      simp only [headOps]
      repeat (refine wpTame_step (fun K hK => ?_); go_simp; refine hK _ ?_; clear hK K)
      refine wpTame_nil ?_
      refine wpAnyC_step (f := 3) [21] (by kernel_rfl) rfl rfl (fun i hi => ?_)
      simp only [List.mem_cons, List.not_mem_nil, or_false] at hi
      subst hi
      refine ⟨_, rfl, fun R hR => ?_⟩
      go_wp2_with fail
      refine (CISS.out _ B9.out).mono ?_
      rintro e w10 ⟨rfl, hb10⟩
      have B10 := Lib.hid (bel_below B9.out hb10)
      clear hb10 B9
      go_wp2_with fail
      refine hR _ _ ⟨⟨w10, (B10).out⟩, rfl⟩ ?_
      clear hR R
      refine wpAnyC_step (f := 2) [23] (by kernel_rfl) rfl rfl (fun i hi => ?_)
      simp only [List.mem_cons, List.not_mem_nil, or_false] at hi
      subst hi
      refine ⟨_, rfl, fun R hR => ?_⟩
      go_wp2_with fail
      refine (CRII.out _ B10.out).mono ?_
      rintro e w11 ⟨rfl, hb11⟩
      have B11 := Lib.hid (bel_below B10.out hb11)
      clear hb11 B10
      go_wp2_with fail
      refine hR _ _ ⟨⟨w11, (B11).out⟩, rfl⟩ ?_
      clear hR R
      refine wpAnyC_step (f := 1) [24] (by kernel_rfl) rfl rfl (fun i hi => ?_)
      simp only [List.mem_cons, List.not_mem_nil, or_false] at hi
      subst hi
      refine ⟨_, rfl, fun R hR => ?_⟩
      go_wp2_with fail
      refine hR _ _ ⟨⟨w11, B11.out⟩, rfl⟩ ?_
      clear hR R
      refine wpAnyC_end (k := 25) (by decide) rfl rfl (by kernel_rfl) ?_
      clear t0 t1 t2 t3 zT x0 x1 zY
      clear COO CROO CISS CRII CRL
      go_wp2_with fail
      go_loopw [13, 14, 15, 16, 59] (fun i _ _ _ _ wr => ∃ (k : Nat) (n : Int), k ≤ 34 ∧ n = (k : Int) - 1 ∧ i = .int .i64 n ∧ Hid (RowKit.Below w4.heap.size w4 wr)) (fun i _ _ _ _ _ => (33 - intOf i).toNat)
      case atStart => exact ⟨0, -1, by omega, by omega, rfl, B11.out⟩
      case round =>
        obtain ⟨k, n, hk, hn, rfl, hB⟩ := hrel
        have hn0 : -1 ≤ n := by omega
        have HN := Lib.hid hn
        have K11 := Lib.hid (K4.out.later hB.out)
        by_cases hlt : k < 34
        · have hn1 : n < 33 := by omega
          clear hn
          have t0 := (K11).out.t.c0
          have t1 := (K11).out.t.c1
          have t2 := (K11).out.t.c2
          have t3 := (K11).out.t.c3
          have zT := (K11).out.t.z
          have x0 := (K11).out.x0
          have x1 := (K11).out.x1
          have zY := (K11).out.zY
          go_wp2_with fail
          refine (CPP.out _ hB.out n).mono ?_
          intro e w12 hk12
          cases hL : livesR f n
          · have hidx := HNO.out n hL
            unfold KnowPost at hk12
            rw [if_pos hidx] at hk12
            obtain ⟨rfl, hb12⟩ := hk12
            have B12 := Lib.hid (bel_below hB.out hb12)
            have hF : cFinger (circ f) ((circ f).map (idR f)) n kk = -1 := by unfold cFinger; rw [if_pos (Or.inl hidx)]
            have CFF := fun (wr : World) (hb : RowKit.Below w4.heap.size w4 wr) => CFN.out wr hb n
            rw [hF] at CFF
            have CFFF := Lib.hid CFF
            clear hb12 hidx CFF hF
            clear t0 t1 t2 t3 zT x0 x1 zY
            go_upto_region 11 with (fail)
            obtain ⟨w13, hw13⟩ : ∃ z, z = w12.alloc (.cells #[.int .u64 0, .int .i64 0, .slice none 0 0] 63) := ⟨_, rfl⟩
            obtain ⟨Z, hZ⟩ : ∃ Z, Z = w12.heap.size := ⟨_, rfl⟩
            have b13 : RowKit.Below w12.heap.size w12 w13 := by rw [hw13]; exact bel_alloc (RowKit.Below.refl _ _) _
            have Z13 : Hid (Box3 w13 Z (.int .u64 0) (.int .i64 0) (.slice none 0 0)) := by rw [hw13, hZ]; exact ⟨by simp [go_sem], by simp [go_sem], by simp [go_sem], by simp [go_sem], by simp [go_sem], by simp [go_sem], by simp⟩
            have B13 := Lib.hid (bel_below B12.out b13)
            have K13 := Lib.hid (K4.out.later B13.out)
            rw [← hw13, ← hZ]
            clear hw13 hZ b13
            have t0 := (K13).out.t.c0
            have t1 := (K13).out.t.c1
            have t2 := (K13).out.t.c2
            have t3 := (K13).out.t.c3
            have zT := (K13).out.t.z
            have x0 := (K13).out.x0
            have x1 := (K13).out.x1
            have zY := (K13).out.zY
            go_wp2_with fail
            refine (CRV.out _ B13.out n).mono ?_
            rw [hL]
            rintro e w14 ⟨rfl, hb14⟩
            have B14 := Lib.hid (bel_below B13.out hb14)
            have Z14 := Lib.hid (Z13.out.later hb14)
            have K14 := Lib.hid (K4.out.later B14.out)
            clear t0 t1 t2 t3 zT x0 x1 zY
            clear hb14
            have t0 := (K14).out.t.c0
            have t1 := (K14).out.t.c1
            have t2 := (K14).out.t.c2
            have t3 := (K14).out.t.c3
            have zT := (K14).out.t.z
            have x0 := (K14).out.x0
            have x1 := (K14).out.x1
            have zY := (K14).out.zY
            go_wp2_with fail
            refine (CFFF.out _ B14.out).mono ?_
            rintro e w15 ⟨rfl, hb15⟩
            have B15 := Lib.hid (bel_below B14.out hb15)
            have Z15 := Lib.hid (Z14.out.later hb15)
            clear hb15
            clear t0 t1 t2 t3 zT x0 x1 zY
            have z0 := (Z15).out.c0
            have z1 := (Z15).out.c1
            have z2 := (Z15).out.c2
            have zZ := (Z15).out.z
            go_wp2_with fail
            go_roundw
            case rel => go_light; exact ⟨k + 1, n + 1, by omega, by have := HN.out; omega, by go_num, B15.out⟩
            case measure => go_light; simp [intOf]; omega
          · obtain ⟨x, hx, _⟩ := HOF.out n hL
            have HX := Lib.hid hx
            clear hx
            rw [HX.out] at hk12
            obtain ⟨v, l, rfl, hl3, _, hll, hs, hb12⟩ := HKN.out _ _ _ _ hk12
            obtain ⟨va, vc, rfl, _⟩ := hs.slice
            rw [← HX.out]
            have B12 := Lib.hid (bel_below hB.out hb12)
            have S12 : Hid (SlAt 0 (fun i => .int .i64 (nth l i)) 3 w12 (.slice va 3 vc)) := hs.base (Nat.zero_le _)
            have HLL := Lib.hid hll
            obtain ⟨idn, hidn⟩ : ∃ a, a = idR f n := ⟨_, rfl⟩
            obtain ⟨prn, hprn⟩ : ∃ a, a = cAt (circ f) (x - 1) := ⟨_, rfl⟩
            rw [← hidn, ← hprn]
            have HIDN := Lib.hid hidn
            have HPR := Lib.hid hprn
            obtain ⟨F, hF⟩ : ∃ F, F = cFinger (circ f) ((circ f).map (idR f)) n kk := ⟨_, rfl⟩
            have CFF0 := fun (wr : World) (hb : RowKit.Below w4.heap.size w4 wr) => CFN.out wr hb n
            rw [← hF] at CFF0
            have HF := Lib.hid hF
            clear hb12 hll hs hidn hprn hk12 hF
            clear t0 t1 t2 t3 zT x0 x1 zY
            go_upto_region 11 with (fail)
            obtain ⟨w13, hw13⟩ : ∃ z, z = w12.alloc (.cells #[.int .u64 idn, .int .i64 prn, .slice va 3 vc] 63) := ⟨_, rfl⟩
            obtain ⟨Z, hZ⟩ : ∃ Z, Z = w12.heap.size := ⟨_, rfl⟩
            have b13 : RowKit.Below w12.heap.size w12 w13 := by rw [hw13]; exact bel_alloc (RowKit.Below.refl _ _) _
            have Z13 : Hid (Box3 w13 Z (.int .u64 idn) (.int .i64 prn) (.slice va 3 vc)) := by rw [hw13, hZ]; exact ⟨by simp [go_sem], by simp [go_sem], by simp [go_sem], by simp [go_sem], by simp [go_sem], by simp [go_sem], by simp⟩
            have B13 := Lib.hid (bel_below B12.out b13)
            have S13 := Lib.hid (S12.out.below b13)
            have K13 := Lib.hid (K4.out.later B13.out)
            rw [← hw13, ← hZ]
            clear hw13 hZ b13 S12
            have t0 := (K13).out.t.c0
            have t1 := (K13).out.t.c1
            have t2 := (K13).out.t.c2
            have t3 := (K13).out.t.c3
            have zT := (K13).out.t.z
            have x0 := (K13).out.x0
            have x1 := (K13).out.x1
            have zY := (K13).out.zY
            go_wp2_with fail
            refine (CRV.out _ B13.out n).mono ?_
            rw [hL]
            rintro e w14 ⟨rfl, hb14⟩
            have B14 := Lib.hid (bel_below B13.out hb14)
            have Z14 := Lib.hid (Z13.out.later hb14)
            have S14 := Lib.hid (S13.out.below hb14)
            have K14 := Lib.hid (K4.out.later B14.out)
            clear t0 t1 t2 t3 zT x0 x1 zY
            clear hb14 S13 Z13 K13
            by_cases hk0 : 0 ≤ kk
            · by_cases hk1 : kk < 64
              · have CFF := Lib.hid CFF0
                clear CFF0
                have t0 := (K14).out.t.c0
                have t1 := (K14).out.t.c1
                have t2 := (K14).out.t.c2
                have t3 := (K14).out.t.c3
                have zT := (K14).out.t.z
                have x0 := (K14).out.x0
                have x1 := (K14).out.x1
                have zY := (K14).out.zY
                go_wp2_with fail
                refine (CRF.out _ B14.out x n HX.out ⟨hk0, by omega⟩).mono ?_
                rw [← HF.out]
                rintro e w15 ⟨rfl, hb15⟩
                have B15 := Lib.hid (bel_below B14.out hb15)
                have Z15 := Lib.hid (Z14.out.later hb15)
                have S15 := Lib.hid (S14.out.below hb15)
                have K15 := Lib.hid (K4.out.later B15.out)
                clear hb15 S14 Z14 K14
                clear t0 t1 t2 t3 zT x0 x1 zY
                go_wp2_with fail
                have K16 := K15
                have t0 := (K15).out.t.c0
                have t1 := (K15).out.t.c1
                have t2 := (K15).out.t.c2
                have t3 := (K15).out.t.c3
                have zT := (K15).out.t.z
                have x0 := (K15).out.x0
                have x1 := (K15).out.x1
                have zY := (K15).out.zY
                have z0 := (Z15).out.c0
                have z1 := (Z15).out.c1
                have z2 := (Z15).out.c2
                have zZ := (Z15).out.z
                refine wp_region_heads [0, 2, 3] 14 (fun w' => ∃ y : Later w15, w' = y.world) (by kernel_rfl) (by kernel_rfl) ⟨⟨{ w15 with drawn := w15.drawn + 1 }, bel_drew (RowKit.Below.refl _ _)⟩, rfl⟩ ?_ ?_
                · intro d v c a w h
                  cases d <;> exact h
                · simp only [headOps]
                  repeat (refine wpTame_step (fun K hK => ?_); go_simp; refine hK _ ?_; clear hK K)
                  refine wpTame_nil ?_
                  refine wpAnyC_step (f := 11) [1] (by kernel_rfl) rfl rfl (fun i hi => ?_)
                  simp only [List.mem_cons, List.not_mem_nil, or_false] at hi
                  subst hi
                  refine ⟨_, rfl, fun R hR => ?_⟩
                  go_wp2_with fail
                  refine (told11_any _ _ _ _ _ _).mono ?_
                  rintro e w16 ⟨rfl, hb16⟩
                  have b16 : RowKit.Below w15.heap.size w15 w16 := (bel_drew (RowKit.Below.refl _ _)).trans (hb16.mono (by simp))
                  have B16 := Lib.hid b16
                  have S16 := Lib.hid (S15.out.below b16)
                  clear b16 hb16
                  go_wp2_with fail
                  refine hR _ _ ⟨⟨w16, (B16).out⟩, rfl⟩ ?_
                  clear hR R
                  refine wpAnyC_step (f := 10) [4] (by kernel_rfl) rfl rfl (fun i hi => ?_)
                  simp only [List.mem_cons, List.not_mem_nil, or_false] at hi
                  subst hi
                  refine ⟨_, rfl, fun R hR => ?_⟩
                  go_wp2_with fail
                  refine (CRP.out _ (bel_below B15.out B16.out) x n HX.out).mono ?_
                  rintro e w17 ⟨v17, rfl, hs17, hb17⟩
                  obtain ⟨va17, vc17, rfl, _⟩ := hs17.slice
                  have B17 := Lib.hid (bel_below B16.out hb17)
                  have S17 := Lib.hid (S16.out.below hb17)
                  have U17 : Hid (SlAt 0 (fun i => .int .i64 (nth [cAt (circ f) (x + 1), cAt (circ f) (x + 2), cAt (circ f) (x + 3)] i)) 3 w17 (.slice va17 3 vc17)) := hs17.base (Nat.zero_le _)
                  rw [← HLL.out] at U17
                  rw [← HX.out, ← HPR.out, ← HIDN.out]
                  clear hs17 hb17 S16 B16
                  go_wp2_with fail
                  refine hR _ _ ⟨⟨w17, (B17).out⟩, rfl⟩ ?_
                  clear hR R
                  refine wpAnyC_step (f := 9) [5] (by kernel_rfl) rfl rfl (fun i hi => ?_)
                  simp only [List.mem_cons, List.not_mem_nil, or_false] at hi
                  subst hi
                  refine ⟨_, rfl, fun R hR => ?_⟩
                  go_wp2_with fail
                  refine (rsamek_any _ idn prn _ l idn prn _ l (by rw [hl3]; exact S17.out) (by rw [hl3]; exact U17.out) (by omega)).mono ?_
                  rw [show sameK idn prn l idn prn l = true by simp [sameK, sameI]]
                  rintro e w18 ⟨rfl, hb18⟩
                  have B18 := Lib.hid (bel_below B17.out hb18)
                  clear hb18 S17 U17 B17
                  go_wp2_with fail
                  refine hR _ _ ⟨⟨w18, (B18).out⟩, rfl⟩ ?_
                  clear hR R
                  refine wpAnyC_mid (f := 3) [6, 7, 8, 9, 10, 12] ⟨⟨w18, B18.out⟩, rfl⟩ (by kernel_rfl) (fun d v c a w h => by cases d <;> exact h) ?_
                  simp only [headOps]
                  repeat (refine wpTame_step (fun K hK => ?_); go_simp; refine hK _ ?_; clear hK K)
                  refine wpTame_nil ?_
                  refine wpAnyC_step (f := 2) [11] (by kernel_rfl) rfl rfl (fun i hi => ?_)
                  simp only [List.mem_cons, List.not_mem_nil, or_false] at hi
                  subst hi
                  refine ⟨_, rfl, fun R hR => ?_⟩
                  go_wp2_with fail
                  refine (CFF.out _ (bel_below B15.out B18.out)).mono ?_
                  rintro e w19 ⟨rfl, hb19⟩
                  have B19 := Lib.hid (bel_below B18.out hb19)
                  clear hb19 B18
                  go_wp2_with fail
                  refine hR _ _ ⟨⟨w19, (B19).out⟩, rfl⟩ ?_
                  clear hR R
                  refine wpAnyC_step (f := 1) [13] (by kernel_rfl) rfl rfl (fun i hi => ?_)
                  simp only [List.mem_cons, List.not_mem_nil, or_false] at hi
                  subst hi
                  refine ⟨_, rfl, fun R hR => ?_⟩
                  go_wp2_with fail
                  refine hR _ _ ⟨⟨w19, B19.out⟩, rfl⟩ ?_
                  clear hR R
                  refine wpAnyC_end (k := 14) (by decide) rfl rfl (by kernel_rfl) ?_
                  clear t0 t1 t2 t3 zT x0 x1 zY
                  clear z0 z1 z2 zZ
                  go_wp2_with fail
                  go_roundw
                  case rel => go_light; exact ⟨k + 1, n + 1, by omega, by have := HN.out; omega, by go_num, bel_below B15.out B19.out⟩
                  case measure => go_light; simp [intOf]; omega
              · have hFm : F = -1 := by rw [HF.out]; unfold cFinger; rw [if_pos (Or.inr (Or.inr (by omega)))]
                rw [hFm] at CFF0
                have CFF := Lib.hid CFF0
                clear CFF0 hFm
                obtain ⟨w15, hw15⟩ : ∃ z, z = w14 := ⟨_, rfl⟩
                rw [← hw15] at B14 Z14 S14 K14 ⊢
                have B15 := B14
                have Z15 := Z14
                have S15 := S14
                have K15 := K14
                clear B14 Z14 S14 K14 hw15
                go_wp2_with fail
                have K16 := K15
                have t0 := (K15).out.t.c0
                have t1 := (K15).out.t.c1
                have t2 := (K15).out.t.c2
                have t3 := (K15).out.t.c3
                have zT := (K15).out.t.z
                have x0 := (K15).out.x0
                have x1 := (K15).out.x1
                have zY := (K15).out.zY
                have z0 := (Z15).out.c0
                have z1 := (Z15).out.c1
                have z2 := (Z15).out.c2
                have zZ := (Z15).out.z
                refine wp_region_heads [0, 2, 3] 14 (fun w' => ∃ y : Later w15, w' = y.world) (by kernel_rfl) (by kernel_rfl) ⟨⟨{ w15 with drawn := w15.drawn + 1 }, bel_drew (RowKit.Below.refl _ _)⟩, rfl⟩ ?_ ?_
                · intro d v c a w h
                  cases d <;> exact h
                · simp only [headOps]
                  repeat (refine wpTame_step (fun K hK => ?_); go_simp; refine hK _ ?_; clear hK K)
                  refine wpTame_nil ?_
                  refine wpAnyC_step (f := 11) [1] (by kernel_rfl) rfl rfl (fun i hi => ?_)
                  simp only [List.mem_cons, List.not_mem_nil, or_false] at hi
                  subst hi
                  refine ⟨_, rfl, fun R hR => ?_⟩
                  go_wp2_with fail
                  refine (told11_any _ _ _ _ _ _).mono ?_
                  rintro e w16 ⟨rfl, hb16⟩
                  have b16 : RowKit.Below w15.heap.size w15 w16 := (bel_drew (RowKit.Below.refl _ _)).trans (hb16.mono (by simp))
                  have B16 := Lib.hid b16
                  have S16 := Lib.hid (S15.out.below b16)
                  clear b16 hb16
                  go_wp2_with fail
                  refine hR _ _ ⟨⟨w16, (B16).out⟩, rfl⟩ ?_
                  clear hR R
                  refine wpAnyC_step (f := 10) [4] (by kernel_rfl) rfl rfl (fun i hi => ?_)
                  simp only [List.mem_cons, List.not_mem_nil, or_false] at hi
                  subst hi
                  refine ⟨_, rfl, fun R hR => ?_⟩
                  go_wp2_with fail
                  refine (CRP.out _ (bel_below B15.out B16.out) x n HX.out).mono ?_
                  rintro e w17 ⟨v17, rfl, hs17, hb17⟩
                  obtain ⟨va17, vc17, rfl, _⟩ := hs17.slice
                  have B17 := Lib.hid (bel_below B16.out hb17)
                  have S17 := Lib.hid (S16.out.below hb17)
                  have U17 : Hid (SlAt 0 (fun i => .int .i64 (nth [cAt (circ f) (x + 1), cAt (circ f) (x + 2), cAt (circ f) (x + 3)] i)) 3 w17 (.slice va17 3 vc17)) := hs17.base (Nat.zero_le _)
                  rw [← HLL.out] at U17
                  rw [← HX.out, ← HPR.out, ← HIDN.out]
                  clear hs17 hb17 S16 B16
                  go_wp2_with fail
                  refine hR _ _ ⟨⟨w17, (B17).out⟩, rfl⟩ ?_
                  clear hR R
                  refine wpAnyC_step (f := 9) [5] (by kernel_rfl) rfl rfl (fun i hi => ?_)
                  simp only [List.mem_cons, List.not_mem_nil, or_false] at hi
                  subst hi
                  refine ⟨_, rfl, fun R hR => ?_⟩
                  go_wp2_with fail
                  refine (rsamek_any _ idn prn _ l idn prn _ l (by rw [hl3]; exact S17.out) (by rw [hl3]; exact U17.out) (by omega)).mono ?_
                  rw [show sameK idn prn l idn prn l = true by simp [sameK, sameI]]
                  rintro e w18 ⟨rfl, hb18⟩
                  have B18 := Lib.hid (bel_below B17.out hb18)
                  clear hb18 S17 U17 B17
                  go_wp2_with fail
                  refine hR _ _ ⟨⟨w18, (B18).out⟩, rfl⟩ ?_
                  clear hR R
                  refine wpAnyC_mid (f := 3) [6, 7, 8, 9, 10, 12] ⟨⟨w18, B18.out⟩, rfl⟩ (by kernel_rfl) (fun d v c a w h => by cases d <;> exact h) ?_
                  simp only [headOps]
                  repeat (refine wpTame_step (fun K hK => ?_); go_simp; refine hK _ ?_; clear hK K)
                  refine wpTame_nil ?_
                  refine wpAnyC_step (f := 2) [11] (by kernel_rfl) rfl rfl (fun i hi => ?_)
                  simp only [List.mem_cons, List.not_mem_nil, or_false] at hi
                  subst hi
                  refine ⟨_, rfl, fun R hR => ?_⟩
                  go_wp2_with fail
                  refine (CFF.out _ (bel_below B15.out B18.out)).mono ?_
                  rintro e w19 ⟨rfl, hb19⟩
                  have B19 := Lib.hid (bel_below B18.out hb19)
                  clear hb19 B18
                  go_wp2_with fail
                  refine hR _ _ ⟨⟨w19, (B19).out⟩, rfl⟩ ?_
                  clear hR R
                  refine wpAnyC_step (f := 1) [13] (by kernel_rfl) rfl rfl (fun i hi => ?_)
                  simp only [List.mem_cons, List.not_mem_nil, or_false] at hi
                  subst hi
                  refine ⟨_, rfl, fun R hR => ?_⟩
                  go_wp2_with fail
                  refine hR _ _ ⟨⟨w19, B19.out⟩, rfl⟩ ?_
                  clear hR R
                  refine wpAnyC_end (k := 14) (by decide) rfl rfl (by kernel_rfl) ?_
                  clear t0 t1 t2 t3 zT x0 x1 zY
                  clear z0 z1 z2 zZ
                  go_wp2_with fail
                  go_roundw
                  case rel => go_light; exact ⟨k + 1, n + 1, by omega, by have := HN.out; omega, by go_num, bel_below B15.out B19.out⟩
                  case measure => go_light; simp [intOf]; omega
            · have hFm : F = -1 := by rw [HF.out]; unfold cFinger; rw [if_pos (Or.inr (Or.inl (by omega)))]
              rw [hFm] at CFF0
              have CFF := Lib.hid CFF0
              clear CFF0 hFm
              obtain ⟨w15, hw15⟩ : ∃ z, z = w14 := ⟨_, rfl⟩
              rw [← hw15] at B14 Z14 S14 K14 ⊢
              have B15 := B14
              have Z15 := Z14
              have S15 := S14
              have K15 := K14
              clear B14 Z14 S14 K14 hw15
              go_wp2_with fail
              have K16 := K15
              have t0 := (K15).out.t.c0
              have t1 := (K15).out.t.c1
              have t2 := (K15).out.t.c2
              have t3 := (K15).out.t.c3
              have zT := (K15).out.t.z
              have x0 := (K15).out.x0
              have x1 := (K15).out.x1
              have zY := (K15).out.zY
              have z0 := (Z15).out.c0
              have z1 := (Z15).out.c1
              have z2 := (Z15).out.c2
              have zZ := (Z15).out.z
              refine wp_region_heads [0, 2, 3] 14 (fun w' => ∃ y : Later w15, w' = y.world) (by kernel_rfl) (by kernel_rfl) ⟨⟨{ w15 with drawn := w15.drawn + 1 }, bel_drew (RowKit.Below.refl _ _)⟩, rfl⟩ ?_ ?_
              · intro d v c a w h
                cases d <;> exact h
              · simp only [headOps]
                repeat (refine wpTame_step (fun K hK => ?_); go_simp; refine hK _ ?_; clear hK K)
                refine wpTame_nil ?_
                refine wpAnyC_step (f := 11) [1] (by kernel_rfl) rfl rfl (fun i hi => ?_)
                simp only [List.mem_cons, List.not_mem_nil, or_false] at hi
                subst hi
                refine ⟨_, rfl, fun R hR => ?_⟩
                go_wp2_with fail
                refine (told11_any _ _ _ _ _ _).mono ?_
                rintro e w16 ⟨rfl, hb16⟩
                have b16 : RowKit.Below w15.heap.size w15 w16 := (bel_drew (RowKit.Below.refl _ _)).trans (hb16.mono (by simp))
                have B16 := Lib.hid b16
                have S16 := Lib.hid (S15.out.below b16)
                clear b16 hb16
                go_wp2_with fail
                refine hR _ _ ⟨⟨w16, (B16).out⟩, rfl⟩ ?_
                clear hR R
                refine wpAnyC_step (f := 10) [4] (by kernel_rfl) rfl rfl (fun i hi => ?_)
                simp only [List.mem_cons, List.not_mem_nil, or_false] at hi
                subst hi
                refine ⟨_, rfl, fun R hR => ?_⟩
                go_wp2_with fail
                refine (CRP.out _ (bel_below B15.out B16.out) x n HX.out).mono ?_
                rintro e w17 ⟨v17, rfl, hs17, hb17⟩
                obtain ⟨va17, vc17, rfl, _⟩ := hs17.slice
                have B17 := Lib.hid (bel_below B16.out hb17)
                have S17 := Lib.hid (S16.out.below hb17)
                have U17 : Hid (SlAt 0 (fun i => .int .i64 (nth [cAt (circ f) (x + 1), cAt (circ f) (x + 2), cAt (circ f) (x + 3)] i)) 3 w17 (.slice va17 3 vc17)) := hs17.base (Nat.zero_le _)
                rw [← HLL.out] at U17
                rw [← HX.out, ← HPR.out, ← HIDN.out]
                clear hs17 hb17 S16 B16
                go_wp2_with fail
                refine hR _ _ ⟨⟨w17, (B17).out⟩, rfl⟩ ?_
                clear hR R
                refine wpAnyC_step (f := 9) [5] (by kernel_rfl) rfl rfl (fun i hi => ?_)
                simp only [List.mem_cons, List.not_mem_nil, or_false] at hi
                subst hi
                refine ⟨_, rfl, fun R hR => ?_⟩
                go_wp2_with fail
                refine (rsamek_any _ idn prn _ l idn prn _ l (by rw [hl3]; exact S17.out) (by rw [hl3]; exact U17.out) (by omega)).mono ?_
                rw [show sameK idn prn l idn prn l = true by simp [sameK, sameI]]
                rintro e w18 ⟨rfl, hb18⟩
                have B18 := Lib.hid (bel_below B17.out hb18)
                clear hb18 S17 U17 B17
                go_wp2_with fail
                refine hR _ _ ⟨⟨w18, (B18).out⟩, rfl⟩ ?_
                clear hR R
                refine wpAnyC_mid (f := 3) [6, 7, 8, 9, 10, 12] ⟨⟨w18, B18.out⟩, rfl⟩ (by kernel_rfl) (fun d v c a w h => by cases d <;> exact h) ?_
                simp only [headOps]
                repeat (refine wpTame_step (fun K hK => ?_); go_simp; refine hK _ ?_; clear hK K)
                refine wpTame_nil ?_
                refine wpAnyC_step (f := 2) [11] (by kernel_rfl) rfl rfl (fun i hi => ?_)
                simp only [List.mem_cons, List.not_mem_nil, or_false] at hi
                subst hi
                refine ⟨_, rfl, fun R hR => ?_⟩
                go_wp2_with fail
                refine (CFF.out _ (bel_below B15.out B18.out)).mono ?_
                rintro e w19 ⟨rfl, hb19⟩
                have B19 := Lib.hid (bel_below B18.out hb19)
                clear hb19 B18
                go_wp2_with fail
                refine hR _ _ ⟨⟨w19, (B19).out⟩, rfl⟩ ?_
                clear hR R
                refine wpAnyC_step (f := 1) [13] (by kernel_rfl) rfl rfl (fun i hi => ?_)
                simp only [List.mem_cons, List.not_mem_nil, or_false] at hi
                subst hi
                refine ⟨_, rfl, fun R hR => ?_⟩
                go_wp2_with fail
                refine hR _ _ ⟨⟨w19, B19.out⟩, rfl⟩ ?_
                clear hR R
                refine wpAnyC_end (k := 14) (by decide) rfl rfl (by kernel_rfl) ?_
                clear t0 t1 t2 t3 zT x0 x1 zY
                clear z0 z1 z2 zZ
                go_wp2_with fail
                go_roundw
                case rel => go_light; exact ⟨k + 1, n + 1, by omega, by have := HN.out; omega, by go_num, bel_below B15.out B19.out⟩
                case measure => go_light; simp [intOf]; omega
        · have hn1 : ¬ n < 33 := by omega
          clear hn
          go_wp2_with fail
          go_ret
          exact ⟨rfl, bel_below O4.out.below hB.out⟩
set_option maxRecDepth 100000 in
theorem idealKnows_walk {H : Type} (enc : TypeId × Value → H) (W : World) (v0 : Value) (d0 : DataW H) (p0 : List MemPlace) {r0 : Reach} {b0 : Nat} (ok0 : Value.okWide Tryz.prog W r0 b0 22 v0) (h0 : DataW.Trod enc Tryz.prog W 0 (fun _ => true) true 22 v0 d0 p0)
    (hlt0 : ∀ x ∈ p0, x.block < W.heap.size) (sz0 : ∀ n ∈ d0.weights Tryz.prog 22, n ≤ reachBytes) (v1 : Value) (d1 : DataW H) (p1 : List MemPlace) {r1 : Reach} {b1 : Nat} (ok1 : Value.okWide Tryz.prog W r1 b1 23 v1) (h1 : DataW.Trod enc Tryz.prog W 0 (fun _ => true) true 23 v1 d1 p1)
    (hlt1 : ∀ x ∈ p1, x.block < W.heap.size) (sz1 : ∀ n ∈ d1.weights Tryz.prog 23, n ≤ reachBytes) (a2 : Int) (w2 : (Lit.int .u64 a2).wf = true) (a3 : Int) (w3 : (Lit.int .i64 a3).wf = true) (hg : HandleAt W) :
    Calls Tryz.prog 4 #[v0, v1, .int .u64 a2, .int .i64 a3] W fun e W' => e = .returned (.bool true) ∧ RowKit.Below W.heap.size W W' := by
  obtain ⟨ids, hi, hp⟩ := ids_open ok0 h0
  obtain ⟨acts, ha, hao⟩ := acts_open ok1 h1
  exact idealKnows_main W hg v0 v1 ids acts a2 (placeOf w2) a3 hi hp ha hao
end Go.Proofs.YthbijjpaljjapaaGreatDoor
