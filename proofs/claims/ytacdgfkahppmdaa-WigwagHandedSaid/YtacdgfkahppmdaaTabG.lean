

/-
  What the statements on tables call: Cut, Texts; a table of the call's own; entries that came in.
-/
import Derived.Test.YtacdgfkahppmdaaTabD
namespace Go.Proofs.Ytacdgfkahppmdaa
open Go.RowKit Go.Maps Go.Sort Go.WideShapes Go.ChangeShapes Go.Deep
set_option linter.unusedVariables false
set_option linter.unusedSimpArgs false
attribute [local go_sem] later_cell later_frozen later_lt cell_set_off cell_set_block keptT_cell keptT_lt

def cutT (s : Str) : Str := s.take 30
theorem cutT_len (s : Str) : (cutT s).length ≤ 30 := by unfold cutT; rw [List.length_take]; omega
theorem bs_extract (s : Str) : (bs s).extract 0 30 = bs (cutT s) := by
  apply ByteArray.ext
  rw [ByteArray.data_extract]
  apply Array.toList_inj.1
  simp [bs, cutT]
theorem cut1_any (s : Str) (w : World) : Calls Try.prog 25 #[.string (bs s), .int .i64 30] w fun e w' => e = .returned (.string (bs (cutT s))) ∧ w = w' := by
  have hsz := bs_size s
  by_cases h : 30 < s.length
  · have hI : (30 : Int) < (((bs s).size : Nat) : Int) := by omega
    have hx := bs_extract s
    go_enter Try.func25, Try.ntmps25
    go_wp2
    go_ret
    exact ⟨by rw [← hx]; first | done | rfl, rfl⟩
  · have hI : ¬ (30 : Int) < (((bs s).size : Nat) : Int) := by omega
    have hx : Hid (cutT s = s) := show _ = _ by unfold cutT; exact List.take_of_length_le (by omega)
    go_enter Try.func25, Try.ntmps25
    go_wp2
    go_ret
    exact ⟨by rw [hx.out]; first | done | rfl, rfl⟩
/-- Two lists of texts. -/
theorem texts_any {B B' : Nat} (w : World) (u v : Value) (a b : List Str) (ha : SlS B a w u) (hb : SlS B' b w v) (hl : a.length ≤ 100000000) : Calls Try.prog 20 #[u, v] w fun e w' => e = .returned (.bool (decide (a = b))) ∧ Below w.heap.size w w' := by
  obtain ⟨pa, qa, rfl, _⟩ := ha.slice
  obtain ⟨pb, qb, rfl, _⟩ := hb.slice
  have SA := Lib.hid ha
  have SB := Lib.hid hb
  have HP : Hid (∀ (z : Bool) w', (z = true ↔ a = b) → Below w.heap.size w w' → Ending.returned (.bool z) = .returned (.bool (decide (a = b))) ∧ Below w.heap.size w w') := fun z w' h1 h2 => ⟨by congr 2; rw [Bool.eq_iff_iff, h1, decide_eq_true_eq], h2⟩
  clear ha hb
  by_cases hn : a.length = b.length
  · have hnb : ((a.length : Int) != (b.length : Int)) = false := by rw [hn]; simp
    have HN := Lib.hid hn
    clear hn
    go_enter Try.func20, Try.ntmps20
    go_wp2_with fail
    go_loopw [13] (fun i wr => ∃ k : Nat, k ≤ a.length ∧ i = .int .i64 k ∧ Hid (∀ j, j < k → nthT a j = nthT b j) ∧ Hid (Below w.heap.size w wr)) (fun i _ => a.length - (intOf i).toNat)
    case atStart => exact ⟨0, Nat.zero_le _, rfl, fun j hj => absurd hj (Nat.not_lt_zero _), Below.refl _ _⟩
    case round =>
      obtain ⟨k, hk, rfl, hE, hB⟩ := hrel
      by_cases hlt : k < a.length
      · obtain ⟨b1, o1, rfl, _, z1, c1⟩ := SlAt.at SA.out k hlt wr hB.out
        obtain ⟨b2, o2, rfl, _, z2, c2⟩ := SlAt.at SB.out k (by rw [← HN.out]; exact hlt) wr hB.out
        have hlb : k < b.length := by rw [← HN.out]; exact hlt
        obtain ⟨x, hx⟩ : ∃ z, z = nthT a k := ⟨_, rfl⟩
        obtain ⟨y, hy⟩ : ∃ z, z = nthT b k := ⟨_, rfl⟩
        have d1 : wr.cell? ⟨b1, o1 + k, none⟩ = some (.string (bs x)) := by rw [hx]; exact c1
        have d2 : wr.cell? ⟨b2, o2 + k, none⟩ = some (.string (bs y)) := by rw [hy]; exact c2
        clear c1 c2
        have HX := Lib.hid hx
        have HY := Lib.hid hy
        clear hx hy
        by_cases hxy : x = y
        · have hb : (!((bs x).toList == (bs y).toList)) = false := by rw [hxy]; simp
          have HE2 : Hid (∀ j, j < k + 1 → nthT a j = nthT b j) := fun j hj => by
            rcases Nat.lt_or_ge j k with h | h
            · exact hE.out j h
            · obtain rfl : j = k := by omega
              rw [← HX.out, ← HY.out]; exact hxy
          clear hxy
          go_wp2_with fail
          refine wp_region_calm (by kernel_rfl) (by kernel_rfl) ?_
          repeat (first | (go_big_quiet_step ((fail))) | (refine wpQuiet_step (fun K hK => ?_); go_simp; first | (refine hK _ ?_; clear hK K) | (apply Exists.intro; refine ⟨fun _ => ?_, hK _ ?_⟩; (fail); clear hK K)))
          refine wpQuiet_nil ?_
          intro _ hw'
          obtain ⟨xq, hw''⟩ := hw'
          subst hw''
          have BX := Lib.hid (bel_below hB.out xq.below)
          clear d1 d2
          go_wp2_with fail
          go_roundw
          case rel => go_light; exact ⟨k + 1, by omega, by go_num, HE2, BX⟩
          case measure => go_light; simp [intOf]; omega
        · have hb : (!((bs x).toList == (bs y).toList)) = true := by rw [bs_toList, bs_toList]; simpa using hxy
          have HNE : Hid (¬ a = b) := fun e => hxy (by rw [HX.out, HY.out, e])
          clear hxy
          go_wp2_with fail
          refine wp_region_calm (by kernel_rfl) (by kernel_rfl) ?_
          repeat (first | (go_big_quiet_step ((fail))) | (refine wpQuiet_step (fun K hK => ?_); go_simp; first | (refine hK _ ?_; clear hK K) | (apply Exists.intro; refine ⟨fun _ => ?_, hK _ ?_⟩; (fail); clear hK K)))
          refine wpQuiet_nil ?_
          intro _ hw'
          obtain ⟨xq, hw''⟩ := hw'
          subst hw''
          have BX := Lib.hid (bel_below hB.out xq.below)
          clear d1 d2
          go_wp2_with fail
          go_ret
          exact HP.out _ _ ⟨(fun h => by cases h), (fun h => absurd h HNE.out)⟩ BX.out
      · obtain rfl : k = a.length := by omega
        go_wp2_with fail
        go_ret
        refine HP.out _ _ ⟨fun _ => ?_, fun _ => rfl⟩ hB.out
        refine List.ext_getElem HN.out fun i h1 h2 => ?_
        have := hE.out i h1
        rwa [nthT_eq h1, nthT_eq h2] at this
  · have hnb : ((a.length : Int) != (b.length : Int)) = true := by simpa using fun h => hn (by omega)
    have HN : Hid (¬ a = b) := fun e => hn (by rw [e])
    clear hn
    go_enter Try.func20, Try.ntmps20
    go_wp2_with fail
    go_ret
    exact HP.out _ _ ⟨(fun h => by cases h), (fun h => absurd h HN.out)⟩ (Below.refl _ _)
/-- An entry of at most 20 filters of at most 30 bytes. -/
def cutE (x : Ent) : Ent := ⟨cutT x.g, x.c, (x.fs.take 20).map cutT, x.any, x.t⟩
def cutK (fs : List Str) (k : Nat) : List Str := (fs.take k).map cutT
theorem cutK_succ (fs : List Str) {k : Nat} (hk : k < fs.length) : cutK fs (k + 1) = cutK fs k ++ [cutT (nthT fs k)] := by
  unfold cutK
  rw [List.take_succ_eq_append_getElem hk, List.map_append, nthT_eq hk]; rfl
theorem cutK_len (fs : List Str) {k : Nat} (hk : k ≤ fs.length) : (cutK fs k).length = k := by unfold cutK; simp; omega
set_option maxRecDepth 100000 in
set_option maxHeartbeats 8000000 in
theorem cut_any (w : World) (x : Ent) (v : Value) (h : SlS 0 x.fs w v) :
    Calls Try.prog 10 #[EntV x v] w fun e w' => ∃ v', e = .returned (EntV (cutE x) v') ∧ SlS w.heap.size (cutE x).fs w' v' ∧ Below w.heap.size w w' := by
  obtain ⟨i0, hi, hz0, hz1, hz2⟩ : ∃ i0, Try.prog.info? 9 = some i0 ∧ i0.zero = some (Value.string ByteArray.empty) ∧ i0.size = 1 ∧ i0.bytes = 16 := ⟨strI, strI_at, by kernel_rfl, by kernel_rfl, by kernel_rfl⟩
  obtain ⟨g, c, fs, any, t⟩ := x
  dsimp only at h
  unfold EntV
  dsimp only
  rw [show sV g = .string (bs g) from rfl]
  obtain ⟨fa, fc, rfl, _⟩ := h.slice
  have S0 := Lib.hid h
  have HP : Hid (∀ (k : Nat) (v' : Value) (w' : World), cutK fs k = (fs.take 20).map cutT → SlS w.heap.size (cutK fs k) w' v' → Below w.heap.size w w' →
      ∃ v'', Ending.returned (.agg #[.string (bs (cutT g)), .int .i64 c, v', .bool any, .int .i64 t]) = .returned (.agg #[sV (cutE ⟨g, c, fs, any, t⟩).g, .int .i64 (cutE ⟨g, c, fs, any, t⟩).c, v'', .bool (cutE ⟨g, c, fs, any, t⟩).any, .int .i64 (cutE ⟨g, c, fs, any, t⟩).t]) ∧ SlS w.heap.size (cutE ⟨g, c, fs, any, t⟩).fs w' v'' ∧ Below w.heap.size w w') := fun k v' w' h1 h2 h3 => ⟨v', rfl, by rw [h1] at h2; exact h2, h3⟩
  clear h
  go_enter Try.func10, Try.ntmps10
  go_upto_region 1 with (fail)
  obtain ⟨w1, hw1⟩ : ∃ z, z = (w.alloc (.cells #[.string (bs g), .int .i64 c, .slice fa fs.length fc, .bool any, .int .i64 t] 30)).alloc (.cells #[.string { data := #[] }, .int .i64 0, .slice none 0 0, .bool false, .int .i64 0] 30) := ⟨_, rfl⟩
  obtain ⟨X, hX⟩ : ∃ z, z = w.heap.size := ⟨_, rfl⟩
  have b01 : Below w.heap.size w w1 := by rw [hw1]; exact bel_alloc (bel_alloc (Below.refl _ _) _) _
  have XS : Hid (Box5 w1 X (.string (bs g)) (.int .i64 c) (.slice fa fs.length fc) (.bool any) (.int .i64 t)) := by
    rw [hw1, hX]; exact (box5_new w _ _ _ _ _ _).below (bel_alloc (Below.refl _ _) _)
  have YS : Hid (Box5 w1 (X + 1) (.string { data := #[] }) (.int .i64 0) (.slice none 0 0) (.bool false) (.int .i64 0)) := by
    rw [hw1, hX]; exact box5_at (box5_new (w.alloc _) _ _ _ _ _ _) (by simp)
  have hWX : Hid (w.heap.size ≤ X) := show _ ≤ _ by omega
  have hXz : Hid (w1.heap.size = X + 1 + 1) := show _ = _ by rw [hw1, hX]; simp
  have es : (w.alloc (.cells #[.string (bs g), .int .i64 c, .slice fa fs.length fc, .bool any, .int .i64 t] 30)).heap.size = w.heap.size + 1 := by simp
  rw [← hw1]
  try rw [es]
  try rw [← hX]
  clear hw1 hX es
  have B01 := Lib.hid b01
  clear b01
  obtain ⟨x0, x1, x2, x3, x4, -, -, -, -, -, xz⟩ := XS.out
  refine wp_region_heads [0, 1, 3, 4, 5, 6, 7, 8] 11 (fun w' => ∃ y : Later w1, w' = y.world) (by kernel_rfl) (by kernel_rfl) ⟨⟨{ w1 with drawn := w1.drawn + 1 }, (RowKit.Below.refl _ _).drew⟩, rfl⟩ ?_ ?_
  · intro d v c a w h
    cases d <;> exact h
  simp only [headOps]
  repeat (refine wpTame_step (fun K hK => ?_); go_simp; refine hK _ ?_; clear hK K)
  refine wpTame_nil ?_
  have hBd : RowKit.Below w1.heap.size w1 { w1 with drawn := w1.drawn + 1 } := (RowKit.Below.refl _ _).drew
  have BD := Lib.hid hBd
  clear hBd
  refine wpAnyC_step (f := 3) [2, 10] (by kernel_rfl) rfl rfl (fun i hi => ?_)
  simp only [List.mem_cons, List.not_mem_nil, or_false] at hi
  rcases hi with rfl | rfl
  · refine ⟨_, rfl, fun R hR => ?_⟩
    go_wp2_with fail
    refine (cut1_any g _).mono ?_
    rintro e wc ⟨rfl, rfl⟩
    go_wp2_with fail
    refine hR _ _ ⟨⟨_, BD.out⟩, rfl⟩ ?_
    clear hR R
    refine wpAnyC_step (f := 2) [9, 10] (by kernel_rfl) rfl rfl (fun i hi => ?_)
    simp only [List.mem_cons, List.not_mem_nil, or_false] at hi
    rcases hi with rfl | rfl
    · refine ⟨_, rfl, fun R hR => ?_⟩
      go_wp2_with fail
      refine hR _ _ ⟨⟨_, BD.out⟩, rfl⟩ ?_
      clear hR R
      refine wpAnyC_step (f := 1) [10] (by kernel_rfl) rfl rfl (fun i hi => ?_)
      simp only [List.mem_cons, List.not_mem_nil, or_false] at hi
      subst hi
      refine ⟨_, rfl, fun R hR => ?_⟩
      go_wp2_with fail
      refine hR _ _ ⟨⟨_, bel_alloc BD.out _⟩, rfl⟩ ?_
      clear hR R
      refine wpAnyC_end (k := 11) (by decide) rfl rfl (by kernel_rfl) ?_
      go_wp2_with fail
      obtain ⟨w3, hw3⟩ : ∃ z, z = (w1.alloc (.cells #[.string (bs (cutT g)), .int .i64 c, .slice none 0 0, .bool any, .int .i64 t] 30)).drew := ⟨_, rfl⟩
      obtain ⟨Z, hZ⟩ : ∃ z, z = w1.heap.size := ⟨_, rfl⟩
      have B3 : Hid (Below w1.heap.size w1 w3) := by rw [hw3]; exact (bel_alloc (Below.refl _ _) _).drew
      have ZS : Hid (Box5 w3 Z (.string (bs (cutT g))) (.int .i64 c) (.slice none 0 0) (.bool any) (.int .i64 t)) := by
        rw [hw3, hZ]
        have h := box5_new w1 (.string (bs (cutT g))) (.int .i64 c) (.slice none 0 0) (.bool any) (.int .i64 t) 30
        exact ⟨h.c0, h.c1, h.c2, h.c3, h.c4, h.f0, h.f1, h.f2, h.f3, h.f4, h.z⟩
      have hZX : Hid (Z = X + 1 + 1) := show _ = _ by rw [hZ, hXz.out]
      have hZw : Hid (w1.heap.size ≤ Z) := show _ ≤ _ by omega
      rw [← hw3]
      try rw [← hZ]
      clear hw3 hZ x0 x1 x2 x3 x4 BD
      go_loopw [4] (fun i wr => ∃ (k : Nat) (vr : Value), k ≤ fs.length ∧ k ≤ 20 ∧ i = .int .i64 k ∧ Hid (Box5 wr Z (.string (bs (cutT g))) (.int .i64 c) vr (.bool any) (.int .i64 t)) ∧ Hid (wr.ownsRow (Z + 1) 9 1 vr k ((cutK fs k).map sV)) ∧ Hid (Below w1.heap.size w1 wr)) (fun i _ => fs.length - (intOf i).toNat)
      case atStart => exact ⟨0, _, Nat.zero_le _, Nat.zero_le _, rfl, ZS.out, ⟨rfl, Or.inl ⟨rfl, rfl⟩⟩, B3.out⟩
      case round =>
        obtain ⟨k, vr, hk, hk20, rfl, hZ5, hO, hB⟩ := hrel
        obtain ⟨x0, x1, x2, x3, x4, -, -, -, -, -, xz⟩ := XS.out.below hB.out
        by_cases hlt : k < fs.length
        · by_cases hl20 : k < 20
          · obtain ⟨b, off, rfl, _, hbz, d0⟩ := SlAt.at S0.out k hlt wr (bel_below B01.out hB.out)
            have hbw : b < w.heap.size := by
              obtain ⟨_, _, e, _, _, _, h3⟩ := S0.out
              cases e
              obtain ⟨b', off', e, _, h4, _⟩ := h3.resolve_left (by omega)
              cases e; exact h4
            have hsu := cutK_succ fs hlt
            obtain ⟨f, hf⟩ : ∃ z, z = nthT fs k := ⟨_, rfl⟩
            have d1 : wr.cell? ⟨b, off + k, none⟩ = some (.string (bs f)) := by rw [hf]; exact d0
            rw [← hf] at hsu
            have HSU := Lib.hid hsu
            clear d0 hf hsu
            obtain ⟨ao, co, rfl⟩ := own_shape hO.out
            obtain ⟨z0, z1, z2, z3, z4, f0, f1, f2, f3, f4, zz⟩ := hZ5.out
            obtain ⟨S, hS⟩ : ∃ S : Nat → Prop, S = fun b => Value.ownBlock (.slice ao k co) = some b := ⟨_, rfl⟩
            have HS := Lib.hid hS
            have hSl : Hid (∀ q, S q → Z + 1 ≤ q ∧ q < wr.heap.size) := fun q hq => hO.out.lt q (by rw [hS] at hq; exact hq)
            have hSZ : ¬ S Z := fun h => by have := (hSl.out Z h).1; omega
            have hSX : ¬ S X := fun h => by have := (hSl.out X h).1; have := hZX.out; omega
            have hSb : ¬ S b := fun h => by have := (hSl.out b h).1; have := hZX.out; have := hWX.out; omega
            clear hS
            obtain ⟨L, hL⟩ : ∃ z, z = (cutK fs k).map sV := ⟨_, rfl⟩
            have HLk := Lib.hid hL
            rw [← hL] at hO
            clear hL
            go_wp2_with fail
            refine wp_region_heads [0, 1, 2, 3, 4, 5, 6] 11 (fun w' => ∃ y : KeptT S wr, w' = y.world) (by kernel_rfl) (by kernel_rfl) ⟨⟨{ wr with drawn := wr.drawn + 1 }, (Kept.refl S wr).drew⟩, rfl⟩ ?_ ?_
            · intro d v c a w h
              cases d <;> exact h
            simp only [headOps]
            repeat (refine wpTame_step (fun K hK => ?_); go_simp; refine hK _ ?_; clear hK K)
            refine wpTame_nil ?_
            refine wpAnyC_step (f := 4) [7] (by kernel_rfl) rfl rfl (fun i hi => ?_)
            simp only [List.mem_cons, List.not_mem_nil, or_false] at hi
            subst hi
            refine ⟨_, rfl, fun R hR => ?_⟩
            go_wp2_with fail
            refine (cut1_any f _).mono ?_
            rintro e wc ⟨rfl, rfl⟩
            go_wp2_with fail
            refine hR _ _ ⟨⟨_, (Kept.refl S wr).drew⟩, rfl⟩ ?_
            clear hR R
            refine wpAnyC_step (f := 3) [8] (by kernel_rfl) rfl rfl (fun i hi => ?_)
            simp only [List.mem_cons, List.not_mem_nil, or_false] at hi
            subst hi
            refine ⟨_, rfl, fun R hR => ?_⟩
            go_wp2_with fail
            refine hR _ _ ⟨⟨_, (Kept.refl S wr).drew.alloc _⟩, rfl⟩ ?_
            clear hR R
            refine wpAnyC_step (f := 2) [9] (by kernel_rfl) rfl rfl (fun i hi => ?_)
            simp only [List.mem_cons, List.not_mem_nil, or_false] at hi
            subst hi
            refine ⟨_, rfl, fun R hR => ?_⟩
            simp only [List.getElem_toArray, List.getElem_cons_succ, List.getElem_cons_zero]
            go_wp2_with (at_builtin; go_loud (refine wpList_app rfl _ _ 28 rfl (Z + 1) 9 i0 (.string ByteArray.empty) 16 Try.underlying28 hi hz0 hz1 hz2 rfl _ k L rfl ?c0x1 0 (fun _ => sV (cutT f)) 1 _ rfl (slS_one _ (cutT f) 9 _ ?c4x1) (fun _ => rfl) ?c1x1 ?c2x1 ?c3x1 ?_))
            case c0x1 => exact ownsRow_same hO.out fun q hq => (bel_alloc (RowKit.Below.refl _ wr) _).block q (hO.out.lt q hq).2
            case c4x1 => rfl
            case c1x1 => simp only [maxLen]; omega
            case c2x1 => omega
            case c3x1 => have := hB.out.size; have := hZX.out; have := hXz.out; simp; omega
            intro va wa ho hg
            obtain ⟨av, cv, rfl⟩ := own_shape ho
            have KA : Hid (Kept S wr wa) := ((Kept.refl S wr).drew.alloc _).trans ⟨hg.os, hg.tape, hg.output, hg.size, fun b hb hn => hg.block b hb (fun e => hn (by rw [HS.out]; exact e.symm))⟩
            have HO : Hid (wa.ownsRow (Z + 1) 9 1 (.slice av (k + 1) cv) (k + 1) ((cutK fs (k + 1)).map sV)) := show World.ownsRow _ _ _ _ _ _ _ by
              rw [HSU.out, List.map_append, ← HLk.out]; exact ho
            have ZA := Lib.hid (hZ5.out.same KA.out.size (KA.out.block Z zz hSZ))
            have BA : Hid (Below w1.heap.size w1 wa) := hB.out.trans (KA.out.toBelow hB.out.size fun b hb hS => by have h1 := (hSl.out b hS).1; have := hXz.out; have := hZX.out; omega)
            clear ho hg x0 x1 x2 x3 x4 d1 z0 z1 z2 z3 z4 f0 f1 f2 f3 f4
            go_wp2_with fail
            refine hR _ _ ⟨⟨wa, KA.out⟩, rfl⟩ ?_
            clear hR R
            refine wpAnyC_mid (f := 1) [10] ⟨⟨wa, KA.out⟩, rfl⟩ (by kernel_rfl) (fun d v c a w h => by cases d <;> exact h) ?_
            simp only [headOps]
            repeat (refine wpTame_step (fun K hK => ?_); go_simp; refine hK _ ?_; clear hK K)
            refine wpTame_nil ?_
            refine wpAnyC_end (k := 11) (by decide) rfl rfl (by kernel_rfl) ?_
            obtain ⟨z0, z1, z2, z3, z4, f0, f1, f2, f3, f4, zz2⟩ := ZA.out
            have HO2 : Hid ((wa.setCell ⟨Z, 2, none⟩ (.slice av (k + 1) cv)).ownsRow (Z + 1) 9 1 (.slice av (k + 1) cv) (k + 1) ((cutK fs (k + 1)).map sV)) := ownsRow_same HO.out fun q hq => by
              have h1 := (HO.out.lt q hq).1
              exact Below.heap_setCell _ _ _ _ (by show q ≠ Z; omega)
            go_wp2_with fail
            go_roundw
            case rel => go_light; exact ⟨k + 1, _, by omega, by omega, by go_num, ZA.out.set2 _, HO2.out, BA.out.trans (((Below.refl _ wa).setCell (p := ⟨Z, 2, none⟩) (B := w1.heap.size) (by exact hZw.out) _))⟩
            case measure => go_light; simp [intOf]; omega
          · have hcut : Hid (cutK fs k = (fs.take 20).map cutT) := show _ = _ by rw [show k = 20 by omega]; rfl
            have hx5 := hZ5.out
            obtain ⟨z0, z1, z2, z3, z4, -, -, -, -, -, zz⟩ := hx5
            obtain ⟨y0, y1, y2, y3, y4, g0, g1, g2, g3, g4, yz⟩ := YS.out.below hB.out
            obtain ⟨ao, co, rfl⟩ := own_shape hO.out
            have SO : Hid (SlS (Z + 1) (cutK fs k) wr (.slice ao k co)) := by
              have h1 := OwnS.of_row (l := cutK fs k) (v := .slice ao k co) (by rw [cutK_len fs hk]; exact hO.out)
              exact h1.slAt
            have hY1 : Hid (X + 1 < Z + 1) := show _ < _ by have := hZX.out; omega
            have BW := Lib.hid (bel_below B01.out hB.out)
            have hWY : Hid (w.heap.size ≤ X + 1) := Nat.le_succ_of_le hWX.out
            have hWZ : Hid (w.heap.size ≤ Z + 1) := show _ ≤ _ by have := hZX.out; have := hWX.out; omega
            clear hO hZ5
            go_wp2_with fail
            refine bodyPost_ret (v := .agg #[.string (bs (cutT g)), .int .i64 c, .slice ao k co, .bool any, .int .i64 t]) ?_ rfl (HP.out k _ _ hcut.out ?_ ?_)
            · simp [results, Try.results10, go_sem, z0, z1, z2, z3, z4, y0, y1, y2, y3, y4]
            · exact (((((SlAt.set SO.out (p := ⟨X + 1, 0, none⟩) hY1.out _).set (p := ⟨X + 1, 1, none⟩) hY1.out _).set (p := ⟨X + 1, 2, none⟩) hY1.out _).set (p := ⟨X + 1, 3, none⟩) hY1.out _).set (p := ⟨X + 1, 4, none⟩) hY1.out _).base hWZ.out
            · exact bel_set (bel_set (bel_set (bel_set (bel_set BW.out hWY.out _) hWY.out _) hWY.out _) hWY.out _) hWY.out _
        · have hcut : Hid (cutK fs k = (fs.take 20).map cutT) := show _ = _ by
            have hke : k = fs.length := by omega
            unfold cutK; rw [hke, List.take_length, List.take_of_length_le (by omega)]
          have hx5 := hZ5.out
          obtain ⟨z0, z1, z2, z3, z4, -, -, -, -, -, zz⟩ := hx5
          obtain ⟨y0, y1, y2, y3, y4, g0, g1, g2, g3, g4, yz⟩ := YS.out.below hB.out
          obtain ⟨ao, co, rfl⟩ := own_shape hO.out
          have SO : Hid (SlS (Z + 1) (cutK fs k) wr (.slice ao k co)) := by
            have h1 := OwnS.of_row (l := cutK fs k) (v := .slice ao k co) (by rw [cutK_len fs hk]; exact hO.out)
            exact h1.slAt
          have hY1 : Hid (X + 1 < Z + 1) := show _ < _ by have := hZX.out; omega
          have BW := Lib.hid (bel_below B01.out hB.out)
          have hWY : Hid (w.heap.size ≤ X + 1) := Nat.le_succ_of_le hWX.out
          have hWZ : Hid (w.heap.size ≤ Z + 1) := show _ ≤ _ by have := hZX.out; have := hWX.out; omega
          clear hO hZ5
          go_wp2_with fail
          refine bodyPost_ret (v := .agg #[.string (bs (cutT g)), .int .i64 c, .slice ao k co, .bool any, .int .i64 t]) ?_ rfl (HP.out k _ _ hcut.out ?_ ?_)
          · simp [results, Try.results10, go_sem, z0, z1, z2, z3, z4, y0, y1, y2, y3, y4]
          · exact (((((SlAt.set SO.out (p := ⟨X + 1, 0, none⟩) hY1.out _).set (p := ⟨X + 1, 1, none⟩) hY1.out _).set (p := ⟨X + 1, 2, none⟩) hY1.out _).set (p := ⟨X + 1, 3, none⟩) hY1.out _).set (p := ⟨X + 1, 4, none⟩) hY1.out _).base hWZ.out
          · exact bel_set (bel_set (bel_set (bel_set (bel_set BW.out hWY.out _) hWY.out _) hWY.out _) hWY.out _) hWY.out _
    · refine ⟨_, rfl, fun R hR => ?_⟩
      go_wp2_with fail
      refine hR _ _ ⟨⟨_, bel_alloc BD.out _⟩, rfl⟩ ?_
      clear hR R
      refine wpAnyC_step (f := 1) [9] (by kernel_rfl) rfl rfl (fun i hi => ?_)
      simp only [List.mem_cons, List.not_mem_nil, or_false] at hi
      subst hi
      refine ⟨_, rfl, fun R hR => ?_⟩
      go_wp2_with fail
      refine hR _ _ ⟨⟨_, bel_alloc BD.out _⟩, rfl⟩ ?_
      clear hR R
      refine wpAnyC_end (k := 11) (by decide) rfl rfl (by kernel_rfl) ?_
      go_wp2_with fail
      obtain ⟨w3, hw3⟩ : ∃ z, z = (w1.alloc (.cells #[.string (bs (cutT g)), .int .i64 c, .slice none 0 0, .bool any, .int .i64 t] 30)).drew := ⟨_, rfl⟩
      obtain ⟨Z, hZ⟩ : ∃ z, z = w1.heap.size := ⟨_, rfl⟩
      have B3 : Hid (Below w1.heap.size w1 w3) := by rw [hw3]; exact (bel_alloc (Below.refl _ _) _).drew
      have ZS : Hid (Box5 w3 Z (.string (bs (cutT g))) (.int .i64 c) (.slice none 0 0) (.bool any) (.int .i64 t)) := by
        rw [hw3, hZ]
        have h := box5_new w1 (.string (bs (cutT g))) (.int .i64 c) (.slice none 0 0) (.bool any) (.int .i64 t) 30
        exact ⟨h.c0, h.c1, h.c2, h.c3, h.c4, h.f0, h.f1, h.f2, h.f3, h.f4, h.z⟩
      have hZX : Hid (Z = X + 1 + 1) := show _ = _ by rw [hZ, hXz.out]
      have hZw : Hid (w1.heap.size ≤ Z) := show _ ≤ _ by omega
      rw [← hw3]
      try rw [← hZ]
      clear hw3 hZ x0 x1 x2 x3 x4 BD
      go_loopw [4] (fun i wr => ∃ (k : Nat) (vr : Value), k ≤ fs.length ∧ k ≤ 20 ∧ i = .int .i64 k ∧ Hid (Box5 wr Z (.string (bs (cutT g))) (.int .i64 c) vr (.bool any) (.int .i64 t)) ∧ Hid (wr.ownsRow (Z + 1) 9 1 vr k ((cutK fs k).map sV)) ∧ Hid (Below w1.heap.size w1 wr)) (fun i _ => fs.length - (intOf i).toNat)
      case atStart => exact ⟨0, _, Nat.zero_le _, Nat.zero_le _, rfl, ZS.out, ⟨rfl, Or.inl ⟨rfl, rfl⟩⟩, B3.out⟩
      case round =>
        obtain ⟨k, vr, hk, hk20, rfl, hZ5, hO, hB⟩ := hrel
        obtain ⟨x0, x1, x2, x3, x4, -, -, -, -, -, xz⟩ := XS.out.below hB.out
        by_cases hlt : k < fs.length
        · by_cases hl20 : k < 20
          · obtain ⟨b, off, rfl, _, hbz, d0⟩ := SlAt.at S0.out k hlt wr (bel_below B01.out hB.out)
            have hbw : b < w.heap.size := by
              obtain ⟨_, _, e, _, _, _, h3⟩ := S0.out
              cases e
              obtain ⟨b', off', e, _, h4, _⟩ := h3.resolve_left (by omega)
              cases e; exact h4
            have hsu := cutK_succ fs hlt
            obtain ⟨f, hf⟩ : ∃ z, z = nthT fs k := ⟨_, rfl⟩
            have d1 : wr.cell? ⟨b, off + k, none⟩ = some (.string (bs f)) := by rw [hf]; exact d0
            rw [← hf] at hsu
            have HSU := Lib.hid hsu
            clear d0 hf hsu
            obtain ⟨ao, co, rfl⟩ := own_shape hO.out
            obtain ⟨z0, z1, z2, z3, z4, f0, f1, f2, f3, f4, zz⟩ := hZ5.out
            obtain ⟨S, hS⟩ : ∃ S : Nat → Prop, S = fun b => Value.ownBlock (.slice ao k co) = some b := ⟨_, rfl⟩
            have HS := Lib.hid hS
            have hSl : Hid (∀ q, S q → Z + 1 ≤ q ∧ q < wr.heap.size) := fun q hq => hO.out.lt q (by rw [hS] at hq; exact hq)
            have hSZ : ¬ S Z := fun h => by have := (hSl.out Z h).1; omega
            have hSX : ¬ S X := fun h => by have := (hSl.out X h).1; have := hZX.out; omega
            have hSb : ¬ S b := fun h => by have := (hSl.out b h).1; have := hZX.out; have := hWX.out; omega
            clear hS
            obtain ⟨L, hL⟩ : ∃ z, z = (cutK fs k).map sV := ⟨_, rfl⟩
            have HLk := Lib.hid hL
            rw [← hL] at hO
            clear hL
            go_wp2_with fail
            refine wp_region_heads [0, 1, 2, 3, 4, 5, 6] 11 (fun w' => ∃ y : KeptT S wr, w' = y.world) (by kernel_rfl) (by kernel_rfl) ⟨⟨{ wr with drawn := wr.drawn + 1 }, (Kept.refl S wr).drew⟩, rfl⟩ ?_ ?_
            · intro d v c a w h
              cases d <;> exact h
            simp only [headOps]
            repeat (refine wpTame_step (fun K hK => ?_); go_simp; refine hK _ ?_; clear hK K)
            refine wpTame_nil ?_
            refine wpAnyC_step (f := 4) [7] (by kernel_rfl) rfl rfl (fun i hi => ?_)
            simp only [List.mem_cons, List.not_mem_nil, or_false] at hi
            subst hi
            refine ⟨_, rfl, fun R hR => ?_⟩
            go_wp2_with fail
            refine (cut1_any f _).mono ?_
            rintro e wc ⟨rfl, rfl⟩
            go_wp2_with fail
            refine hR _ _ ⟨⟨_, (Kept.refl S wr).drew⟩, rfl⟩ ?_
            clear hR R
            refine wpAnyC_step (f := 3) [8] (by kernel_rfl) rfl rfl (fun i hi => ?_)
            simp only [List.mem_cons, List.not_mem_nil, or_false] at hi
            subst hi
            refine ⟨_, rfl, fun R hR => ?_⟩
            go_wp2_with fail
            refine hR _ _ ⟨⟨_, (Kept.refl S wr).drew.alloc _⟩, rfl⟩ ?_
            clear hR R
            refine wpAnyC_step (f := 2) [9] (by kernel_rfl) rfl rfl (fun i hi => ?_)
            simp only [List.mem_cons, List.not_mem_nil, or_false] at hi
            subst hi
            refine ⟨_, rfl, fun R hR => ?_⟩
            simp only [List.getElem_toArray, List.getElem_cons_succ, List.getElem_cons_zero]
            go_wp2_with (at_builtin; go_loud (refine wpList_app rfl _ _ 28 rfl (Z + 1) 9 i0 (.string ByteArray.empty) 16 Try.underlying28 hi hz0 hz1 hz2 rfl _ k L rfl ?c0x2 0 (fun _ => sV (cutT f)) 1 _ rfl (slS_one _ (cutT f) 9 _ ?c4x2) (fun _ => rfl) ?c1x2 ?c2x2 ?c3x2 ?_))
            case c0x2 => exact ownsRow_same hO.out fun q hq => (bel_alloc (RowKit.Below.refl _ wr) _).block q (hO.out.lt q hq).2
            case c4x2 => rfl
            case c1x2 => simp only [maxLen]; omega
            case c2x2 => omega
            case c3x2 => have := hB.out.size; have := hZX.out; have := hXz.out; simp; omega
            intro va wa ho hg
            obtain ⟨av, cv, rfl⟩ := own_shape ho
            have KA : Hid (Kept S wr wa) := ((Kept.refl S wr).drew.alloc _).trans ⟨hg.os, hg.tape, hg.output, hg.size, fun b hb hn => hg.block b hb (fun e => hn (by rw [HS.out]; exact e.symm))⟩
            have HO : Hid (wa.ownsRow (Z + 1) 9 1 (.slice av (k + 1) cv) (k + 1) ((cutK fs (k + 1)).map sV)) := show World.ownsRow _ _ _ _ _ _ _ by
              rw [HSU.out, List.map_append, ← HLk.out]; exact ho
            have ZA := Lib.hid (hZ5.out.same KA.out.size (KA.out.block Z zz hSZ))
            have BA : Hid (Below w1.heap.size w1 wa) := hB.out.trans (KA.out.toBelow hB.out.size fun b hb hS => by have h1 := (hSl.out b hS).1; have := hXz.out; have := hZX.out; omega)
            clear ho hg x0 x1 x2 x3 x4 d1 z0 z1 z2 z3 z4 f0 f1 f2 f3 f4
            go_wp2_with fail
            refine hR _ _ ⟨⟨wa, KA.out⟩, rfl⟩ ?_
            clear hR R
            refine wpAnyC_mid (f := 1) [10] ⟨⟨wa, KA.out⟩, rfl⟩ (by kernel_rfl) (fun d v c a w h => by cases d <;> exact h) ?_
            simp only [headOps]
            repeat (refine wpTame_step (fun K hK => ?_); go_simp; refine hK _ ?_; clear hK K)
            refine wpTame_nil ?_
            refine wpAnyC_end (k := 11) (by decide) rfl rfl (by kernel_rfl) ?_
            obtain ⟨z0, z1, z2, z3, z4, f0, f1, f2, f3, f4, zz2⟩ := ZA.out
            have HO2 : Hid ((wa.setCell ⟨Z, 2, none⟩ (.slice av (k + 1) cv)).ownsRow (Z + 1) 9 1 (.slice av (k + 1) cv) (k + 1) ((cutK fs (k + 1)).map sV)) := ownsRow_same HO.out fun q hq => by
              have h1 := (HO.out.lt q hq).1
              exact Below.heap_setCell _ _ _ _ (by show q ≠ Z; omega)
            go_wp2_with fail
            go_roundw
            case rel => go_light; exact ⟨k + 1, _, by omega, by omega, by go_num, ZA.out.set2 _, HO2.out, BA.out.trans (((Below.refl _ wa).setCell (p := ⟨Z, 2, none⟩) (B := w1.heap.size) (by exact hZw.out) _))⟩
            case measure => go_light; simp [intOf]; omega
          · have hcut : Hid (cutK fs k = (fs.take 20).map cutT) := show _ = _ by rw [show k = 20 by omega]; rfl
            have hx5 := hZ5.out
            obtain ⟨z0, z1, z2, z3, z4, -, -, -, -, -, zz⟩ := hx5
            obtain ⟨y0, y1, y2, y3, y4, g0, g1, g2, g3, g4, yz⟩ := YS.out.below hB.out
            obtain ⟨ao, co, rfl⟩ := own_shape hO.out
            have SO : Hid (SlS (Z + 1) (cutK fs k) wr (.slice ao k co)) := by
              have h1 := OwnS.of_row (l := cutK fs k) (v := .slice ao k co) (by rw [cutK_len fs hk]; exact hO.out)
              exact h1.slAt
            have hY1 : Hid (X + 1 < Z + 1) := show _ < _ by have := hZX.out; omega
            have BW := Lib.hid (bel_below B01.out hB.out)
            have hWY : Hid (w.heap.size ≤ X + 1) := Nat.le_succ_of_le hWX.out
            have hWZ : Hid (w.heap.size ≤ Z + 1) := show _ ≤ _ by have := hZX.out; have := hWX.out; omega
            clear hO hZ5
            go_wp2_with fail
            refine bodyPost_ret (v := .agg #[.string (bs (cutT g)), .int .i64 c, .slice ao k co, .bool any, .int .i64 t]) ?_ rfl (HP.out k _ _ hcut.out ?_ ?_)
            · simp [results, Try.results10, go_sem, z0, z1, z2, z3, z4, y0, y1, y2, y3, y4]
            · exact (((((SlAt.set SO.out (p := ⟨X + 1, 0, none⟩) hY1.out _).set (p := ⟨X + 1, 1, none⟩) hY1.out _).set (p := ⟨X + 1, 2, none⟩) hY1.out _).set (p := ⟨X + 1, 3, none⟩) hY1.out _).set (p := ⟨X + 1, 4, none⟩) hY1.out _).base hWZ.out
            · exact bel_set (bel_set (bel_set (bel_set (bel_set BW.out hWY.out _) hWY.out _) hWY.out _) hWY.out _) hWY.out _
        · have hcut : Hid (cutK fs k = (fs.take 20).map cutT) := show _ = _ by
            have hke : k = fs.length := by omega
            unfold cutK; rw [hke, List.take_length, List.take_of_length_le (by omega)]
          have hx5 := hZ5.out
          obtain ⟨z0, z1, z2, z3, z4, -, -, -, -, -, zz⟩ := hx5
          obtain ⟨y0, y1, y2, y3, y4, g0, g1, g2, g3, g4, yz⟩ := YS.out.below hB.out
          obtain ⟨ao, co, rfl⟩ := own_shape hO.out
          have SO : Hid (SlS (Z + 1) (cutK fs k) wr (.slice ao k co)) := by
            have h1 := OwnS.of_row (l := cutK fs k) (v := .slice ao k co) (by rw [cutK_len fs hk]; exact hO.out)
            exact h1.slAt
          have hY1 : Hid (X + 1 < Z + 1) := show _ < _ by have := hZX.out; omega
          have BW := Lib.hid (bel_below B01.out hB.out)
          have hWY : Hid (w.heap.size ≤ X + 1) := Nat.le_succ_of_le hWX.out
          have hWZ : Hid (w.heap.size ≤ Z + 1) := show _ ≤ _ by have := hZX.out; have := hWX.out; omega
          clear hO hZ5
          go_wp2_with fail
          refine bodyPost_ret (v := .agg #[.string (bs (cutT g)), .int .i64 c, .slice ao k co, .bool any, .int .i64 t]) ?_ rfl (HP.out k _ _ hcut.out ?_ ?_)
          · simp [results, Try.results10, go_sem, z0, z1, z2, z3, z4, y0, y1, y2, y3, y4]
          · exact (((((SlAt.set SO.out (p := ⟨X + 1, 0, none⟩) hY1.out _).set (p := ⟨X + 1, 1, none⟩) hY1.out _).set (p := ⟨X + 1, 2, none⟩) hY1.out _).set (p := ⟨X + 1, 3, none⟩) hY1.out _).set (p := ⟨X + 1, 4, none⟩) hY1.out _).base hWZ.out
          · exact bel_set (bel_set (bel_set (bel_set (bel_set BW.out hWY.out _) hWY.out _) hWY.out _) hWY.out _) hWY.out _
  · refine ⟨_, rfl, fun R hR => ?_⟩
    go_wp2_with fail
    refine hR _ _ ⟨⟨_, bel_alloc BD.out _⟩, rfl⟩ ?_
    clear hR R
    refine wpAnyC_step (f := 2) [2] (by kernel_rfl) rfl rfl (fun i hi => ?_)
    simp only [List.mem_cons, List.not_mem_nil, or_false] at hi
    subst hi
    refine ⟨_, rfl, fun R hR => ?_⟩
    go_wp2_with fail
    refine (cut1_any g _).mono ?_
    rintro e wc ⟨rfl, rfl⟩
    go_wp2_with fail
    refine hR _ _ ⟨⟨_, bel_alloc BD.out _⟩, rfl⟩ ?_
    clear hR R
    refine wpAnyC_step (f := 1) [9] (by kernel_rfl) rfl rfl (fun i hi => ?_)
    simp only [List.mem_cons, List.not_mem_nil, or_false] at hi
    subst hi
    refine ⟨_, rfl, fun R hR => ?_⟩
    go_wp2_with fail
    refine hR _ _ ⟨⟨_, bel_alloc BD.out _⟩, rfl⟩ ?_
    clear hR R
    refine wpAnyC_end (k := 11) (by decide) rfl rfl (by kernel_rfl) ?_
    go_wp2_with fail
    obtain ⟨w3, hw3⟩ : ∃ z, z = (w1.alloc (.cells #[.string (bs (cutT g)), .int .i64 c, .slice none 0 0, .bool any, .int .i64 t] 30)).drew := ⟨_, rfl⟩
    obtain ⟨Z, hZ⟩ : ∃ z, z = w1.heap.size := ⟨_, rfl⟩
    have B3 : Hid (Below w1.heap.size w1 w3) := by rw [hw3]; exact (bel_alloc (Below.refl _ _) _).drew
    have ZS : Hid (Box5 w3 Z (.string (bs (cutT g))) (.int .i64 c) (.slice none 0 0) (.bool any) (.int .i64 t)) := by
      rw [hw3, hZ]
      have h := box5_new w1 (.string (bs (cutT g))) (.int .i64 c) (.slice none 0 0) (.bool any) (.int .i64 t) 30
      exact ⟨h.c0, h.c1, h.c2, h.c3, h.c4, h.f0, h.f1, h.f2, h.f3, h.f4, h.z⟩
    have hZX : Hid (Z = X + 1 + 1) := show _ = _ by rw [hZ, hXz.out]
    have hZw : Hid (w1.heap.size ≤ Z) := show _ ≤ _ by omega
    rw [← hw3]
    try rw [← hZ]
    clear hw3 hZ x0 x1 x2 x3 x4 BD
    go_loopw [4] (fun i wr => ∃ (k : Nat) (vr : Value), k ≤ fs.length ∧ k ≤ 20 ∧ i = .int .i64 k ∧ Hid (Box5 wr Z (.string (bs (cutT g))) (.int .i64 c) vr (.bool any) (.int .i64 t)) ∧ Hid (wr.ownsRow (Z + 1) 9 1 vr k ((cutK fs k).map sV)) ∧ Hid (Below w1.heap.size w1 wr)) (fun i _ => fs.length - (intOf i).toNat)
    case atStart => exact ⟨0, _, Nat.zero_le _, Nat.zero_le _, rfl, ZS.out, ⟨rfl, Or.inl ⟨rfl, rfl⟩⟩, B3.out⟩
    case round =>
      obtain ⟨k, vr, hk, hk20, rfl, hZ5, hO, hB⟩ := hrel
      obtain ⟨x0, x1, x2, x3, x4, -, -, -, -, -, xz⟩ := XS.out.below hB.out
      by_cases hlt : k < fs.length
      · by_cases hl20 : k < 20
        · obtain ⟨b, off, rfl, _, hbz, d0⟩ := SlAt.at S0.out k hlt wr (bel_below B01.out hB.out)
          have hbw : b < w.heap.size := by
            obtain ⟨_, _, e, _, _, _, h3⟩ := S0.out
            cases e
            obtain ⟨b', off', e, _, h4, _⟩ := h3.resolve_left (by omega)
            cases e; exact h4
          have hsu := cutK_succ fs hlt
          obtain ⟨f, hf⟩ : ∃ z, z = nthT fs k := ⟨_, rfl⟩
          have d1 : wr.cell? ⟨b, off + k, none⟩ = some (.string (bs f)) := by rw [hf]; exact d0
          rw [← hf] at hsu
          have HSU := Lib.hid hsu
          clear d0 hf hsu
          obtain ⟨ao, co, rfl⟩ := own_shape hO.out
          obtain ⟨z0, z1, z2, z3, z4, f0, f1, f2, f3, f4, zz⟩ := hZ5.out
          obtain ⟨S, hS⟩ : ∃ S : Nat → Prop, S = fun b => Value.ownBlock (.slice ao k co) = some b := ⟨_, rfl⟩
          have HS := Lib.hid hS
          have hSl : Hid (∀ q, S q → Z + 1 ≤ q ∧ q < wr.heap.size) := fun q hq => hO.out.lt q (by rw [hS] at hq; exact hq)
          have hSZ : ¬ S Z := fun h => by have := (hSl.out Z h).1; omega
          have hSX : ¬ S X := fun h => by have := (hSl.out X h).1; have := hZX.out; omega
          have hSb : ¬ S b := fun h => by have := (hSl.out b h).1; have := hZX.out; have := hWX.out; omega
          clear hS
          obtain ⟨L, hL⟩ : ∃ z, z = (cutK fs k).map sV := ⟨_, rfl⟩
          have HLk := Lib.hid hL
          rw [← hL] at hO
          clear hL
          go_wp2_with fail
          refine wp_region_heads [0, 1, 2, 3, 4, 5, 6] 11 (fun w' => ∃ y : KeptT S wr, w' = y.world) (by kernel_rfl) (by kernel_rfl) ⟨⟨{ wr with drawn := wr.drawn + 1 }, (Kept.refl S wr).drew⟩, rfl⟩ ?_ ?_
          · intro d v c a w h
            cases d <;> exact h
          simp only [headOps]
          repeat (refine wpTame_step (fun K hK => ?_); go_simp; refine hK _ ?_; clear hK K)
          refine wpTame_nil ?_
          refine wpAnyC_step (f := 4) [7] (by kernel_rfl) rfl rfl (fun i hi => ?_)
          simp only [List.mem_cons, List.not_mem_nil, or_false] at hi
          subst hi
          refine ⟨_, rfl, fun R hR => ?_⟩
          go_wp2_with fail
          refine (cut1_any f _).mono ?_
          rintro e wc ⟨rfl, rfl⟩
          go_wp2_with fail
          refine hR _ _ ⟨⟨_, (Kept.refl S wr).drew⟩, rfl⟩ ?_
          clear hR R
          refine wpAnyC_step (f := 3) [8] (by kernel_rfl) rfl rfl (fun i hi => ?_)
          simp only [List.mem_cons, List.not_mem_nil, or_false] at hi
          subst hi
          refine ⟨_, rfl, fun R hR => ?_⟩
          go_wp2_with fail
          refine hR _ _ ⟨⟨_, (Kept.refl S wr).drew.alloc _⟩, rfl⟩ ?_
          clear hR R
          refine wpAnyC_step (f := 2) [9] (by kernel_rfl) rfl rfl (fun i hi => ?_)
          simp only [List.mem_cons, List.not_mem_nil, or_false] at hi
          subst hi
          refine ⟨_, rfl, fun R hR => ?_⟩
          simp only [List.getElem_toArray, List.getElem_cons_succ, List.getElem_cons_zero]
          go_wp2_with (at_builtin; go_loud (refine wpList_app rfl _ _ 28 rfl (Z + 1) 9 i0 (.string ByteArray.empty) 16 Try.underlying28 hi hz0 hz1 hz2 rfl _ k L rfl ?c0x3 0 (fun _ => sV (cutT f)) 1 _ rfl (slS_one _ (cutT f) 9 _ ?c4x3) (fun _ => rfl) ?c1x3 ?c2x3 ?c3x3 ?_))
          case c0x3 => exact ownsRow_same hO.out fun q hq => (bel_alloc (RowKit.Below.refl _ wr) _).block q (hO.out.lt q hq).2
          case c4x3 => rfl
          case c1x3 => simp only [maxLen]; omega
          case c2x3 => omega
          case c3x3 => have := hB.out.size; have := hZX.out; have := hXz.out; simp; omega
          intro va wa ho hg
          obtain ⟨av, cv, rfl⟩ := own_shape ho
          have KA : Hid (Kept S wr wa) := ((Kept.refl S wr).drew.alloc _).trans ⟨hg.os, hg.tape, hg.output, hg.size, fun b hb hn => hg.block b hb (fun e => hn (by rw [HS.out]; exact e.symm))⟩
          have HO : Hid (wa.ownsRow (Z + 1) 9 1 (.slice av (k + 1) cv) (k + 1) ((cutK fs (k + 1)).map sV)) := show World.ownsRow _ _ _ _ _ _ _ by
            rw [HSU.out, List.map_append, ← HLk.out]; exact ho
          have ZA := Lib.hid (hZ5.out.same KA.out.size (KA.out.block Z zz hSZ))
          have BA : Hid (Below w1.heap.size w1 wa) := hB.out.trans (KA.out.toBelow hB.out.size fun b hb hS => by have h1 := (hSl.out b hS).1; have := hXz.out; have := hZX.out; omega)
          clear ho hg x0 x1 x2 x3 x4 d1 z0 z1 z2 z3 z4 f0 f1 f2 f3 f4
          go_wp2_with fail
          refine hR _ _ ⟨⟨wa, KA.out⟩, rfl⟩ ?_
          clear hR R
          refine wpAnyC_mid (f := 1) [10] ⟨⟨wa, KA.out⟩, rfl⟩ (by kernel_rfl) (fun d v c a w h => by cases d <;> exact h) ?_
          simp only [headOps]
          repeat (refine wpTame_step (fun K hK => ?_); go_simp; refine hK _ ?_; clear hK K)
          refine wpTame_nil ?_
          refine wpAnyC_end (k := 11) (by decide) rfl rfl (by kernel_rfl) ?_
          obtain ⟨z0, z1, z2, z3, z4, f0, f1, f2, f3, f4, zz2⟩ := ZA.out
          have HO2 : Hid ((wa.setCell ⟨Z, 2, none⟩ (.slice av (k + 1) cv)).ownsRow (Z + 1) 9 1 (.slice av (k + 1) cv) (k + 1) ((cutK fs (k + 1)).map sV)) := ownsRow_same HO.out fun q hq => by
            have h1 := (HO.out.lt q hq).1
            exact Below.heap_setCell _ _ _ _ (by show q ≠ Z; omega)
          go_wp2_with fail
          go_roundw
          case rel => go_light; exact ⟨k + 1, _, by omega, by omega, by go_num, ZA.out.set2 _, HO2.out, BA.out.trans (((Below.refl _ wa).setCell (p := ⟨Z, 2, none⟩) (B := w1.heap.size) (by exact hZw.out) _))⟩
          case measure => go_light; simp [intOf]; omega
        · have hcut : Hid (cutK fs k = (fs.take 20).map cutT) := show _ = _ by rw [show k = 20 by omega]; rfl
          have hx5 := hZ5.out
          obtain ⟨z0, z1, z2, z3, z4, -, -, -, -, -, zz⟩ := hx5
          obtain ⟨y0, y1, y2, y3, y4, g0, g1, g2, g3, g4, yz⟩ := YS.out.below hB.out
          obtain ⟨ao, co, rfl⟩ := own_shape hO.out
          have SO : Hid (SlS (Z + 1) (cutK fs k) wr (.slice ao k co)) := by
            have h1 := OwnS.of_row (l := cutK fs k) (v := .slice ao k co) (by rw [cutK_len fs hk]; exact hO.out)
            exact h1.slAt
          have hY1 : Hid (X + 1 < Z + 1) := show _ < _ by have := hZX.out; omega
          have BW := Lib.hid (bel_below B01.out hB.out)
          have hWY : Hid (w.heap.size ≤ X + 1) := Nat.le_succ_of_le hWX.out
          have hWZ : Hid (w.heap.size ≤ Z + 1) := show _ ≤ _ by have := hZX.out; have := hWX.out; omega
          clear hO hZ5
          go_wp2_with fail
          refine bodyPost_ret (v := .agg #[.string (bs (cutT g)), .int .i64 c, .slice ao k co, .bool any, .int .i64 t]) ?_ rfl (HP.out k _ _ hcut.out ?_ ?_)
          · simp [results, Try.results10, go_sem, z0, z1, z2, z3, z4, y0, y1, y2, y3, y4]
          · exact (((((SlAt.set SO.out (p := ⟨X + 1, 0, none⟩) hY1.out _).set (p := ⟨X + 1, 1, none⟩) hY1.out _).set (p := ⟨X + 1, 2, none⟩) hY1.out _).set (p := ⟨X + 1, 3, none⟩) hY1.out _).set (p := ⟨X + 1, 4, none⟩) hY1.out _).base hWZ.out
          · exact bel_set (bel_set (bel_set (bel_set (bel_set BW.out hWY.out _) hWY.out _) hWY.out _) hWY.out _) hWY.out _
      · have hcut : Hid (cutK fs k = (fs.take 20).map cutT) := show _ = _ by
          have hke : k = fs.length := by omega
          unfold cutK; rw [hke, List.take_length, List.take_of_length_le (by omega)]
        have hx5 := hZ5.out
        obtain ⟨z0, z1, z2, z3, z4, -, -, -, -, -, zz⟩ := hx5
        obtain ⟨y0, y1, y2, y3, y4, g0, g1, g2, g3, g4, yz⟩ := YS.out.below hB.out
        obtain ⟨ao, co, rfl⟩ := own_shape hO.out
        have SO : Hid (SlS (Z + 1) (cutK fs k) wr (.slice ao k co)) := by
          have h1 := OwnS.of_row (l := cutK fs k) (v := .slice ao k co) (by rw [cutK_len fs hk]; exact hO.out)
          exact h1.slAt
        have hY1 : Hid (X + 1 < Z + 1) := show _ < _ by have := hZX.out; omega
        have BW := Lib.hid (bel_below B01.out hB.out)
        have hWY : Hid (w.heap.size ≤ X + 1) := Nat.le_succ_of_le hWX.out
        have hWZ : Hid (w.heap.size ≤ Z + 1) := show _ ≤ _ by have := hZX.out; have := hWX.out; omega
        clear hO hZ5
        go_wp2_with fail
        refine bodyPost_ret (v := .agg #[.string (bs (cutT g)), .int .i64 c, .slice ao k co, .bool any, .int .i64 t]) ?_ rfl (HP.out k _ _ hcut.out ?_ ?_)
        · simp [results, Try.results10, go_sem, z0, z1, z2, z3, z4, y0, y1, y2, y3, y4]
        · exact (((((SlAt.set SO.out (p := ⟨X + 1, 0, none⟩) hY1.out _).set (p := ⟨X + 1, 1, none⟩) hY1.out _).set (p := ⟨X + 1, 2, none⟩) hY1.out _).set (p := ⟨X + 1, 3, none⟩) hY1.out _).set (p := ⟨X + 1, 4, none⟩) hY1.out _).base hWZ.out
        · exact bel_set (bel_set (bel_set (bel_set (bel_set BW.out hWY.out _) hWY.out _) hWY.out _) hWY.out _) hWY.out _
end Go.Proofs.Ytacdgfkahppmdaa
