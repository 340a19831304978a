
/-
-/
import Derived.Test.YtahiahjhpakeiaaGreatDoorRefJ
import Derived.Test.YtahiahjhpakeiaaGreatDoorChordS
import Derived.Test.YtahiahjhpakeiaaGreatDoorRdvP
import Derived.Test.YtahiahjhpakeiaaGreatDoorRdvQ

/-
  Made, of the base and no calls: the new ring.
-/
namespace Go.Proofs.YtahiahjhpakeiaaGreatDoor
open Go.RowKit Go.Maps Go.Sort Go.WideShapes Go.ChangeShapes Go.Deep
set_option linter.unusedVariables false
set_option linter.unusedSimpArgs false
attribute [local go_sem] later_cell later_frozen later_lt cell_set_off cell_set_block

set_option maxRecDepth 100000 in
set_option maxHeartbeats 8000000 in
/-- The base ring, as the statements make it. -/
theorem base_made (W U : World) (hb0 : RowKit.Below W.heap.size W U) (v1 : Value) (hs : SlAt 0 (fun i => .int .u64 (nth ids0 i)) ids0.length U v1) : Calls Tryz.prog 8 #[v1, .slice none 0 0, .int .i64 0] U fun e w' =>
    ∃ (rb mb : Nat) (f : RS) (p : Where), e = .returned (.tuple #[.pointer (some ⟨rb, 0, none⟩), (.agg #[.slice (some ⟨(p).b1, (p).o1, none⟩) 32 (p).k1, .slice (some ⟨(p).b2, (p).o2, none⟩) 32 (p).k2, .slice (some ⟨(p).b3, (p).o3, none⟩) 32 (p).k3, .slice (some ⟨(p).b4, (p).o4, none⟩) 32 (p).k4]), .bool true]) ∧ RingOk W.heap.size W w' rb mb f := by
  obtain ⟨i0, hi0, hz0, hz1, hz2⟩ : ∃ i0, Tryz.prog.info? 42 = some i0 ∧ i0.zero = some (Value.int .u64 0) ∧ i0.size = 1 ∧ i0.bytes = 8 := ⟨u64I, u64I_at, by kernel_rfl, by kernel_rfl, by kernel_rfl⟩
  have hf : fourB ids0 = true := by unfold fourB; rw [set0]; rfl
  have HPL : Hid (∀ x ∈ ids0, isPlace x) := show ∀ x ∈ ids0, isPlace x from by unfold ids0 isPlace; simp
  have h44 : ids0.length = 4 ∧ (setI ids0).length = 4 := by unfold fourB at hf; simpa using hf
  have HF := Lib.hid hf
  have H44 := Lib.hid h44
  obtain ⟨ids, hids⟩ : ∃ z, z = ids0 := ⟨_, rfl⟩
  rw [← hids] at hs HPL HF H44
  obtain ⟨a0, c0, rfl, _⟩ := hs.slice
  have HI := Lib.hid hs
  have HB0 := Lib.hid hb0
  have h6I : ¬ (6 : Int) < (ids.length : Int) := by have := H44.out.1; omega
  have h6 : ids.length ≤ 6 := by omega
  have HYes : Hid (∀ (rb mb : Nat) (f : RS) (p : Where) w', RingOk W.heap.size W w' rb mb f → ∃ (rb' mb' : Nat) (f : RS) (p' : Where), Ending.returned (.tuple #[.pointer (some ⟨rb, 0, none⟩), (.agg #[.slice (some ⟨(p).b1, (p).o1, none⟩) 32 (p).k1, .slice (some ⟨(p).b2, (p).o2, none⟩) 32 (p).k2, .slice (some ⟨(p).b3, (p).o3, none⟩) 32 (p).k3, .slice (some ⟨(p).b4, (p).o4, none⟩) 32 (p).k4]), .bool true]) = .returned (.tuple #[.pointer (some ⟨rb', 0, none⟩), (.agg #[.slice (some ⟨(p').b1, (p').o1, none⟩) 32 (p').k1, .slice (some ⟨(p').b2, (p').o2, none⟩) 32 (p').k2, .slice (some ⟨(p').b3, (p').o3, none⟩) 32 (p').k3, .slice (some ⟨(p').b4, (p').o4, none⟩) 32 (p').k4]), .bool true]) ∧ RingOk W.heap.size W w' rb' mb' f) := fun rb mb f p w' h => ⟨rb, mb, f, p, rfl, h⟩
  clear hs hb0 hf h44 hids
  go_enter Tryz.func8, Tryz.ntmps8
  go_upto_region 4 with (fail)
  obtain ⟨w1, hw1⟩ : ∃ z, z = (U.alloc (.cells #[.slice none 0 0, .slice none 0 0, .slice none 0 0, .slice none 0 0] 32)).alloc (.cells #[] 42) := ⟨_, rfl⟩
  have B1 : Hid (RowKit.Below U.heap.size U w1) := by rw [hw1]; exact bel_alloc (bel_alloc (RowKit.Below.refl _ _) _) _
  have R1 : Hid (BoxNil w1 U.heap.size) := by rw [hw1]; exact ⟨by simp [go_sem], by simp [go_sem], by simp [go_sem], by simp [go_sem], by simp [go_sem], by simp [go_sem], by simp [go_sem], by simp [go_sem], by simp; omega⟩
  have O1 : Hid (w1.ownsRow (U.heap.size + 1) 42 1 (.slice (some ⟨U.heap.size + 1, 0, none⟩) 0 0) 0 []) := by rw [hw1]; exact own_nil _ _ _ _ _ (by simp) (by simp)
  have hz1' : w1.heap.size = U.heap.size + 2 := by rw [hw1]; simp
  rw [← hw1]
  clear hw1
  go_wp2_with fail
  go_loopw [9, 11, 27] (fun vo _ i wr => ∃ k : Nat, k ≤ ids.length ∧ i = .int .i64 k ∧ Hid (wr.ownsRow (U.heap.size + 1) 42 1 vo k ((ids.take k).map (Value.int .u64))) ∧ Hid (RowKit.Below (U.heap.size + 1) w1 wr)) (fun _ _ i _ => ids.length - (intOf i).toNat)
  case atStart => exact ⟨0, Nat.zero_le _, rfl, O1.out, RowKit.Below.refl _ _⟩
  case round =>
    obtain ⟨k, hk, rfl, hO, hB⟩ := hrel
    have hBW : RowKit.Below U.heap.size U wr := B1.out.trans (hB.out.mono (by omega))
    have hsz := hB.out.size
    by_cases hlt : k < ids.length
    · obtain ⟨b, off, rfl, _, hb, hcell⟩ := HI.out.at k hlt wr hBW
      go_wp2_with (at_builtin; refine wpList_app rfl _ _ 27 rfl (U.heap.size + 1) 42 i0 (.int .u64 0) 8 Tryz.underlying27 hi0 hz0 hz1 hz2 rfl _ k _ rfl (hO.out.alloc _) 0 _ 1 _ rfl (sl_new _ .u64 [nth ids k] 42 _ 1 rfl rfl (by simp [maxLen])) (fun _ => rfl) ?qc1 ?qc2 ?qc3 ?_)
      case qc1 => simp only [maxLen]; omega
      case qc2 => omega
      case qc3 => simp; omega
      intro v' w2 ho hg
      have hB2 : Hid (RowKit.Below (U.heap.size + 1) w1 w2) := (hB.out.alloc (by omega) _).grown hg (by simp; omega) (fun j hj => by have := hO.out.lt j hj; omega)
      clear hcell hb
      go_wp2_with fail
      go_roundw
      case rel =>
        go_light
        refine ⟨k + 1, by omega, by go_num, ?_, hB2.out⟩
        have e : (ids.take (k + 1)).map (Value.int .u64) = List.take k (ids.map (Value.int .u64)) ++ [Value.int .u64 (nth [nth ids k] 0)] := by
          rw [List.take_succ_eq_append_getElem hlt, List.map_append, List.map_take]
          simp [nth, hlt]
        show World.ownsRow _ _ _ _ _ _ _
        rw [e]; exact ho
      case measure => go_light; simp [intOf]; omega
    · have hkl : k = ids.length := by omega
      have hs := hO.out
      rw [hkl, List.take_length] at hs
      have hs2 := own_ints hs
      obtain ⟨an, cn, hvn, _⟩ := hs2.slice
      subst hvn
      have SN := Lib.hid hs2
      have BN := Lib.hid hBW
      have LN := Lib.hid hB.out
      have hnI : ¬ ((k : Nat) : Int) < (ids.length : Int) := by omega
      clear hs hs2 hO hB hBW hk hlt hkl
      go_wp2_with fail
      clear hnI
      have hzr : w1.heap.size ≤ wr.heap.size := LN.out.size
      have RN : Hid (BoxNil wr U.heap.size) := R1.out.block hzr (LN.out.block _ (by omega))
      have hF := fourB_four HF.out HPL.out
      have CB := Lib.hid (born_any wr wr (RowKit.Below.refl _ _) _ ids (HI.out.below BN.out) HPL.out)
      refine CB.out.mono ?_
      intro e w2 hq
      unfold Born at hq
      rw [if_pos HF.out] at hq
      obtain ⟨rb, mb, rfl, hR1⟩ := hq
      obtain ⟨f, hfe⟩ : ∃ z, z = newF ids (setI ids) 4 := ⟨_, rfl⟩
      have R2 := Lib.hid hR1
      rw [← hfe] at R2
      have B2 := Lib.hid hR1.below
      have RN2 := Lib.hid (RN.out.later hR1.below)
      have SN2 := Lib.hid ((SN.out.base (B' := 0) (Nat.zero_le _)).below hR1.below)
      have CN := Lib.hid (rnew_yes w2 _ ids SN2.out H44.out.1 H44.out.2 hF)
      clear hR1 hfe hF CB
      go_wp2_with fail
      refine CN.out.mono ?_
      rintro e w3 ⟨x, rfl, p, V, rfl, hR3, hB3⟩
      simp only [Where.val, Where.used, Where.live, Where.ids, Where.peers]
      have R3 := Lib.hid (R2.out.later hB3)
      have RN3 := Lib.hid (RN2.out.later hB3)
      have hUz : U.heap.size < wr.heap.size := by omega
      clear hR3 hB3 CN R2 RN2 SN2
      go_wp2_with fail
      obtain ⟨w4, hw4⟩ : ∃ z, z = w3.alloc (.cells #[.slice (some ⟨p.b1, p.o1, none⟩) 32 p.k1, .slice (some ⟨p.b2, p.o2, none⟩) 32 p.k2, .slice (some ⟨p.b3, p.o3, none⟩) 32 p.k3, .slice (some ⟨p.b4, p.o4, none⟩) 32 p.k4] 32) := ⟨_, rfl⟩
      obtain ⟨T, hT⟩ : ∃ T, T = w3.heap.size := ⟨_, rfl⟩
      have b34 : RowKit.Below w3.heap.size w3 w4 := by rw [hw4]; exact bel_alloc (RowKit.Below.refl _ _) _
      have T4 : Hid (BoxOf w4 T p) := by rw [hw4, hT]; exact ⟨by simp [go_sem], by simp [go_sem], by simp [go_sem], by simp [go_sem], by simp [go_sem], by simp [go_sem], by simp [go_sem], by simp [go_sem], by simp⟩
      have R4 := Lib.hid (R3.out.later b34)
      have RN4 := Lib.hid (RN3.out.later b34)
      rw [← hw4]
      try rw [← hT]
      clear hw4 b34 hT R3 RN3
      have t0 := T4.out.c0
      have t1 := T4.out.c1
      have t2 := T4.out.c2
      have t3 := T4.out.c3
      have zT := T4.out.z
      refine wp_loop_rounds 1 ?_
      rw [rounds_succ]
      go_wp2_with fail
      refine wp_region_calm_tail (3) (by kernel_rfl) (by kernel_rfl) ?_
      simp only [List.take_succ_cons, List.take_zero, List.drop_succ_cons, List.drop_zero]
      repeat (first | (go_big_quiet_step ((fail))) | (refine wpQuiet_step (fun K hK => ?_); go_simp; first | (refine hK _ ?_; clear hK K) | (apply Exists.intro; refine ⟨fun _ => ?_, hK _ ?_⟩; (fail); clear hK K)))
      refine wpQuiet_nil ?_
      intro _ hw'
      obtain ⟨xq, hw''⟩ := hw'
      subst hw''
      have R5 := Lib.hid (R4.out.later xq.below)
      have RN5 := RN4.out.later xq.below
      obtain ⟨w5, hB5⟩ := xq
      dsimp only at R5 RN5 ⊢
      clear t0 t1 t2 t3 zT
      have r0 := (RN5).c0
      have r1 := (RN5).c1
      have r2 := (RN5).c2
      have r3 := (RN5).c3
      have rf0 := (RN5).f0
      have rf1 := (RN5).f1
      have rf2 := (RN5).f2
      have rf3 := (RN5).f3
      have zr := (RN5).z
      go_wp2_with fail
      refine bodyPost_ret (v := .tuple #[.pointer (some ⟨rb, 0, none⟩), (.agg #[.slice (some ⟨(p).b1, (p).o1, none⟩) 32 (p).k1, .slice (some ⟨(p).b2, (p).o2, none⟩) 32 (p).k2, .slice (some ⟨(p).b3, (p).o3, none⟩) 32 (p).k3, .slice (some ⟨(p).b4, (p).o4, none⟩) 32 (p).k4]), .bool true]) ?_ rfl ?_
      · simp [results, Tryz.results8, go_sem, r0, r1, r2, r3]
      obtain ⟨w6, hw6⟩ : ∃ z, z = (((w5.setCell ⟨U.heap.size, 0, none⟩ (.slice (some ⟨p.b1, p.o1, none⟩) 32 p.k1)).setCell ⟨U.heap.size, 1, none⟩ (.slice (some ⟨p.b2, p.o2, none⟩) 32 p.k2)).setCell ⟨U.heap.size, 2, none⟩ (.slice (some ⟨p.b3, p.o3, none⟩) 32 p.k3)).setCell ⟨U.heap.size, 3, none⟩ (.slice (some ⟨p.b4, p.o4, none⟩) 32 p.k4) := ⟨_, rfl⟩
      obtain ⟨hz6, hk6⟩ := block_set4 hw6
      have hbw : RowKit.Below U.heap.size U w6 := by
        rw [hw6]
        exact bel_set (bel_set (bel_set (bel_set (bel_below BN.out R5.out.below) (Nat.le_refl _) _) (Nat.le_refl _) _) (Nat.le_refl _) _) (Nat.le_refl _) _
      obtain ⟨g, hg⟩ := R5.out.ring
      have hz0 := HB0.out.size
      rw [← hw6]
      refine HYes.out rb mb f p w6 ⟨⟨g, hg.same (by omega) (fun b hb hS => hk6 b (by omega)) (fun b _ hS => by omega) fun b hb => by have := R5.out.below.size; omega⟩, R5.out.inv, bel_below HB0.out hbw⟩
end Go.Proofs.YtahiahjhpakeiaaGreatDoor

/-
  The statements' own look at keepers, stores and plans: awake.
-/
namespace Go.Proofs.YtahiahjhpakeiaaGreatDoor
open Go.RowKit Go.Maps Go.Sort Go.WideShapes Go.ChangeShapes Go.Deep
set_option linter.unusedVariables false
set_option linter.unusedSimpArgs false
attribute [local go_sem] later_cell later_frozen later_lt cell_set_off cell_set_block

theorem putE_nil (y : Ent) : putE [] y = [y] := by
  unfold putE hitB findI; simp
theorem putT_at (x : Ent) (T : Int → Option (List Ent)) (n : Int) : putT x T n n = some (putE ((T n).getD []) (cleanE x)) := by unfold putT; rw [setT_same]
theorem putT_ne (x : Ent) (T : Int → Option (List Ent)) {n m : Int} (h : m ≠ n) : putT x T n m = T m := by unfold putT; rw [setT_ne _ _ h]
theorem putsT_out (x : Ent) : ∀ (ks : List Int) (T : Int → Option (List Ent)) (n : Int), n ∉ ks → putsT x T ks n = T n
  | [], _, _, _ => rfl
  | k :: ks, T, n, h => by
    have h1 : n ≠ k := fun e => h (by simp [e])
    have h2 : n ∉ ks := fun e => h (by simp [e])
    show putsT x (putT x T k) ks n = _
    rw [putsT_out x ks _ n h2, putT_ne _ _ h1]
theorem putsT_in (x : Ent) : ∀ (ks : List Int) (T : Int → Option (List Ent)) (n : Int), ks.Nodup → n ∈ ks → putsT x T ks n = some (putE ((T n).getD []) (cleanE x))
  | [], _, _, _, h => by simp at h
  | k :: ks, T, n, hd, h => by
    have hd' := List.nodup_cons.1 hd
    show putsT x (putT x T k) ks n = _
    rcases List.mem_cons.1 h with rfl | h
    · rw [putsT_out x ks _ n hd'.1, putT_at]
    · have : n ≠ k := fun e => hd'.1 (e ▸ h)
      rw [putsT_in x ks _ n hd'.2 h, putT_ne _ _ this]
def gE : Ent := ⟨[103], 7, [], false, 0⟩
theorem kids_put (g : Str) (x : Ent) (hx : x.g = g) : (kidsE [cleanE x] g).length = 1 := by
  unfold kidsE
  rw [List.length_map, List.filter_cons, clean_g]
  simp [hx]
set_option maxRecDepth 100000 in
set_option maxHeartbeats 8000000 in
theorem awake21_any (W : World) : Calls Tryz.prog 9 #[] W fun e w' => e = .returned (.bool true) ∧ Below W.heap.size W w' := by
  go_enter Tryz.func9, Tryz.ntmps9
  go_wp2_with fail
  refine (base_any _).mono ?_
  rintro e w1 ⟨v1, rfl, hs1, hB1⟩
  have CB := Lib.hid (born_any W w1 hB1 v1 ids0 (hs1.base (Nat.zero_le _)) (by unfold ids0 isPlace; simp))
  clear hs1 hB1
  go_wp2_with fail
  refine CB.out.mono ?_
  intro e w2 hq
  unfold Born at hq
  rw [show fourB ids0 = true from by unfold fourB; rw [set0]; rfl, if_pos rfl] at hq
  obtain ⟨rb, mb, rfl, hR1⟩ := hq
  obtain ⟨f, hf⟩ : ∃ f, f = newF ids0 (setI ids0) 4 := ⟨_, rfl⟩
  rw [← hf] at hR1
  have HIN := Lib.hid hR1.inv
  have BW2 := Lib.hid hR1.below
  obtain ⟨g, hG⟩ := hR1.ring
  have CC := Lib.hid (of_at hG hR1.inv)
  clear hR1 CB hG hf
  go_wp2_with fail
  refine CC.out.mono ?_
  rintro e w3 ⟨av, iv, rfl, hav, hiv, hb3⟩
  obtain ⟨aa, ac, rfl, _⟩ := hav.slice
  obtain ⟨ia, ic, rfl, _⟩ := hiv.slice
  have HAV := Lib.hid (hav.base (B' := 0) (Nat.zero_le _))
  have HIV := Lib.hid (hiv.base (B' := 0) (Nat.zero_le _))
  obtain ⟨cl, hcl⟩ : ∃ z, z = (circ f).length := ⟨_, rfl⟩
  have HCL := Lib.hid hcl
  have B3 := Lib.hid (bel_below BW2.out hb3)
  rw [← hcl]
  clear hcl hav hiv hb3 CC
  go_upto_region 5 with (fail)
  obtain ⟨w4, hw4⟩ : ∃ z, z = w3.alloc (.cells #[.slice aa cl ac, .slice ia cl ic] 38) := ⟨_, rfl⟩
  obtain ⟨X, hX⟩ : ∃ z, z = w3.heap.size := ⟨_, rfl⟩
  have b34 : Below w3.heap.size w3 w4 := by rw [hw4]; exact bel_alloc (Below.refl _ _) _
  have x0 : w4.cell? ⟨X, 0, none⟩ = some (.slice aa cl ac) := by rw [hw4, hX]; simp [go_sem]
  have x1 : w4.cell? ⟨X, 1, none⟩ = some (.slice ia cl ic) := by rw [hw4, hX]; simp [go_sem]
  have xz : X < w4.heap.size := by rw [hw4, hX]; simp
  have B34 := Lib.hid b34
  have CK := keep_any w4 f HIN.out _ _ (HAV.out.below b34) (HIV.out.below b34) (ByteArray.mk #[103]) (by decide)
  rw [← HCL.out] at CK
  have CK := Lib.hid CK
  have HKD := Lib.hid (keepK_nodup HIN.out (keyH (ByteArray.mk #[103])))
  have HKL : Hid (∀ n ∈ keepK f (keyH (ByteArray.mk #[103])), 0 ≤ n ∧ n < 32) := fun n hn => livesR_dom HIN.out.dom (keepK_lives HIN.out _ n hn)
  unfold KeepPost at CK
  obtain ⟨ks, hks⟩ : ∃ z, z = keepK f (keyH (ByteArray.mk #[103])) := ⟨_, rfl⟩
  have HKS := Lib.hid hks
  have HK3 : Hid (ks.length = 3) := show _ = _ by rw [hks]; rfl
  rw [← hks] at CK HKD HKL
  rw [← hw4]
  try rw [← hX]
  clear hw4 hX b34 hks
  go_wp2_with fail
  refine CK.out.mono ?_
  rintro e w5 ⟨v5, rfl, hs5, hb5⟩
  obtain ⟨a5, c5, rfl, _⟩ := hs5.slice
  have S5 := Lib.hid (hs5.base (B' := 0) (Nat.zero_le _))
  have B5 := Lib.hid (bel_below (bel_below B3.out B34.out) hb5)
  have AV5 := Lib.hid (HAV.out.below (bel_below B34.out hb5))
  have IV5 := Lib.hid (HIV.out.below (bel_below B34.out hb5))
  have x0 := (hb5.cell (p := ⟨X, 0, none⟩) xz).trans x0
  have x1 := (hb5.cell (p := ⟨X, 1, none⟩) xz).trans x1
  have xz := Nat.lt_of_lt_of_le xz hb5.size
  clear hs5 hb5 CK HAV HIV B3 B34
  go_wp2_with fail
  refine (snew_any w5).mono ?_
  rintro e w6 ⟨sb, mb2, rfl, ⟨R0, tb0, hS6⟩, hb6⟩
  have S6 := Lib.hid hS6
  have x0 := (hb6.cell (p := ⟨X, 0, none⟩) xz).trans x0
  have x1 := (hb6.cell (p := ⟨X, 1, none⟩) xz).trans x1
  have CP := sput_any S6.out (fun n l h => by cases h) f HIN.out _ _ (AV5.out.below hb6) (IV5.out.below hb6) gE (by decide) (.slice none 0 0) (slT_nil _ _) (by decide)
  rw [← HCL.out, show keepK f (keyH (bs gE.g)) = ks from HKS.out.symm] at CP
  have CP := Lib.hid CP
  have B6 := Lib.hid hb6
  have xz6 := Nat.lt_of_lt_of_le xz hb6.size
  clear hS6 hb6
  go_wp2_with fail
  refine CP.out.mono ?_
  rintro e w7 ⟨rfl, ⟨R7, tb7, hS7⟩, hK7⟩
  have K57 : Hid (Kept (fun b => ¬ b < w5.heap.size) w5 w7) := ((Kept.refl _ w5).below B6.out).trans hK7
  have S7 := Lib.hid (slAt_kept2 S5.out K57.out fun b _ h1 h2 => h2 h1)
  have AV7 := Lib.hid (slAt_kept2 AV5.out K57.out fun b _ h1 h2 => h2 h1)
  have IV7 := Lib.hid (slAt_kept2 IV5.out K57.out fun b _ h1 h2 => h2 h1)
  have x0 := (World.cell?_of_block (a := ⟨X, 0, none⟩) (hK7.block X xz6 (fun h => h xz))).trans x0
  have x1 := (World.cell?_of_block (a := ⟨X, 1, none⟩) (hK7.block X xz6 (fun h => h xz))).trans x1
  have hTT : ∀ n ∈ ks, (kidsE ((putsT gE (fun _ => none) ks n).getD []) [103]).length = 1 := fun n hn => by
    rw [putsT_in gE ks _ n HKD.out hn]
    show (kidsE (putE [] (cleanE gE)) [103]).length = 1
    rw [putE_nil]; exact kids_put _ _ rfl
  have HTT := Lib.hid hTT
  have xz7 := Nat.lt_of_lt_of_le xz6 hK7.size
  have HS7 := Lib.hid hS7
  have B7 : Hid (Below W.heap.size W w7) := B5.out.trans (K57.out.toBelow B5.out.size fun b hb h => by have := B5.out.size; omega)
  obtain ⟨T7, hT7⟩ : ∃ z, z = putsT gE (fun _ => none) ks := ⟨_, rfl⟩
  rw [← hT7] at HS7 HTT
  obtain ⟨qb, qo, hq, _, hqz, hl0⟩ := S7.out.at 0 (by omega) w7 (Below.refl _ _)
  have hqz5 : qb < w5.heap.size := by
    obtain ⟨qb', qo', hq', _, hqz', _⟩ := S5.out.at 0 (by omega) w5 (Below.refl _ _)
    rw [hq] at hq'
    cases hq'
    exact hqz'
  subst hq
  rw [Nat.add_zero] at hl0
  have hl2 : w7.cell? ⟨qb, qo + 2, none⟩ = some (.int .i64 (nth ks 2)) := by
    obtain ⟨qb', qo', hq', _, _, h2⟩ := S7.out.at 2 (by omega) w7 (Below.refl _ _)
    cases hq'
    exact h2
  have hn0 : nth ks 0 ∈ ks := nth_mem.2 ⟨0, by rw [HK3.out]; omega, rfl⟩
  have hn2 : nth ks 2 ∈ ks := nth_mem.2 ⟨2, by rw [HK3.out]; omega, rfl⟩
  have CW := Lib.hid (wish_any HS7.out (nth ks 0) (HKL.out _ hn0).1 (HKL.out _ hn0).2 [103])
  have HL0 := Lib.hid (HTT.out _ hn0)
  have HL2 := Lib.hid (HTT.out _ hn2)
  have HD2 := Lib.hid (HKL.out _ hn2)
  have HNE : Hid (nth ks 2 ≠ nth ks 0) := show _ ≠ _ from fun e => by
    have h3 := List.pairwise_iff_getElem.1 HKD.out 0 2 (by rw [HK3.out]; omega) (by rw [HK3.out]; omega) (by omega)
    rw [← nth_eq (by rw [HK3.out]; omega), ← nth_eq (by rw [HK3.out]; omega)] at h3
    exact h3 e.symm
  obtain ⟨n0, hn0e⟩ : ∃ z, z = nth ks 0 := ⟨_, rfl⟩
  obtain ⟨n2, hn2e⟩ : ∃ z, z = nth ks 2 := ⟨_, rfl⟩
  rw [← hn0e] at hl0 CW HL0 HNE
  rw [← hn2e] at hl2 HL2 HNE HD2
  clear hS7 hK7 hTT hT7 hn0e hn2e hn0 hn2 CP S7 S5 S6 AV7 IV7
  go_wp2_with fail
  refine CW.out.mono ?_
  rintro e w8 ⟨v8, R8, tb8, rfl, hE8, hS8, hK8⟩
  obtain ⟨a8, c8, rfl, _⟩ := hE8.slice
  have hT8 : (setT T7 n0 ((T7 n0).getD [])) n2 = T7 n2 := setT_ne _ _ HNE.out
  have CW2 := wish_any hS8 n2 HD2.out.1 HD2.out.2 [103]
  rw [hT8] at CW2
  have CW2 := Lib.hid CW2
  have hl2 := (World.cell?_of_block (a := ⟨qb, qo + 2, none⟩) (hK8.block qb hqz (fun h => h hqz5))).trans hl2
  have x0 := (World.cell?_of_block (a := ⟨X, 0, none⟩) (hK8.block X xz7 (fun h => h xz))).trans x0
  have x1 := (World.cell?_of_block (a := ⟨X, 1, none⟩) (hK8.block X xz7 (fun h => h xz))).trans x1
  have xz8 := Nat.lt_of_lt_of_le xz7 hK8.size
  have hqz8 := Nat.lt_of_lt_of_le hqz hK8.size
  have B8 : Hid (Below W.heap.size W w8) := B7.out.trans (hK8.toBelow B7.out.size fun b hb h => by have := B5.out.size; omega)
  have K58 := Lib.hid (K57.out.trans hK8)
  have HL80 := HL0.out
  obtain ⟨kl, hkl⟩ : ∃ z, z = kidsE ((T7 n0).getD []) [103] := ⟨_, rfl⟩
  rw [← hkl] at HL80 ⊢
  rw [HL80]
  clear hE8 hS8 hK8 hT8 CW hkl HL80 K57
  go_wp2_with fail
  refine CW2.out.mono ?_
  rintro e w9 ⟨v9, R9, tb9, rfl, hE9, hS9, hK9⟩
  obtain ⟨a9, c9, rfl, _⟩ := hE9.slice
  have x0 := (World.cell?_of_block (a := ⟨X, 0, none⟩) (hK9.block X xz8 (fun h => h xz))).trans x0
  have x1 := (World.cell?_of_block (a := ⟨X, 1, none⟩) (hK9.block X xz8 (fun h => h xz))).trans x1
  have xz9 := Nat.lt_of_lt_of_le xz8 hK9.size
  have B9 : Hid (Below W.heap.size W w9) := B8.out.trans (hK9.toBelow B8.out.size fun b hb h => by have := B5.out.size; omega)
  have K59 := K58.out.trans hK9
  have AV9 := Lib.hid (slAt_kept2 AV5.out K59 fun b _ h1 h2 => h2 h1)
  have IV9 := Lib.hid (slAt_kept2 IV5.out K59 fun b _ h1 h2 => h2 h1)
  have HL90 := HL2.out
  obtain ⟨kl, hkl⟩ : ∃ z, z = kidsE ((T7 n2).getD []) [103] := ⟨_, rfl⟩
  rw [← hkl] at HL90 ⊢
  rw [HL90]
  clear hE9 hS9 hK9 CW2 hkl HL90 K58 K59 HTT HS7
  go_wp2_with fail
  obtain ⟨w10, hw10⟩ : ∃ z, z = w9.alloc (.cells #[.string { data := #[103] }] 9) := ⟨_, rfl⟩
  have b10 : Below w9.heap.size w9 w10 := by rw [hw10]; exact bel_alloc (Below.refl _ _) _
  have SS : Hid (SlS 0 [[103]] w10 (.slice (some ⟨w9.heap.size, 0, none⟩) 1 1)) := show SlAt _ _ _ _ _ by
    rw [hw10]
    exact (slS_one w9 [103] 9 w9.heap.size rfl).congr fun i hi => by
      obtain rfl : i = 0 := by have : i < 1 := hi; omega
      rfl
  have B10 := Lib.hid (bel_below B9.out b10)
  have CPL := plan_any w10 f f HIN.out HIN.out _ _ _ _ (AV9.out.below b10) (IV9.out.below b10) (AV9.out.below b10) (IV9.out.below b10) _ [[103]] SS.out (by decide) (by decide)
  rw [← HCL.out] at CPL
  have CPL := Lib.hid CPL
  rw [← hw10]
  clear hw10 b10 SS AV9 IV9
  refine CPL.out.mono ?_
  rintro e w11 ⟨v, L, rfl, hv, _, hp, hb11⟩
  rw [planU_same HIN.out] at hp
  obtain rfl := List.Perm.eq_nil hp
  obtain ⟨a11, c11, rfl⟩ := hv.slice
  have B11 := Lib.hid (bel_below B10.out hb11)
  rw [List.length_nil]
  clear hv hp hb11 CPL
  go_wp2_with fail
  go_ret
  exact ⟨rfl, B11.out⟩
end Go.Proofs.YtahiahjhpakeiaaGreatDoor
