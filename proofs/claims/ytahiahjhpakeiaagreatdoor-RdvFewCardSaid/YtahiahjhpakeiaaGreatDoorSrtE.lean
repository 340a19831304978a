


/-
  The stable sort of moves: symMerge, where neither is one.
-/
import Derived.Test.YtahiahjhpakeiaaGreatDoorSrtC
namespace Go.Proofs.YtahiahjhpakeiaaGreatDoor
open Go.RowKit Go.Maps Go.Sort Go.WideShapes Go.ChangeShapes Go.Deep
set_option linter.unusedVariables false
set_option linter.unusedSimpArgs false
attribute [local go_sem] later_cell later_frozen later_lt cell_set_off cell_set_block keptT_cell keptT_lt

set_option maxRecDepth 100000 in
set_option maxHeartbeats 16000000 in
theorem sym_gen (q n cap : Nat) (hnl : n ≤ 1000000) (P X Y S : List Mv) (w : World) (hx0 : 0 < X.length) (hy0 : 0 < Y.length) (hX : SortedB mlt X) (hY : SortedB mlt Y) (hM : MvIn w q (P ++ (X ++ (Y ++ S)))) (hn : P.length + X.length + Y.length + S.length = n)
    (a m b : Nat) (ha : a = P.length) (hm : m = a + X.length) (hb : b = m + Y.length) (h1 : m - a ≠ 1) (h2 : b - m ≠ 1) (N : Nat) (hNb : b - a ≤ N)
    (ih : ∀ (P X Y S : List Mv) (w : World), X.length + Y.length < N → 0 < X.length → 0 < Y.length → SortedB mlt X → SortedB mlt Y → MvIn w q (P ++ (X ++ (Y ++ S))) → P.length + X.length + Y.length + S.length = n → ∀ a m b : Nat, a = P.length → m = a + X.length → b = m + Y.length →
      Calls Tryz.prog 149 #[.slice (some ⟨q, 0, none⟩) n cap, .int .i64 a, .int .i64 m, .int .i64 b, .func (.func 59) #[] #[]] w (SrtPost w q P (X ++ Y) S)) :
    Calls Tryz.prog 149 #[.slice (some ⟨q, 0, none⟩) n cap, .int .i64 a, .int .i64 m, .int .i64 b, .func (.func 59) #[] #[]] w (SrtPost w q P (X ++ Y) S) := by
  have IH := Lib.hid ih
  clear ih
  have HXS := Lib.hid hX
  have HYS := Lib.hid hY
  have HP : Hid (∀ Z w', Z.Perm (X ++ Y) → SortedB mlt Z → MvIn w' q (P ++ (Z ++ S)) → Kept (fun b => b = q) w w' → SrtPost w q P (X ++ Y) S (.returned (.tuple #[])) w') := fun Z w' h1 h2 h3 h4 => ⟨rfl, Z, h1, h2, h3, h4⟩
  have HLX : Hid (∀ k, k < X.length → elt (P ++ (X ++ (Y ++ S))) (a + k) = elt X k) := fun k hk => by rw [ha]; exact sym_x hk
  have HLY : Hid (∀ k, k < Y.length → elt (P ++ (X ++ (Y ++ S))) (m + k) = elt Y k) := fun k hk => by rw [hm, ha]; exact sym_y hk
  have HXL : Hid (X.length = m - a) := show _ = _ by omega
  have HYL : Hid (Y.length = b - m) := show _ = _ by omega
  have HPL : Hid (P.length = a) := show _ = _ by omega
  have HSL : Hid (S.length = n - b) := show _ = _ by omega
  have ham : a < m := by omega
  have hmb : m < b := by omega
  have hbn : b ≤ n := by omega
  have HM := Lib.hid hM
  have hLl : (P ++ (X ++ (Y ++ S))).length = n := by rw [sym_len]; exact hn
  obtain ⟨L, hL⟩ : ∃ z, z = P ++ (X ++ (Y ++ S)) := ⟨_, rfl⟩
  have HLE := Lib.hid hL
  rw [← hL] at HM HLX HLY hLl
  have HLL := Lib.hid hLl
  clear hL hLl hx0 hy0 hX hY hM hn ha hm hb
  go_enter Tryz.func149, Tryz.ntmps149
  have h1I : ((m : Int) - (a : Int) == 1) = false := beq_eq_false_iff_ne.2 (by omega)
  have h2I : ((b : Int) - (m : Int) == 1) = false := beq_eq_false_iff_ne.2 (by omega)
  have hba : b - a ≤ N := hNb
  obtain ⟨md, hmd⟩ : ∃ z, z = (a + b) / 2 := ⟨_, rfl⟩
  have HMD := Lib.hid hmd
  have hmd1 : 2 * md ≤ a + b := by omega
  have hmd2 : a + b ≤ 2 * md + 1 := by omega
  have hmdI : ((a : Int) + (b : Int)) / 2 = (md : Int) := by omega
  obtain ⟨lo, hlo⟩ : ∃ z, z = (if md < m then md + m - b else a) := ⟨_, rfl⟩
  obtain ⟨hi, hhi⟩ : ∃ z, z = (if md < m then md else m) := ⟨_, rfl⟩
  have HLO := Lib.hid hlo
  have HHI := Lib.hid hhi
  have hlo1 : a ≤ lo ∧ lo ≤ hi ∧ hi ≤ m ∧ hi ≤ md ∧ md + m ≤ b + lo := by split at hlo <;> split at hhi <;> omega
  obtain ⟨hl1, hl2, hl3, hl4, hl5⟩ := hlo1
  have hcase : (md < m ∧ (md : Int) + (m : Int) - (b : Int) = (lo : Int) ∧ md ≤ hi ∧ hi ≤ md) ∨ (¬ md < m ∧ lo ≤ a ∧ a ≤ lo ∧ hi ≤ m ∧ m ≤ hi) := by
    by_cases h : md < m
    · left; rw [if_pos h] at hlo hhi; omega
    · right; rw [if_neg h] at hlo hhi; omega
  clear hmd hlo hhi
  go_upto_if 140 with (fail)
  go_cut [20, 21] (fun s20 s21 wx => s20 = .int .i64 lo ∧ s21 = .int .i64 hi ∧ wx = w)
  case first =>
    rcases hcase with ⟨c1, c2, c3, c4⟩ | ⟨c1, c2, c3, c4, c5⟩
    · have hcI : (md : Int) < (m : Int) := by omega
      obtain rfl : md = hi := by omega
      go_wp2_with fail
      go_meet
      case rel => exact ⟨rfl, rfl, rfl⟩
    · have hcI : ¬ (md : Int) < (m : Int) := by omega
      obtain rfl : a = lo := by omega
      obtain rfl : m = hi := by omega
      go_wp2_with fail
      go_meet
      case rel => exact ⟨rfl, rfl, rfl⟩
  case rest =>
    obtain ⟨rfl, rfl, hwc⟩ := hcut
    replace hwc := hwc.symm
    subst hwc
    clear hcase
    go_wp2_with fail
    go_loopw [20, 21] (fun vi vj wr => ∃ u r : Nat, vi = .int .i64 u ∧ vj = .int .i64 r ∧ lo ≤ u ∧ u ≤ r ∧ r ≤ hi ∧ Hid (u = lo ∨ mlt (elt L (md + m - u)) (elt L (u - 1)) = false) ∧ Hid (r = hi ∨ mlt (elt L (md + m - 1 - r)) (elt L r) = true) ∧ Hid (Below w.heap.size w wr)) (fun vi vj _ => (intOf vj).toNat - (intOf vi).toNat)
    case atStart => exact ⟨lo, hi, rfl, rfl, Nat.le_refl _, hl2, Nat.le_refl _, Or.inl rfl, Or.inl rfl, Below.refl _ _⟩
    case round =>
      obtain ⟨u, r, rfl, rfl, hu1, hur, hrb, hq1, hq2, hB⟩ := hrel
      have hI := Lib.hid (HM.out.below hB.out)
      by_cases hlt : u < r
      · have hltI : (u : Int) < (r : Int) := by omega
        have hcs1 : u ≤ (u + r) / 2 := by omega
        have hcs2 : (u + r) / 2 < r := by omega
        have hcn : (u + r) / 2 < n := by omega
        have HLn := HLL.out
        obtain ⟨c, hc⟩ : ∃ z, z = (u + r) / 2 := ⟨_, rfl⟩
        have HC := Lib.hid hc
        have hcI : ((u : Int) + (r : Int)) / 2 = (c : Int) := by omega
        obtain ⟨pc, hpc⟩ : ∃ z, z = md + m - 1 - c := ⟨_, rfl⟩
        have HPC := Lib.hid hpc
        have hpcI : (md : Int) + (m : Int) - 1 - (c : Int) = (pc : Int) := by omega
        have hpn : pc < n := by omega
        rw [← hc] at hcs1 hcs2 hcn
        clear hc hpc
        obtain ⟨x0, x1, x2⟩ := hI.out.all (pc) (by omega)
        obtain ⟨y0, y1, y2⟩ := hI.out.all (c) (by omega)
        have hqz := hI.out.lt
        obtain ⟨x, hx⟩ : ∃ z, z = elt L (pc) := ⟨_, rfl⟩
        obtain ⟨y, hy⟩ : ∃ z, z = elt L (c) := ⟨_, rfl⟩
        have HX := Lib.hid hx
        have HY := Lib.hid hy
        rw [← hx] at x0 x1 x2
        rw [← hy] at y0 y1 y2
        clear hx hy
        obtain ⟨xg, xf, xt⟩ := x
        obtain ⟨yg, yf, yt⟩ := y
        dsimp only at x0 x1 x2 y0 y1 y2
        have CO := Lib.hid fun w' => plan2_any w' (bs xg) (bs yg) xf xt yf yt
        rw [bs_toList, bs_toList] at CO
        obtain ⟨z, hz⟩ : ∃ z, z = cmpK xg xt yg yt := ⟨_, rfl⟩
        have HZ2 : Hid (mlt (elt L (pc)) (elt L (c)) = decide (z < 0)) := show _ = _ by rw [← HX.out, ← HY.out, mlt_cmp, hz]
        rw [← hz] at CO
        clear hz
        clear HLn
        by_cases hz0 : z < 0
        · have hzb : (!decide (z < 0)) = false := by simpa using hz0
          as_aux_lemma =>
            have hQ2 : Hid (c = hi ∨ mlt (elt L (md + m - 1 - c)) (elt L c) = true) := Or.inr (by rw [← HPC.out, HZ2.out]; simpa using hz0)
            go_wp2_with fail
            refine wp_region_calm (by kernel_rfl) (by kernel_rfl) ?_
            repeat (first | (go_big_quiet_step ((go_at_call 59; exact calls_calm (CO.out _)))) | (refine wpQuiet_step (fun K hK => ?_); go_simp; first | (refine hK _ ?_; clear hK K) | (apply Exists.intro; refine ⟨fun _ => ?_, hK _ ?_⟩; (go_at_call 59; exact calls_calm (CO.out _)); clear hK K)))
            refine wpQuiet_nil ?_
            intro _ hw'
            obtain ⟨xq, hw''⟩ := hw'
            subst hw''
            go_wp2_with fail
            go_roundw
            case rel => go_light; exact ⟨u, c, rfl, by first | rfl | go_num, hu1, by omega, by omega, hq1.out, hQ2.out, bel_below hB.out xq.below⟩
            case measure => go_light; simp [intOf]; omega
        · have hzb : (!decide (z < 0)) = true := by simpa using hz0
          as_aux_lemma =>
            have hQ1 : Hid (c + 1 = lo ∨ mlt (elt L (md + m - (c + 1))) (elt L (c + 1 - 1)) = false) := Or.inr (by rw [show md + m - (c + 1) = pc by rw [HPC.out]; omega, Nat.add_sub_cancel, HZ2.out]; simpa using hz0)
            go_wp2_with fail
            refine wp_region_calm (by kernel_rfl) (by kernel_rfl) ?_
            repeat (first | (go_big_quiet_step ((go_at_call 59; exact calls_calm (CO.out _)))) | (refine wpQuiet_step (fun K hK => ?_); go_simp; first | (refine hK _ ?_; clear hK K) | (apply Exists.intro; refine ⟨fun _ => ?_, hK _ ?_⟩; (go_at_call 59; exact calls_calm (CO.out _)); clear hK K)))
            refine wpQuiet_nil ?_
            intro _ hw'
            obtain ⟨xq, hw''⟩ := hw'
            subst hw''
            go_wp2_with fail
            go_roundw
            case rel => go_light; exact ⟨c + 1, r, by go_num, rfl, by omega, by omega, hrb, hQ1.out, hq2.out, bel_below hB.out xq.below⟩
            case measure => go_light; simp [intOf]; omega
      · obtain rfl : u = r := by omega
        have hltI : ¬ (u : Int) < (u : Int) := by omega
        have hmid := Lib.hid (sym_cut HXS.out HYS.out (a := a) (m := m) (b := b) (mid := md) (u := u) (by rw [HXL.out]; omega) (by rw [HYL.out]; omega) HMD.out L HLX.out HLY.out (by rw [← HLO.out]; exact hu1) (by rw [← HHI.out]; exact hrb) (by rw [← HLO.out]; exact hq1.out) (by rw [← HHI.out]; exact hq2.out))
        obtain ⟨en, hen⟩ : ∃ z, z = md + m - u := ⟨_, rfl⟩
        have henI : (md : Int) + (m : Int) - (u : Int) = (en : Int) := by omega
        have hen1 : en + u ≤ md + m := by omega
        have hen2 : md + m ≤ en + u := by omega
        have K0 : Hid (Kept (fun b => b = q) w wr) := (Kept.refl _ w).below hB.out
        have HI0 : Hid (MvIn wr q ((P ++ X.take (u - a)) ++ (X.drop (u - a) ++ (Y.take (md - u) ++ (Y.drop (md - u) ++ S))))) := show MvIn _ _ _ by
          have := hI.out
          rw [HLE.out] at this
          have e : (P ++ X.take (u - a)) ++ (X.drop (u - a) ++ (Y.take (md - u) ++ (Y.drop (md - u) ++ S))) = P ++ (X ++ (Y ++ S)) := by
            rw [List.append_assoc, ← List.append_assoc (X.take _), List.take_append_drop, ← List.append_assoc (Y.take _), List.take_append_drop]
          rw [e]; exact this
        have HA1 : Hid ((X.take (u - a)).length = u - a) := show _ = _ by rw [List.length_take, HXL.out]; omega
        have HA2 : Hid ((X.drop (u - a)).length = m - u) := show _ = _ by rw [List.length_drop, HXL.out]; omega
        have HB1 : Hid ((Y.take (md - u)).length = md - u) := show _ = _ by rw [List.length_take, HYL.out]; omega
        have HB2 : Hid ((Y.drop (md - u)).length = b - en) := show _ = _ by rw [List.length_drop, HYL.out]; omega
        have SA1 := Lib.hid (HXS.out.take (u - a))
        have SA2 := Lib.hid (HXS.out.drop (u - a))
        have SB1 := Lib.hid (HYS.out.take (md - u))
        have SB2 := Lib.hid (HYS.out.drop (md - u))
        obtain ⟨A1, hA1⟩ : ∃ z, z = X.take (u - a) := ⟨_, rfl⟩
        obtain ⟨A2, hA2⟩ : ∃ z, z = X.drop (u - a) := ⟨_, rfl⟩
        obtain ⟨B1, hB1⟩ : ∃ z, z = Y.take (md - u) := ⟨_, rfl⟩
        obtain ⟨B2, hB2⟩ : ∃ z, z = Y.drop (md - u) := ⟨_, rfl⟩
        have HMG : Hid (∀ Z1 Z2 : List Mv, SortedB mlt Z1 → SortedB mlt Z2 → Z1.Perm (A1 ++ B1) → Z2.Perm (A2 ++ B2) → SortedB mlt (Z1 ++ Z2) ∧ (Z1 ++ Z2).Perm (X ++ Y)) := fun Z1 Z2 h1 h2 p1 p2 => by
          rw [hA1, hB1] at p1
          rw [hA2, hB2] at p2
          exact merged h1 h2 p1 p2 hmid.out
        rw [← hA1] at HI0 HA1 SA1
        rw [← hA2] at HI0 HA2 SA2
        rw [← hB1] at HI0 HB1 SB1
        rw [← hB2] at HI0 HB2 SB2
        clear hA1 hA2 hB1 hB2 hmid hI hB hq1 hq2 hen HLX HLY HLO HHI HMD
        have hum : u ≤ m := by omega
        have humd : u ≤ md := by omega
        have hau : a ≤ u := by omega
        have hmen : m ≤ en := by omega
        have henb : en ≤ b := by omega
        have hamd : a < md := by omega
        have hmdb : md < b := by omega
        have hmden : md ≤ en := by omega
        clear hl1 hl2 hl3 hl4 hl5 hu1 hrb hur
        as_aux_lemma =>
          obtain ⟨rb, hrb⟩ : ∃ z, z = decide (u < m ∧ m < en) := ⟨_, rfl⟩
          have HRB := Lib.hid hrb
          clear hrb
          go_upto_region 39 with (fail)
          go_cut [185] (fun s wx => s = .bool rb ∧ wx = wr)
          case first =>
            by_cases c1 : u < m
            · have c1I : (u : Int) < (m : Int) := by omega
              by_cases c2 : m < en
              · have c2I : (m : Int) < (en : Int) := by omega
                go_wp2_with fail
                go_meet
                case rel => exact ⟨by rw [HRB.out]; simp [c1, c2], rfl⟩
              · have c2I : ¬ (m : Int) < (en : Int) := by omega
                go_wp2_with fail
                go_meet
                case rel => exact ⟨by rw [HRB.out]; simp [c1, c2], rfl⟩
            · have c1I : ¬ (u : Int) < (m : Int) := by omega
              go_wp2_with fail
              go_meet
              case rel => exact ⟨by rw [HRB.out]; simp [c1], rfl⟩
          case rest =>
            obtain ⟨rfl, hwc⟩ := hcut
            replace hwc := hwc.symm
            subst hwc
            go_upto_if 185 with (fail)
            go_cut [] (fun wx => Hid (MvIn wx q (P ++ (A1 ++ (B1 ++ (A2 ++ (B2 ++ S)))))) ∧ Hid (Kept (fun b => b = q) w wx))
            case first =>
              cases rb with
              | true =>
                have hr := HRB.out
                as_aux_lemma =>
                  have hr2 : u < m ∧ m < en := of_decide_eq_true hr.symm
                  have CR := Lib.hid (rot_any wr q n cap (P ++ A1) A2 B1 (B2 ++ S) HI0.out (by simp only [List.length_append]; rw [HPL.out, HA1.out, HA2.out, HB1.out, HB2.out, HSL.out]; omega) hnl (by rw [HA2.out]; omega) (by rw [HB1.out]; omega) u m en (by rw [List.length_append, HPL.out, HA1.out]; omega) (by rw [HA2.out]; omega) (by rw [HB1.out]; omega) (.func (.func 59) #[] #[]))
                  clear hr hr2
                  go_wp2_with fail
                  refine CR.out.mono ?_
                  rintro e w2 ⟨rfl, hM2, hK2⟩
                  have M2 := Lib.hid hM2
                  have K2 := Lib.hid (K0.out.trans hK2)
                  clear hM2 hK2 CR
                  go_wp2_with fail
                  go_meet
                  case rel => exact ⟨by have := M2.out; rw [List.append_assoc] at this; exact this, K2.out⟩
              | false =>
                have M2 : Hid (MvIn wr q (P ++ (A1 ++ (B1 ++ (A2 ++ (B2 ++ S)))))) := show MvIn _ _ _ by
                  have hr := HRB.out
                  have hr2 : ¬ (u < m ∧ m < en) := of_decide_eq_false hr.symm
                  have h3 := HI0.out
                  rw [List.append_assoc] at h3
                  by_cases c : A2 = []
                  · rw [c] at h3 ⊢; exact h3
                  · have h4 : 0 < A2.length := List.length_pos_iff.2 c
                    rw [HA2.out] at h4
                    have h5 : B1 = [] := List.length_eq_zero_iff.1 (by rw [HB1.out]; omega)
                    rw [h5] at h3 ⊢; exact h3
                go_wp2_with fail
                go_meet
                case rel => exact ⟨M2.out, K0.out⟩
            case rest =>
              as_aux_lemma =>
                obtain ⟨hM2, hK2⟩ := hcut
                clear HRB HI0 K0
                have M2 := hM2
                have K2 := hK2
                clear hM2 hK2
                obtain ⟨rb2, hrb⟩ : ∃ z, z = decide (a < u ∧ u < md) := ⟨_, rfl⟩
                have HRB := Lib.hid hrb
                clear hrb
                go_upto_region 41 with (fail)
                go_cut [199] (fun s wx => s = .bool rb2 ∧ wx = wc)
                case first =>
                  by_cases c1 : a < u
                  · have c1I : (a : Int) < (u : Int) := by omega
                    by_cases c2 : u < md
                    · have c2I : (u : Int) < (md : Int) := by omega
                      go_wp2_with fail
                      go_meet
                      case rel => exact ⟨by rw [HRB.out]; simp [c1, c2], rfl⟩
                    · have c2I : ¬ (u : Int) < (md : Int) := by omega
                      go_wp2_with fail
                      go_meet
                      case rel => exact ⟨by rw [HRB.out]; simp [c1, c2], rfl⟩
                  · have c1I : ¬ (a : Int) < (u : Int) := by omega
                    go_wp2_with fail
                    go_meet
                    case rel => exact ⟨by rw [HRB.out]; simp [c1], rfl⟩
                case rest =>
                  obtain ⟨rfl, hwc⟩ := hcut
                  subst hwc
                  go_upto_if 199 with (fail)
                  go_cut [] (fun wx => ∃ Z1 : List Mv, Hid (Z1.Perm (A1 ++ B1) ∧ SortedB mlt Z1) ∧ Hid (MvIn wx q (P ++ (Z1 ++ (A2 ++ (B2 ++ S))))) ∧ Hid (Kept (fun b => b = q) w wx))
                  case first =>
                    cases rb2 with
                    | true =>
                      have hr := HRB.out
                      as_aux_lemma =>
                        have hr2 : a < u ∧ u < md := of_decide_eq_true hr.symm
                        have CR := Lib.hid (IH.out P A1 B1 (A2 ++ (B2 ++ S)) _ (by rw [HA1.out, HB1.out]; omega) (by rw [HA1.out]; omega) (by rw [HB1.out]; omega) SA1.out SB1.out M2.out (by simp only [List.length_append]; rw [HPL.out, HA1.out, HA2.out, HB1.out, HB2.out, HSL.out]; omega) a u md HPL.out.symm (by rw [HA1.out]; omega) (by rw [HB1.out]; omega))
                        clear hr hr2
                        go_wp2_with fail
                        refine CR.out.mono ?_
                        rintro e w3 ⟨rfl, Z1, hz1, hz2, hM3, hK3⟩
                        have M3 := Lib.hid hM3
                        have K3 := Lib.hid (K2.out.trans hK3)
                        have Z3 : Hid (Z1.Perm (A1 ++ B1) ∧ SortedB mlt Z1) := ⟨hz1, hz2⟩
                        clear hM3 hK3 hz1 hz2 CR
                        go_wp2_with fail
                        go_meet
                        case rel => exact ⟨Z1, Z3.out, M3.out, K3.out⟩
                    | false =>
                      have Z3 : Hid ((A1 ++ B1).Perm (A1 ++ B1) ∧ SortedB mlt (A1 ++ B1)) := show _ ∧ _ by
                        refine ⟨List.Perm.refl _, ?_⟩
                        have hr := HRB.out
                        have hr2 : ¬ (a < u ∧ u < md) := of_decide_eq_false hr.symm
                        by_cases c : A1 = []
                        · rw [c]; exact SB1.out
                        · have h4 : 0 < A1.length := List.length_pos_iff.2 c
                          rw [HA1.out] at h4
                          have h5 : B1 = [] := List.length_eq_zero_iff.1 (by rw [HB1.out]; omega)
                          rw [h5, List.append_nil]; exact SA1.out
                      have M3 : Hid (MvIn _ q (P ++ ((A1 ++ B1) ++ (A2 ++ (B2 ++ S))))) := show MvIn _ _ _ by
                        have := M2.out
                        rwa [← List.append_assoc A1] at this
                      go_wp2_with fail
                      go_meet
                      case rel => exact ⟨A1 ++ B1, Z3.out, M3.out, K2.out⟩
                  case rest =>
                    as_aux_lemma =>
                      obtain ⟨Z1, hZ1, hM3, hK3⟩ := hcut
                      clear HRB M2 K2
                      have HZL : Hid (Z1.length = md - a) := show _ = _ by rw [hZ1.out.1.length_eq, List.length_append, HA1.out, HB1.out]; omega
                      obtain ⟨rb3, hrb⟩ : ∃ z, z = decide (md < en ∧ en < b) := ⟨_, rfl⟩
                      have HRB := Lib.hid hrb
                      clear hrb
                      obtain ⟨w3, hw3⟩ : ∃ z, z = wc := ⟨_, rfl⟩
                      rw [← hw3] at hM3 hK3 ⊢
                      clear hw3 wc
                      go_upto_region 43 with (fail)
                      go_cut [213] (fun s wx => s = .bool rb3 ∧ wx = w3)
                      case first =>
                        by_cases c1 : md < en
                        · have c1I : (md : Int) < (en : Int) := by omega
                          by_cases c2 : en < b
                          · have c2I : (en : Int) < (b : Int) := by omega
                            go_wp2_with fail
                            go_meet
                            case rel => exact ⟨by rw [HRB.out]; simp [c1, c2], rfl⟩
                          · have c2I : ¬ (en : Int) < (b : Int) := by omega
                            go_wp2_with fail
                            go_meet
                            case rel => exact ⟨by rw [HRB.out]; simp [c1, c2], rfl⟩
                        · have c1I : ¬ (md : Int) < (en : Int) := by omega
                          go_wp2_with fail
                          go_meet
                          case rel => exact ⟨by rw [HRB.out]; simp [c1], rfl⟩
                      case rest =>
                        obtain ⟨rfl, hwc⟩ := hcut
                        replace hwc := hwc.symm
                        subst hwc
                        cases rb3 with
                        | true =>
                          have hr := HRB.out
                          have hr2 : md < en ∧ en < b := of_decide_eq_true hr.symm
                          have CR := Lib.hid (IH.out (P ++ Z1) A2 B2 S w3 (by rw [HA2.out, HB2.out]; omega) (by rw [HA2.out]; omega) (by rw [HB2.out]; omega) SA2.out SB2.out (by have := hM3.out; rwa [← List.append_assoc] at this) (by simp only [List.length_append]; rw [HPL.out, HZL.out, HA2.out, HB2.out, HSL.out]; omega) md en b (by rw [List.length_append, HPL.out, HZL.out]; omega) (by rw [HA2.out]; omega) (by rw [HB2.out]; omega))
                          clear hr hr2
                          go_wp2_with fail
                          refine CR.out.mono ?_
                          rintro e w4 ⟨rfl, Z2, hz1, hz2, hM4, hK4⟩
                          have M4 : Hid (MvIn w4 q (P ++ ((Z1 ++ Z2) ++ S))) := show MvIn _ _ _ by simpa using hM4
                          have K4 := Lib.hid (hK3.out.trans hK4)
                          have Z4 := Lib.hid (HMG.out Z1 Z2 hZ1.out.2 hz2 hZ1.out.1 hz1)
                          clear hM4 hK4 hz1 hz2 CR
                          go_wp2_with fail
                          go_end0
                          exact HP.out (Z1 ++ Z2) _ Z4.out.2 Z4.out.1 M4.out K4.out
                        | false =>
                          have Z4 : Hid (SortedB mlt (Z1 ++ (A2 ++ B2)) ∧ (Z1 ++ (A2 ++ B2)).Perm (X ++ Y)) := show _ ∧ _ by
                            refine HMG.out Z1 (A2 ++ B2) hZ1.out.2 ?_ hZ1.out.1 (List.Perm.refl _)
                            have hr := HRB.out
                            have hr2 : ¬ (md < en ∧ en < b) := of_decide_eq_false hr.symm
                            by_cases c : A2 = []
                            · rw [c]; exact SB2.out
                            · have h4 : 0 < A2.length := List.length_pos_iff.2 c
                              rw [HA2.out] at h4
                              have h5 : B2 = [] := List.length_eq_zero_iff.1 (by rw [HB2.out]; omega)
                              rw [h5, List.append_nil]; exact SA2.out
                          have M4 : Hid (MvIn w3 q (P ++ ((Z1 ++ (A2 ++ B2)) ++ S))) := show MvIn _ _ _ by simpa using hM3.out
                          go_wp2_with fail
                          go_end0
                          exact HP.out _ _ Z4.out.2 Z4.out.1 M4.out hK3.out
theorem sym_any (q n cap : Nat) (hnl : n ≤ 1000000) : ∀ (N : Nat) (P X Y S : List Mv) (w : World), X.length + Y.length < N → 0 < X.length → 0 < Y.length → SortedB mlt X → SortedB mlt Y → MvIn w q (P ++ (X ++ (Y ++ S))) → P.length + X.length + Y.length + S.length = n →
    ∀ a m b : Nat, a = P.length → m = a + X.length → b = m + Y.length →
    Calls Tryz.prog 149 #[.slice (some ⟨q, 0, none⟩) n cap, .int .i64 a, .int .i64 m, .int .i64 b, .func (.func 59) #[] #[]] w (SrtPost w q P (X ++ Y) S)
  | 0, _, _, _, _, _, h => absurd h (Nat.not_lt_zero _)
  | N + 1, P, X, Y, S, w, hN => fun hx0 hy0 hX hY hM hn a m b ha hm hb => by
    by_cases h1 : m - a = 1
    · exact sym_one q n cap hnl P X Y S w hx0 hy0 hX hY hM hn a m b ha hm hb h1
    · by_cases h2 : b - m = 1
      · exact sym_two q n cap hnl P X Y S w hx0 hy0 hX hY hM hn a m b ha hm hb h1 h2
      · exact sym_gen q n cap hnl P X Y S w hx0 hy0 hX hY hM hn a m b ha hm hb h1 h2 N (by omega) (sym_any q n cap hnl N)
end Go.Proofs.YtahiahjhpakeiaaGreatDoor
