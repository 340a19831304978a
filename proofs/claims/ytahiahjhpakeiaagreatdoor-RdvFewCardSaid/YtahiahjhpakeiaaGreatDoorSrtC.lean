
/-
-/
import Derived.Test.YtahiahjhpakeiaaGreatDoorSrtM
import Derived.Test.YtahiahjhpakeiaaGreatDoorTabB
import Derived.Shelf.RegionOpenPlain
import Derived.Deep.DeepCutAuto
import Derived.Laws.Bits64


/-
  The stable sort of moves: their order, the insertion sort, the ranges that change places.
-/
namespace Go.Proofs.YtahiahjhpakeiaaGreatDoor
open Go.RowKit Go.Maps Go.Sort Go.WideShapes Go.ChangeShapes Go.Deep
set_option linter.unusedVariables false
set_option linter.unusedSimpArgs false
attribute [local go_sem] later_cell later_frozen later_lt cell_set_off cell_set_block keptT_cell keptT_lt

set_option maxRecDepth 100000 in
set_option maxHeartbeats 4000000 in
/-- By groups, then by whom it goes to. -/
theorem plan2_any (w : World) (ga gb : ByteArray) (fa ta fb tb : Int) :
    Calls Tryz.prog 59 #[.agg #[.string ga, .int .i64 fa, .int .i64 ta], .agg #[.string gb, .int .i64 fb, .int .i64 tb]] w
      fun e w' => e = .returned (.int .i64 (cmpK ga.toList ta gb.toList tb)) ∧ Below w.heap.size w w' := by
  have HE := Lib.hid (cmpK_or ga.toList gb.toList ta tb)
  go_enter Tryz.func59, Tryz.ntmps59
  go_upto_region 1 with (fail)
  obtain ⟨w1, hw1⟩ : ∃ z, z = (w.alloc (.cells #[.string ga, .int .i64 fa, .int .i64 ta] 53)).alloc (.cells #[.string gb, .int .i64 fb, .int .i64 tb] 53) := ⟨_, rfl⟩
  obtain ⟨X, hX⟩ : ∃ z, z = w.heap.size := ⟨_, rfl⟩
  have b01 : Below w.heap.size w w1 := by rw [hw1]; exact bel_alloc (bel_alloc (Below.refl _ _) _) _
  have x0 : w1.cell? ⟨X, 0, none⟩ = some (.string ga) := by rw [hw1, hX]; simp [go_sem]
  have x2 : w1.cell? ⟨X, 2, none⟩ = some (.int .i64 ta) := by rw [hw1, hX]; simp [go_sem]
  have y0 : w1.cell? ⟨X + 1, 0, none⟩ = some (.string gb) := by rw [hw1, hX]; simp [go_sem]
  have y2 : w1.cell? ⟨X + 1, 2, none⟩ = some (.int .i64 tb) := by rw [hw1, hX]; simp [go_sem]
  have xz : X < w1.heap.size := by rw [hw1, hX]; simp; omega
  have yz : X + 1 < w1.heap.size := by rw [hw1, hX]; simp
  have es : (w.alloc (.cells #[.string ga, .int .i64 fa, .int .i64 ta] 53)).heap.size = w.heap.size + 1 := by simp
  rw [← hw1]
  try rw [es]
  try rw [← hX]
  have B01 := Lib.hid b01
  clear hw1 hX es b01
  refine wp_region_calm_tail (10) (by kernel_rfl) (by kernel_rfl) ?_
  simp only [List.take_succ_cons, List.take_zero, List.drop_succ_cons, List.drop_zero]
  repeat (first | (go_big_quiet_step ((first | (go_at_call 61; exact calls_calm_same (cmpS_any _ _ _)) | (go_at_call 62; exact calls_calm_same (cmpI_any _ _ _))))) | (refine wpQuiet_step (fun K hK => ?_); go_simp; first | (refine hK _ ?_; clear hK K) | (apply Exists.intro; refine ⟨fun _ => ?_, hK _ ?_⟩; (first | (go_at_call 61; exact calls_calm_same (cmpS_any _ _ _)) | (go_at_call 62; exact calls_calm_same (cmpI_any _ _ _))); clear hK K)))
  refine wpQuiet_nil ?_
  intro _ hw'
  obtain ⟨xq, hw''⟩ := hw'
  subst hw''
  have B2 := Lib.hid (bel_below B01.out xq.below)
  go_wp2_with fail
  refine (or_any _ _ (cmpT ga.toList gb.toList) (cmpN ta tb) ?_ ?_).mono ?_
  · simp [go_sem]
  · simp [go_sem]
  rintro e w3 ⟨rfl, rfl⟩
  rw [HE.out]
  go_wp2_with fail
  go_ret
  exact ⟨rfl, bel_alloc B2.out _⟩
/-- What a step of the sort leaves: the moves of X in order between P and S. -/
def SrtPost (w : World) (q : Nat) (P X S : List Mv) (e : Ending) (w' : World) : Prop :=
  e = .returned (.tuple #[]) ∧ ∃ Z, Z.Perm X ∧ SortedB mlt Z ∧ MvIn w' q (P ++ (Z ++ S)) ∧ Kept (fun b => b = q) w w'
set_option maxRecDepth 100000 in
set_option maxHeartbeats 4000000 in
theorem swpr_any (w : World) (q n cap : Nat) (L : List Mv) (hM : MvIn w q L) (hn : L.length = n) (hnl : n ≤ 1000000) (a b k : Nat) (ha : a + k ≤ b) (hb : b + k ≤ n) (fv : Value) :
    Calls Tryz.prog 188 #[.slice (some ⟨q, 0, none⟩) n cap, .int .i64 a, .int .i64 b, .int .i64 k, fv] w fun e w' => e = .returned (.tuple #[]) ∧ MvIn w' q (swapR L a b k) ∧ Kept (fun b => b = q) w w' := by
  have HM := Lib.hid hM
  have HN := Lib.hid hn
  clear hM hn
  go_enter Tryz.func188, Tryz.ntmps188
  go_wp2_with fail
  go_loopw [10] (fun i wr => ∃ t : Nat, t ≤ k ∧ i = .int .i64 t ∧ Hid (MvIn wr q (swapR L a b t)) ∧ Hid (Kept (fun b => b = q) w wr)) (fun i _ => k - (intOf i).toNat)
  case atStart => exact ⟨0, Nat.zero_le _, rfl, HM.out, Kept.refl _ _⟩
  case round =>
    obtain ⟨t, ht, rfl, hI, hK⟩ := hrel
    by_cases hlt : t < k
    · have hl : (swapR L a b t).length = n := by rw [swapR_len]; exact HN.out
      have hsw : Hid (swapR L a b (t + 1) = swap2 (swapR L a b t) (a + t) (b + t)) := show _ = _ from rfl
      obtain ⟨M, hMe⟩ : ∃ z, z = swapR L a b t := ⟨_, rfl⟩
      rw [← hMe] at hsw hI hl
      obtain ⟨i, hi⟩ : ∃ z, z = a + t := ⟨_, rfl⟩
      obtain ⟨j, hj⟩ : ∃ z, z = b + t := ⟨_, rfl⟩
      rw [← hi, ← hj] at hsw
      have hii : (a : Int) + (t : Int) = (i : Int) := by omega
      have hjj : (b : Int) + (t : Int) = (j : Int) := by omega
      have hin : (i : Int) < (n : Int) := by omega
      have hjn : (j : Int) < (n : Int) := by omega
      obtain ⟨x0, x1, x2⟩ := hI.out.all (i) (by omega)
      obtain ⟨y0, y1, y2⟩ := hI.out.all (j) (by omega)
      have hqz := hI.out.lt
      have f0 := hI.out.fz ((i) * 3)
      have f1 := hI.out.fz ((i) * 3 + 1)
      have f2 := hI.out.fz ((i) * 3 + 2)
      have g0 := hI.out.fz ((j) * 3)
      have g1 := hI.out.fz ((j) * 3 + 1)
      have g2 := hI.out.fz ((j) * 3 + 2)
      have HS : Hid (MvIn ((wr.setCells q ((i) * 3) (mvCells (elt M (j)))).setCells q ((j) * 3) (mvCells (elt M (i)))).drew q (swap2 M (i) (j))) := (hI.out.swap (by omega) (by omega)).drew
      have hKS : Hid (Kept (fun b => b = q) w ((wr.setCells q ((i) * 3) (mvCells (elt M (j)))).setCells q ((j) * 3) (mvCells (elt M (i)))).drew) := (hK.out.trans (kept_swap _ _ _ _ _ rfl)).drew
      obtain ⟨ei, hei⟩ : ∃ z, z = elt M (i) := ⟨_, rfl⟩
      obtain ⟨ej, hej⟩ : ∃ z, z = elt M (j) := ⟨_, rfl⟩
      rw [← hei] at x0 x1 x2
      rw [← hej] at y0 y1 y2
      rw [← hei, ← hej] at HS hKS
      clear hei hej
      obtain ⟨ig, ifr, it⟩ := ei
      obtain ⟨jg, jfr, jt⟩ := ej
      dsimp only at x0 x1 x2 y0 y1 y2
      have mixed : Tryz.prog.follows .mixedOrders = true := by kernel_rfl
      have hij : i < j := by omega
      clear hi hj hMe hl
      go_wp2_with fail
      go_big_region_o
      all_goals go_wp2_with fail
      go_roundw
      case rel => go_light; exact ⟨t + 1, by omega, by go_num, (by show MvIn _ _ _; rw [hsw.out]; exact HS.out), hKS.out⟩
      case measure => go_light; simp [intOf]; omega
    · obtain rfl : t = k := by omega
      go_wp2_with fail
      go_end0
      exact ⟨rfl, hI.out, hK.out⟩
/-- One element under way to its place: those behind it are greater. -/
structure InsAt (P X S : List Mv) (k : Nat) (Z L : List Mv) (j : Nat) : Prop where
  hk : k < X.length
  zl : Z.length = k
  ex : ∃ Y1 Y2, Y1 ++ Y2 = Z ∧ j = P.length + Y1.length ∧ (∀ y ∈ Y2, mlt (elt X k) y = true) ∧ L = P ++ ((Y1 ++ (elt X k :: Y2)) ++ (X.drop (k + 1) ++ S))
theorem InsAt.start {P X S Z : List Mv} {k : Nat} (hk : k < X.length) (hz : Z.length = k) : InsAt P X S k Z (P ++ (Z ++ (X.drop k ++ S))) (P.length + k) :=
  ⟨hk, hz, Z, [], by simp, by omega, by simp, by rw [drop_head hk]; simp⟩
theorem InsAt.lt {P X S Z L : List Mv} {k j : Nat} (h : InsAt P X S k Z L j) : P.length ≤ j ∧ j ≤ P.length + k ∧ L.length = P.length + X.length + S.length ∧ j < L.length := by
  obtain ⟨hk, hz, Y1, Y2, h1, h2, _, h4⟩ := h
  have := congrArg List.length h1
  rw [List.length_append] at this
  have h5 : L.length = P.length + X.length + S.length := by rw [h4]; simp; omega
  omega
theorem InsAt.head {P X S Z L : List Mv} {k j : Nat} (h : InsAt P X S k Z L j) : elt L j = elt X k := by
  obtain ⟨hk, hz, Y1, Y2, h1, h2, _, h4⟩ := h
  rw [h4, h2, elt_in (by simp), elt_app_right (Nat.le_refl _), Nat.sub_self]; rfl
theorem InsAt.put {P X S Z L : List Mv} {k j : Nat} (h : InsAt P X S k Z L j) (hZ : SortedB mlt Z) (hp : Z.Perm (X.take k)) (hs : j = P.length ∨ mlt (elt L j) (elt L (j - 1)) = false) :
    ∃ Z', Z'.Perm (X.take (k + 1)) ∧ SortedB mlt Z' ∧ Z'.length = k + 1 ∧ L = P ++ (Z' ++ (X.drop (k + 1) ++ S)) := by
  have he := h.head
  obtain ⟨hk, hz, Y1, Y2, h1, h2, h3, h4⟩ := h
  have hl := congrArg List.length h1
  rw [List.length_append] at hl
  have q := put_sorted mlt_ord hZ (x := elt X k) (i := Y1.length) (by omega) (fun t ht => ?_) (fun t ht ht2 => ?_)
  · have e1 : Z.take Y1.length = Y1 := by rw [← h1]; simp
    have e2 : Z.drop Y1.length = Y2 := by rw [← h1]; simp
    rw [e1, e2] at q
    refine ⟨Y1 ++ elt X k :: Y2, ?_, q.1, by simp; omega, h4⟩
    rw [take_snoc hk]
    exact q.2.trans ((List.Perm.cons _ hp).trans (List.perm_append_comm (l₁ := [elt X k])))
  · rcases hs with hs | hs
    · omega
    · have hy : elt L (j - 1) = elt Z (Y1.length - 1) := by
        rw [h4, h2, show P.length + Y1.length - 1 = P.length + (Y1.length - 1) by omega, elt_in (by simp; omega), elt_app_left (by omega), ← h1, elt_app_left (by omega)]
      rw [he, hy] at hs
      exact mlt_ord.trans _ _ _ (hZ.le mlt_ord (i := t) (j := Y1.length - 1) (by omega) (by omega)) hs
  · refine mlt_ord.asym _ _ (h3 _ ?_)
    rw [← h1, elt_app_right ht]
    exact elt_mem.2 ⟨t - Y1.length, by omega, rfl⟩
theorem InsAt.go {P X S Z L : List Mv} {k j : Nat} (h : InsAt P X S k Z L (j + 1)) (hj : P.length < j + 1) (hs : mlt (elt L (j + 1)) (elt L j) = true) : InsAt P X S k Z (swap2 L (j + 1) j) j := by
  have he := h.head
  obtain ⟨hk, hz, Y1, Y2, h1, h2, h3, h4⟩ := h
  have hl := congrArg List.length h1
  rw [List.length_append] at hl
  have hy0 : 0 < Y1.length := by omega
  have e1 : Y1 = Y1.take (Y1.length - 1) ++ [elt Y1 (Y1.length - 1)] := by
    conv => lhs; rw [← List.take_length (l := Y1), show Y1.length = (Y1.length - 1) + 1 by omega, take_snoc (by omega)]
  have hyj : elt L j = elt Y1 (Y1.length - 1) := by
    rw [h4, show j = P.length + (Y1.length - 1) by omega, elt_in (by simp; omega), elt_app_left (by omega)]
  rw [he, hyj] at hs
  refine ⟨hk, hz, Y1.take (Y1.length - 1), elt Y1 (Y1.length - 1) :: Y2, ?_, ?_, ?_, ?_⟩
  · rw [← h1]
    conv => rhs; rw [e1]
    simp
  · rw [List.length_take]; omega
  · intro y hy
    rcases List.mem_cons.1 hy with rfl | hy
    · exact hs
    · exact h3 y hy
  · have hj2 : j = (P ++ Y1.take (Y1.length - 1)).length := by rw [List.length_append, List.length_take]; omega
    have e2 : L = (P ++ Y1.take (Y1.length - 1)) ++ (elt Y1 (Y1.length - 1) :: elt X k :: (Y2 ++ (X.drop (k + 1) ++ S))) := by
      rw [h4]
      conv => lhs; rw [e1]
      simp
    rw [e2, hj2, swap2_mid']
    simp
set_option maxRecDepth 100000 in
set_option maxHeartbeats 8000000 in
theorem insc_any (w : World) (q n cap : Nat) (P X S : List Mv) (hM : MvIn w q (P ++ (X ++ S))) (hn : P.length + X.length + S.length = n) (hnl : n ≤ 1000000) (p b : Nat) (hp : p = P.length) (hb : b = p + X.length) :
    Calls Tryz.prog 148 #[.slice (some ⟨q, 0, none⟩) n cap, .int .i64 p, .int .i64 b, .func (.func 59) #[] #[]] w (SrtPost w q P X S) := by
  have HM := Lib.hid hM
  have HN := Lib.hid hn
  have HP : Hid (∀ Z w', Z.Perm X → SortedB mlt Z → MvIn w' q (P ++ (Z ++ S)) → Kept (fun b => b = q) w w' → SrtPost w q P X S (.returned (.tuple #[])) w') := fun Z w' h1 h2 h3 h4 => ⟨rfl, Z, h1, h2, h3, h4⟩
  obtain ⟨m, hm⟩ : ∃ z, z = X.length := ⟨_, rfl⟩
  have hpn : p + m ≤ n := by omega
  rw [← hm] at hb
  have hb1 : b ≤ p + m := by omega
  have hb2 : p + m ≤ b := by omega
  have HPL := Lib.hid hp
  have HML := Lib.hid hm
  clear hM hn hp hm hb
  go_enter Tryz.func148, Tryz.ntmps148
  go_wp2_with fail
  go_loopw [8] (fun i wr => ∃ (k ii : Nat) (Z : List Mv), ii = p + k ∧ 1 ≤ k ∧ (k ≤ m ∨ k = 1) ∧ i = .int .i64 ii ∧ Hid (Z.Perm (X.take k) ∧ SortedB mlt Z) ∧ Hid (MvIn wr q (P ++ (Z ++ (X.drop k ++ S)))) ∧ Hid (Kept (fun b => b = q) w wr)) (fun i _ => p + m + 1 - (intOf i).toNat)
  case atStart => exact ⟨1, p + 1, X.take 1, rfl, Nat.le_refl _, Or.inr rfl, by go_num, ⟨List.Perm.refl _, by cases X <;> simp [SortedB]⟩, by rw [← List.append_assoc (X.take 1), List.take_append_drop]; exact HM.out, Kept.refl _ _⟩
  case round =>
    obtain ⟨k, ii, Z, hii, hk1, hkm, rfl, hZ, hI, hK⟩ := hrel
    have HII := Lib.hid hii
    have hii1 : ii ≤ p + k := by omega
    have hii2 : p + k ≤ ii := by omega
    clear hii
    by_cases hlt : k < m
    · have hltI : (ii : Int) < (b : Int) := by omega
      have hZl : Z.length = k := by rw [hZ.out.1.length_eq, List.length_take, ← HML.out]; omega
      have HST : Hid (InsAt P X S k Z (P ++ (Z ++ (X.drop k ++ S))) ii) := by rw [HII.out, HPL.out]; exact InsAt.start (by rw [← HML.out]; exact hlt) hZl
      clear hZl
      go_wp2_with fail
      go_loopw [9] (fun j wi => ∃ (jj : Nat) (L : List Mv), j = .int .i64 jj ∧ p ≤ jj ∧ jj ≤ ii ∧ Hid (InsAt P X S k Z L jj) ∧ Hid (MvIn wi q L) ∧ Hid (Kept (fun b => b = q) w wi)) (fun j _ => (intOf j).toNat)
      case atStart => exact ⟨ii, _, rfl, by omega, Nat.le_refl _, HST.out, hI.out, hK.out⟩
      case round =>
        obtain ⟨jj, L, rfl, hpj, hji, hA, hI2, hK2⟩ := hrel
        have hAl := hA.out.lt
        have hLn : L.length = n := by rw [hAl.2.2.1, HN.out]
        have hPUT : Hid ((jj = P.length ∨ mlt (elt L jj) (elt L (jj - 1)) = false) → ∃ Z', Z'.Perm (X.take (k + 1)) ∧ SortedB mlt Z' ∧ Z'.length = k + 1 ∧ L = P ++ (Z' ++ (X.drop (k + 1) ++ S))) := hA.out.put hZ.out.2 hZ.out.1
        by_cases hjp : p < jj
        · obtain ⟨j, hj⟩ : ∃ z, jj = z + 1 := ⟨jj - 1, by omega⟩
          have hjpI : (p : Int) < (jj : Int) := by omega
          have hjI : (jj : Int) - 1 = (j : Int) := by omega
          have hj1 : jj - 1 = j := by omega
          have hjn : jj < n := by omega
          have hjnI : (jj : Int) < (n : Int) := by omega
          have hjnI2 : (j : Int) < (n : Int) := by omega
          have HGO : Hid (mlt (elt L jj) (elt L j) = true → InsAt P X S k Z (swap2 L jj j) j) := show _ → _ from fun hs => by
            have := hA.out
            rw [hj] at this hs ⊢
            exact this.go (by rw [← HPL.out]; omega) hs
          have HJ1 := Lib.hid hj1
          have hjj1 : jj ≤ j + 1 := by omega
          have hjj2 : j + 1 ≤ jj := by omega
          clear hAl hj hj1
          obtain ⟨x0, x1, x2⟩ := hI2.out.all (jj) (by omega)
          obtain ⟨y0, y1, y2⟩ := hI2.out.all (j) (by omega)
          have hqz := hI2.out.lt
          obtain ⟨x, hx⟩ : ∃ z, z = elt L (jj) := ⟨_, rfl⟩
          obtain ⟨y, hy⟩ : ∃ z, z = elt L (j) := ⟨_, rfl⟩
          have HX := Lib.hid hx
          have HY := Lib.hid hy
          rw [← hx] at x0 x1 x2
          rw [← hy] at y0 y1 y2
          clear hx hy
          obtain ⟨xg, xf, xt⟩ := x
          obtain ⟨yg, yf, yt⟩ := y
          dsimp only at x0 x1 x2 y0 y1 y2
          have CO := Lib.hid fun w' => plan2_any w' (bs xg) (bs yg) xf xt yf yt
          rw [bs_toList, bs_toList] at CO
          obtain ⟨z, hz⟩ : ∃ z, z = cmpK xg xt yg yt := ⟨_, rfl⟩
          have HZ2 : Hid (mlt (elt L (jj)) (elt L (j)) = decide (z < 0)) := show _ = _ by rw [← HX.out, ← HY.out, mlt_cmp, hz]
          rw [← hz] at CO
          clear hz
          by_cases hz0 : z < 0
          · have HA3 := Lib.hid (HGO.out (by rw [HZ2.out]; simpa using hz0))
            go_wp2_with fail
            refine wp_region_calm (by kernel_rfl) (by kernel_rfl) ?_
            repeat (first | (go_big_quiet_step ((go_at_call 59; exact calls_calm (CO.out _)))) | (refine wpQuiet_step (fun K hK => ?_); go_simp; first | (refine hK _ ?_; clear hK K) | (apply Exists.intro; refine ⟨fun _ => ?_, hK _ ?_⟩; (go_at_call 59; exact calls_calm (CO.out _)); clear hK K)))
            refine wpQuiet_nil ?_
            intro _ hw'
            obtain ⟨xq, hw''⟩ := hw'
            subst hw''
            go_wp2_with fail
            have M3 := Lib.hid (hI2.out.below xq.below)
            have K3 := Lib.hid (hK2.out.below xq.below)
            obtain ⟨w3, hw3⟩ : ∃ z, z = xq.world := ⟨_, rfl⟩
            rw [← hw3] at M3 K3 ⊢
            clear hw3 x0 x1 x2 y0 y1 y2 hqz HX HY
            obtain ⟨x0, x1, x2⟩ := M3.out.all (jj) (by omega)
            obtain ⟨y0, y1, y2⟩ := M3.out.all (j) (by omega)
            have hqz := M3.out.lt
            have f0 := M3.out.fz ((jj) * 3)
            have f1 := M3.out.fz ((jj) * 3 + 1)
            have f2 := M3.out.fz ((jj) * 3 + 2)
            have g0 := M3.out.fz ((j) * 3)
            have g1 := M3.out.fz ((j) * 3 + 1)
            have g2 := M3.out.fz ((j) * 3 + 2)
            have HS : Hid (MvIn ((w3.setCells q ((jj) * 3) (mvCells (elt L (j)))).setCells q ((j) * 3) (mvCells (elt L (jj)))).drew q (swap2 L (jj) (j))) := (M3.out.swap (by omega) (by omega)).drew
            have hKS : Hid (Kept (fun b => b = q) w ((w3.setCells q ((jj) * 3) (mvCells (elt L (j)))).setCells q ((j) * 3) (mvCells (elt L (jj)))).drew) := (K3.out.trans (kept_swap _ _ _ _ _ rfl)).drew
            obtain ⟨ei, hei⟩ : ∃ z, z = elt L (jj) := ⟨_, rfl⟩
            obtain ⟨ej, hej⟩ : ∃ z, z = elt L (j) := ⟨_, rfl⟩
            rw [← hei] at x0 x1 x2
            rw [← hej] at y0 y1 y2
            rw [← hei, ← hej] at HS hKS
            clear hei hej
            obtain ⟨ig, ifr, it⟩ := ei
            obtain ⟨jg, jfr, jt⟩ := ej
            dsimp only at x0 x1 x2 y0 y1 y2
            have mixed : Tryz.prog.follows .mixedOrders = true := by kernel_rfl
            go_big_region_o
            all_goals go_wp2_with fail
            go_roundw
            case rel => go_light; exact ⟨j, _, rfl, by omega, by omega, HA3.out, HS.out, hKS.out⟩
            case measure => go_light; simp [intOf]; omega
          · obtain ⟨Z', hz1, hz2, hz3, hz4⟩ := hPUT.out (Or.inr (by rw [HJ1.out, HZ2.out]; simpa using hz0))
            have HZ4 := Lib.hid hz4
            have HZ5 : Hid (Z'.Perm (X.take (k + 1)) ∧ SortedB mlt Z') := ⟨hz1, hz2⟩
            clear hz1 hz2 hz3 hz4
            go_wp2_with fail
            refine wp_region_calm (by kernel_rfl) (by kernel_rfl) ?_
            repeat (first | (go_big_quiet_step ((go_at_call 59; exact calls_calm (CO.out _)))) | (refine wpQuiet_step (fun K hK => ?_); go_simp; first | (refine hK _ ?_; clear hK K) | (apply Exists.intro; refine ⟨fun _ => ?_, hK _ ?_⟩; (go_at_call 59; exact calls_calm (CO.out _)); clear hK K)))
            refine wpQuiet_nil ?_
            intro _ hw'
            obtain ⟨xq, hw''⟩ := hw'
            subst hw''
            go_wp2_with fail
            go_roundw
            case rel => go_light; exact ⟨k + 1, ii + 1, Z', by omega, by omega, by omega, by go_num, HZ5.out, HZ4.out ▸ hI2.out.below xq.below, hK2.out.below xq.below⟩
            case measure => go_light; simp [intOf]; omega
        · have hjpI : ¬ (p : Int) < (jj : Int) := by omega
          obtain ⟨Z', hz1, hz2, hz3, hz4⟩ := hPUT.out (Or.inl (by rw [← HPL.out]; omega))
          have HZ4 := Lib.hid hz4
          have HZ5 : Hid (Z'.Perm (X.take (k + 1)) ∧ SortedB mlt Z') := ⟨hz1, hz2⟩
          clear hz1 hz2 hz3 hz4
          go_wp2_with fail
          refine wp_region_calm (by kernel_rfl) (by kernel_rfl) ?_
          repeat (first | (go_big_quiet_step ((fail))) | (refine wpQuiet_step (fun K hK => ?_); go_simp; first | (refine hK _ ?_; clear hK K) | (apply Exists.intro; refine ⟨fun _ => ?_, hK _ ?_⟩; (fail); clear hK K)))
          refine wpQuiet_nil ?_
          intro _ hw'
          obtain ⟨xq, hw''⟩ := hw'
          subst hw''
          go_wp2_with fail
          go_roundw
          case rel => go_light; exact ⟨k + 1, ii + 1, Z', by omega, by omega, by omega, by go_num, HZ5.out, HZ4.out ▸ hI2.out.below xq.below, hK2.out.below xq.below⟩
          case measure => go_light; simp [intOf]; omega
    · have hltI : ¬ (ii : Int) < (b : Int) := by omega
      have hall : X.take k = X := List.take_of_length_le (by rw [← HML.out]; omega)
      have hnil : X.drop k = [] := List.drop_of_length_le (by rw [← HML.out]; omega)
      rw [hall] at hZ
      rw [hnil] at hI
      go_wp2_with fail
      go_end0
      exact HP.out Z _ hZ.out.1 hZ.out.2 hI.out hK.out
end Go.Proofs.YtahiahjhpakeiaaGreatDoor

/-
  The stable sort of moves: rotate, symMerge.
-/
namespace Go.Proofs.YtahiahjhpakeiaaGreatDoor
open Go.RowKit Go.Maps Go.Sort Go.WideShapes Go.ChangeShapes Go.Deep
set_option linter.unusedVariables false
set_option linter.unusedSimpArgs false
attribute [local go_sem] later_cell later_frozen later_lt cell_set_off cell_set_block keptT_cell keptT_lt

/-- Two runs under way to change places. -/
structure RotAt (T : List Mv) (m : Nat) (L : List Mv) (i j : Nat) : Prop where
  i0 : 0 < i
  j0 : 0 < j
  ex : ∃ L0 A B R0, A.length = i ∧ B.length = j ∧ L0.length + i = m ∧ L = L0 ++ (A ++ (B ++ R0)) ∧ L0 ++ (B ++ (A ++ R0)) = T
theorem RotAt.start {P X Y S : List Mv} (hx : 0 < X.length) (hy : 0 < Y.length) : RotAt (P ++ (Y ++ (X ++ S))) (P.length + X.length) (P ++ (X ++ (Y ++ S))) X.length Y.length :=
  ⟨hx, hy, P, X, Y, S, rfl, rfl, rfl, rfl, rfl⟩
theorem RotAt.lt {T L : List Mv} {m i j : Nat} (h : RotAt T m L i j) : i ≤ m ∧ m + j ≤ L.length ∧ L.length = T.length := by
  obtain ⟨_, _, L0, A, B, R0, h1, h2, h3, h4, h5⟩ := h
  rw [h4, ← h5]
  simp only [List.length_append]
  omega
theorem RotAt.left {T L : List Mv} {m i j : Nat} (h : RotAt T m L i j) (hij : j < i) : RotAt T m (swapR L (m - i) m j) (i - j) j := by
  obtain ⟨i0, j0, L0, A, B, R0, h1, h2, h3, h4, h5⟩ := h
  refine ⟨by omega, j0, L0 ++ B, A.drop j, A.take j, R0, by rw [List.length_drop]; omega, by rw [List.length_take]; omega, by rw [List.length_append]; omega, ?_, ?_⟩
  · have := swapR_parts L0 (A.take j) (A.drop j) B R0 (by rw [List.length_take]; omega) (a := m - i) (b := m) (n := j) (by omega) (by rw [List.length_take, List.length_drop]; omega) (by rw [List.length_take]; omega)
    rw [← List.append_assoc (A.take j), List.take_append_drop] at this
    rw [h4, this]; simp
  · rw [← h5]
    rw [← List.append_assoc (A.take j), List.take_append_drop]; simp
theorem RotAt.right {T L : List Mv} {m i j : Nat} (h : RotAt T m L i j) (hij : i < j) : RotAt T m (swapR L (m - i) (m + j - i) i) i (j - i) := by
  obtain ⟨i0, j0, L0, A, B, R0, h1, h2, h3, h4, h5⟩ := h
  refine ⟨i0, by omega, L0, B.drop (j - i), B.take (j - i), A ++ R0, by rw [List.length_drop]; omega, by rw [List.length_take]; omega, h3, ?_, ?_⟩
  · have := swapR_parts L0 A (B.take (j - i)) (B.drop (j - i)) R0 (by rw [List.length_drop]; omega) (a := m - i) (b := m + j - i) (n := i) (by omega) (by rw [List.length_take]; omega) (by omega)
    rw [← List.append_assoc (B.take (j - i)), List.take_append_drop] at this
    rw [h4, this]
  · rw [← h5]
    rw [← List.append_assoc (B.take (j - i)), List.take_append_drop]
theorem RotAt.end {T L : List Mv} {m i : Nat} (h : RotAt T m L i i) : swapR L (m - i) m i = T := by
  obtain ⟨i0, j0, L0, A, B, R0, h1, h2, h3, h4, h5⟩ := h
  have := swapR_parts L0 A [] B R0 (by omega) (a := m - i) (b := m) (n := i) (by omega) (by simp; omega) (by omega)
  rw [h4, ← h5]
  simpa using this
set_option maxRecDepth 100000 in
set_option maxHeartbeats 4000000 in
theorem rot_any (w : World) (q n cap : Nat) (P X Y S : List Mv) (hM : MvIn w q (P ++ (X ++ (Y ++ S)))) (hn : P.length + X.length + Y.length + S.length = n) (hnl : n ≤ 1000000) (hx : 0 < X.length) (hy : 0 < Y.length) (a m b : Nat) (ha : a = P.length) (hm : m = a + X.length) (hb : b = m + Y.length) (fv : Value) :
    Calls Tryz.prog 174 #[.slice (some ⟨q, 0, none⟩) n cap, .int .i64 a, .int .i64 m, .int .i64 b, fv] w fun e w' => e = .returned (.tuple #[]) ∧ MvIn w' q (P ++ (Y ++ (X ++ S))) ∧ Kept (fun b => b = q) w w' := by
  have HM := Lib.hid hM
  have H0 : Hid (RotAt (P ++ (Y ++ (X ++ S))) m (P ++ (X ++ (Y ++ S))) (m - a) (b - m)) := show RotAt _ _ _ _ _ by
    have := RotAt.start (P := P) (S := S) hx hy
    rw [show m - a = X.length by omega, show b - m = Y.length by omega, show m = P.length + X.length by omega]; exact this
  obtain ⟨T, hT⟩ : ∃ z, z = P ++ (Y ++ (X ++ S)) := ⟨_, rfl⟩
  obtain ⟨L, hL⟩ : ∃ z, z = P ++ (X ++ (Y ++ S)) := ⟨_, rfl⟩
  have HTn : Hid (T.length = n) := show _ = _ by rw [hT]; simp; omega
  have hma : a ≤ m := by omega
  have hmb : m ≤ b := by omega
  have hbn : b ≤ n := by omega
  rw [← hL] at HM
  rw [← hT, ← hL] at H0
  rw [← hT]
  clear hT hL hM hn hx hy ha hm hb
  go_enter Tryz.func174, Tryz.ntmps174
  go_wp2_with fail
  go_loopw [10, 11] (fun vi vj wr => ∃ (i j : Nat) (M : List Mv), vi = .int .i64 i ∧ vj = .int .i64 j ∧ i ≤ n ∧ j ≤ n ∧ Hid (RotAt T m M i j) ∧ Hid (MvIn wr q M) ∧ Hid (Kept (fun b => b = q) w wr)) (fun vi vj _ => (intOf vi).toNat + (intOf vj).toNat)
  case atStart => exact ⟨m - a, b - m, L, by congr 1; omega, by congr 1; omega, by omega, by omega, H0.out, HM.out, Kept.refl _ _⟩
  case round =>
    obtain ⟨i, j, M, rfl, rfl, hin, hjn, hR, hI, hK⟩ := hrel
    have hRl := hR.out.lt
    have hi0 := hR.out.i0
    have hj0 := hR.out.j0
    have hMn : M.length = n := by rw [hRl.2.2]; exact HTn.out
    have him := hRl.1
    have hmj := hRl.2.1
    rw [hMn] at hmj
    have HMN := Lib.hid hMn
    clear hRl hMn
    rcases Nat.lt_trichotomy i j with hij | hij | hij
    · have hne : ¬ (i : Int) = (j : Int) := by omega
      have hgt : ¬ (j : Int) < (i : Int) := by omega
      have CS := swpr_any wr q n cap M hI.out HMN.out hnl (m - i) (m + j - i) i (by omega) (by omega) fv
      rw [show ((m - i : Nat) : Int) = (m : Int) - (i : Int) by omega, show ((m + j - i : Nat) : Int) = (m : Int) + (j : Int) - (i : Int) by omega] at CS
      have CS := Lib.hid CS
      have HR2 := Lib.hid (hR.out.right hij)
      go_wp2_with fail
      refine CS.out.mono ?_
      rintro e w2 ⟨rfl, hM2, hK2⟩
      have M2 := Lib.hid hM2
      have K2 := Lib.hid (hK.out.trans hK2)
      clear hM2 hK2 CS
      go_wp2_with fail
      go_roundw
      case rel => go_light; exact ⟨i, j - i, _, rfl, by congr 1; omega, hin, by omega, HR2.out, M2.out, K2.out⟩
      case measure => go_light; simp [intOf]; omega
    · subst hij
      have hgt : ¬ (i : Int) < (i : Int) := by omega
      have CS := swpr_any wr q n cap M hI.out HMN.out hnl (m - i) m i (by omega) (by omega) fv
      rw [show ((m - i : Nat) : Int) = (m : Int) - (i : Int) by omega] at CS
      have CS := Lib.hid CS
      have HR2 := Lib.hid hR.out.end
      go_wp2_with fail
      refine CS.out.mono ?_
      rintro e w2 ⟨rfl, hM2, hK2⟩
      have M2 := Lib.hid hM2
      have K2 := Lib.hid (hK.out.trans hK2)
      clear hM2 hK2 CS
      go_wp2_with fail
      go_end0
      exact ⟨rfl, HR2.out ▸ M2.out, K2.out⟩
    · have hne : ¬ (i : Int) = (j : Int) := by omega
      have hgt : (j : Int) < (i : Int) := by omega
      have CS := swpr_any wr q n cap M hI.out HMN.out hnl (m - i) m j (by omega) (by omega) fv
      rw [show ((m - i : Nat) : Int) = (m : Int) - (i : Int) by omega] at CS
      have CS := Lib.hid CS
      have HR2 := Lib.hid (hR.out.left hij)
      go_wp2_with fail
      refine CS.out.mono ?_
      rintro e w2 ⟨rfl, hM2, hK2⟩
      have M2 := Lib.hid hM2
      have K2 := Lib.hid (hK.out.trans hK2)
      clear hM2 hK2 CS
      go_wp2_with fail
      go_roundw
      case rel => go_light; exact ⟨i - j, j, _, by congr 1; omega, rfl, by omega, hjn, HR2.out, M2.out, K2.out⟩
      case measure => go_light; simp [intOf]; omega
end Go.Proofs.YtahiahjhpakeiaaGreatDoor


/-
  The stable sort of moves: symMerge.
-/
namespace Go.Proofs.YtahiahjhpakeiaaGreatDoor
open Go.RowKit Go.Maps Go.Sort Go.WideShapes Go.ChangeShapes Go.Deep
set_option linter.unusedVariables false
set_option linter.unusedSimpArgs false
attribute [local go_sem] later_cell later_frozen later_lt cell_set_off cell_set_block keptT_cell keptT_lt

section
variable {P X Y S : List Mv}
theorem sym_x {k : Nat} (hk : k < X.length) : elt (P ++ (X ++ (Y ++ S))) (P.length + k) = elt X k := elt_in hk
theorem sym_y {k : Nat} (hk : k < Y.length) : elt (P ++ (X ++ (Y ++ S))) (P.length + X.length + k) = elt Y k := elt_in2 hk
theorem sym_len : (P ++ (X ++ (Y ++ S))).length = P.length + X.length + Y.length + S.length := by simp; omega
end
/-- The first of what may be merged is one: those that are less go ahead of it. -/
structure OneX (P S : List Mv) (x : Mv) (Y : List Mv) (i : Nat) : Prop where
  le : i ≤ Y.length
  lo : ∀ k, k < i → mlt (elt Y k) x = true
  hi : ∀ k, i ≤ k → k < Y.length → mlt (elt Y k) x = false
theorem OneX.sorted {P S : List Mv} {x : Mv} {Y : List Mv} {i : Nat} (h : OneX P S x Y i) (hY : SortedB mlt Y) : SortedB mlt (Y.take i ++ x :: Y.drop i) ∧ (Y.take i ++ x :: Y.drop i).Perm ([x] ++ Y) :=
  put_sorted mlt_ord hY h.le (fun k hk => mlt_ord.asym _ _ (h.lo k hk)) h.hi
theorem below_lt {Y : List Mv} (hY : SortedB mlt Y) {x : Mv} {h : Nat} (hh : h < Y.length) (hl : mlt (elt Y h) x = true) : ∀ k, k ≤ h → mlt (elt Y k) x = true := fun k hk => by
  cases hq : mlt (elt Y k) x with
  | true => rfl
  | false =>
    have := mlt_ord.trans _ _ _ hq (hY.le mlt_ord hk hh)
    rw [this] at hl; cases hl
theorem above_ge {Y : List Mv} (hY : SortedB mlt Y) {x : Mv} {h : Nat} (hh : h < Y.length) (hl : mlt (elt Y h) x = false) : ∀ k, h ≤ k → k < Y.length → mlt (elt Y k) x = false := fun k hk hk2 =>
  mlt_ord.trans _ _ _ hl (hY.le mlt_ord hk hk2)
theorem above_gt {X : List Mv} (hX : SortedB mlt X) {y : Mv} {h : Nat} (hh : h < X.length) (hl : mlt y (elt X h) = true) : ∀ k, h ≤ k → k < X.length → mlt (elt X k) y = false := fun k hk hk2 =>
  mlt_ord.trans _ _ _ (mlt_ord.asym _ _ hl) (hX.le mlt_ord hk hk2)
theorem bel_leM {X : List Mv} (hX : SortedB mlt X) {y : Mv} {h : Nat} (hh : h < X.length) (hl : mlt y (elt X h) = false) : ∀ k, k ≤ h → mlt y (elt X k) = false := fun k hk =>
  mlt_ord.trans _ _ _ (hX.le mlt_ord hk hh) hl
/-- Where two lists in order are cut: by the search's two ends. -/
theorem sym_cut {X Y : List Mv} (hX : SortedB mlt X) (hY : SortedB mlt Y) {a m b mid u : Nat} (hm : m = a + X.length) (hb : b = m + Y.length) (hmid : mid = (a + b) / 2) (L : List Mv)
    (hLX : ∀ k, k < X.length → elt L (a + k) = elt X k) (hLY : ∀ k, k < Y.length → elt L (m + k) = elt Y k)
    (hu1 : (if mid < m then mid + m - b else a) ≤ u) (hu2 : u ≤ (if mid < m then mid else m))
    (c1 : u = (if mid < m then mid + m - b else a) ∨ mlt (elt L (mid + m - u)) (elt L (u - 1)) = false) (c2 : u = (if mid < m then mid else m) ∨ mlt (elt L (mid + m - 1 - u)) (elt L u) = true) :
    ∀ x ∈ X.take (u - a) ++ Y.take (mid - u), ∀ y ∈ X.drop (u - a) ++ Y.drop (mid - u), mlt y x = false := by
  have hua : a ≤ u ∧ u ≤ m ∧ u ≤ mid ∧ mid - u ≤ Y.length := by
    split at hu1 <;> split at hu2 <;> omega
  refine cut_ahead mlt_ord hX hY (by omega) (by omega) ?_ ?_
  · rcases c1 with c1 | c1
    · split at c1
      · right; left; omega
      · left; omega
    · by_cases h0 : u - a = 0
      · exact Or.inl h0
      · by_cases h1 : mid - u = Y.length
        · exact Or.inr (Or.inl h1)
        · right; right
          have e1 := hLY (mid - u) (by omega)
          have e2 := hLX (u - a - 1) (by omega)
          rw [show m + (mid - u) = mid + m - u by omega] at e1
          rw [show a + (u - a - 1) = u - 1 by omega] at e2
          rw [← e1, ← e2]; exact c1
  · rcases c2 with c2 | c2
    · split at c2
      · right; left; omega
      · left; omega
    · by_cases h0 : u - a = X.length
      · exact Or.inl h0
      · by_cases h1 : mid - u = 0
        · exact Or.inr (Or.inl h1)
        · right; right
          have e1 := hLY (mid - u - 1) (by omega)
          have e2 := hLX (u - a) (by omega)
          rw [show m + (mid - u - 1) = mid + m - 1 - u by omega] at e1
          rw [show a + (u - a) = u by omega] at e2
          rw [← e1, ← e2]; exact c2
theorem swap_up (P S : List Mv) (x : Mv) (Y : List Mv) {t : Nat} (ht : t < Y.length) :
    swap2 (P ++ (Y.take t ++ (x :: (Y.drop t ++ S)))) (P.length + t) (P.length + t + 1) = P ++ (Y.take (t + 1) ++ (x :: (Y.drop (t + 1) ++ S))) := by
  have e : (P ++ Y.take t).length = P.length + t := by rw [List.length_append, List.length_take]; omega
  have := swap2_mid (P ++ Y.take t) (Y.drop (t + 1) ++ S) x (elt Y t)
  rw [e] at this
  rw [drop_head ht, take_snoc ht]
  simpa using this
theorem swap_down (P S : List Mv) (y : Mv) (X : List Mv) {t : Nat} (ht : t < X.length) :
    swap2 (P ++ (X.take (t + 1) ++ (y :: (X.drop (t + 1) ++ S)))) (P.length + t + 1) (P.length + t) = P ++ (X.take t ++ (y :: (X.drop t ++ S))) := by
  have e : (P ++ X.take t).length = P.length + t := by rw [List.length_append, List.length_take]; omega
  have := swap2_mid' (P ++ X.take t) (X.drop (t + 1) ++ S) (elt X t) y
  rw [e] at this
  rw [drop_head ht, take_snoc ht]
  simpa using this
set_option maxRecDepth 100000 in
set_option maxHeartbeats 16000000 in
theorem sym_one (q n cap : Nat) (hnl : n ≤ 1000000) (P X Y S : List Mv) (w : World) (hx0 : 0 < X.length) (hy0 : 0 < Y.length) (hX : SortedB mlt X) (hY : SortedB mlt Y) (hM : MvIn w q (P ++ (X ++ (Y ++ S)))) (hn : P.length + X.length + Y.length + S.length = n)
    (a m b : Nat) (ha : a = P.length) (hm : m = a + X.length) (hb : b = m + Y.length) (h1 : m - a = 1) :
    Calls Tryz.prog 149 #[.slice (some ⟨q, 0, none⟩) n cap, .int .i64 a, .int .i64 m, .int .i64 b, .func (.func 59) #[] #[]] w (SrtPost w q P (X ++ Y) S) := by
  have HXS := Lib.hid hX
  have HYS := Lib.hid hY
  have HP : Hid (∀ Z w', Z.Perm (X ++ Y) → SortedB mlt Z → MvIn w' q (P ++ (Z ++ S)) → Kept (fun b => b = q) w w' → SrtPost w q P (X ++ Y) S (.returned (.tuple #[])) w') := fun Z w' h1 h2 h3 h4 => ⟨rfl, Z, h1, h2, h3, h4⟩
  have HLX : Hid (∀ k, k < X.length → elt (P ++ (X ++ (Y ++ S))) (a + k) = elt X k) := fun k hk => by rw [ha]; exact sym_x hk
  have HLY : Hid (∀ k, k < Y.length → elt (P ++ (X ++ (Y ++ S))) (m + k) = elt Y k) := fun k hk => by rw [hm, ha]; exact sym_y hk
  have HXL : Hid (X.length = m - a) := show _ = _ by omega
  have HYL : Hid (Y.length = b - m) := show _ = _ by omega
  have HPL : Hid (P.length = a) := show _ = _ by omega
  have HSL : Hid (S.length = n - b) := show _ = _ by omega
  have ham : a < m := by omega
  have hmb : m < b := by omega
  have hbn : b ≤ n := by omega
  have HM := Lib.hid hM
  have hLl : (P ++ (X ++ (Y ++ S))).length = n := by rw [sym_len]; exact hn
  obtain ⟨L, hL⟩ : ∃ z, z = P ++ (X ++ (Y ++ S)) := ⟨_, rfl⟩
  have HLE := Lib.hid hL
  rw [← hL] at HM HLX HLY hLl
  have HLL := Lib.hid hLl
  clear hL hLl hx0 hy0 hX hY hM hn ha hm hb
  go_enter Tryz.func149, Tryz.ntmps149
  have h1I : (m : Int) - (a : Int) = 1 := by omega
  have HOX : Hid (X = [elt L a]) := show _ = _ by
    have h2 := HLX.out 0 (by rw [HXL.out]; omega)
    have h3 := HXL.out
    rw [Nat.add_zero] at h2
    rw [h1] at h3
    obtain ⟨x, rfl⟩ := List.length_eq_one_iff.1 h3
    rw [h2]; rfl
  go_wp2_with fail
  go_loopw [10, 11] (fun vi vj wr => ∃ u r : Nat, vi = .int .i64 u ∧ vj = .int .i64 r ∧ m ≤ u ∧ u ≤ r ∧ r ≤ b ∧ Hid (∀ k, k < u - m → mlt (elt Y k) (elt L a) = true) ∧ Hid (∀ k, r - m ≤ k → k < Y.length → mlt (elt Y k) (elt L a) = false) ∧ Hid (Below w.heap.size w wr)) (fun vi vj _ => (intOf vj).toNat - (intOf vi).toNat)
  case atStart => exact ⟨m, b, rfl, rfl, Nat.le_refl _, by omega, Nat.le_refl _, fun k hk => absurd hk (by omega), fun k hk hk2 => absurd hk2 (by rw [HYL.out]; omega), Below.refl _ _⟩
  case round =>
    obtain ⟨u, r, rfl, rfl, hu1, hur, hrb, hlo, hhi, hB⟩ := hrel
    have hI := Lib.hid (HM.out.below hB.out)
    by_cases hlt : u < r
    · have hltI : (u : Int) < (r : Int) := by omega
      have hcn : (u + r) / 2 < n := by omega
      have hcn2 : a < n := by omega
      have HLn := HLL.out
      have hYk := HLY.out ((u + r) / 2 - m) (by rw [HYL.out]; omega)
      rw [show m + ((u + r) / 2 - m) = (u + r) / 2 by omega] at hYk
      have HYK := Lib.hid hYk
      clear hYk
      have hcs1 : u ≤ (u + r) / 2 := by omega
      have hcs2 : (u + r) / 2 < r := by omega
      obtain ⟨x0, x1, x2⟩ := hI.out.all ((u + r) / 2) (by omega)
      obtain ⟨y0, y1, y2⟩ := hI.out.all (a) (by omega)
      have hqz := hI.out.lt
      obtain ⟨x, hx⟩ : ∃ z, z = elt L ((u + r) / 2) := ⟨_, rfl⟩
      obtain ⟨y, hy⟩ : ∃ z, z = elt L (a) := ⟨_, rfl⟩
      have HX := Lib.hid hx
      have HY := Lib.hid hy
      rw [← hx] at x0 x1 x2
      rw [← hy] at y0 y1 y2
      clear hx hy
      obtain ⟨xg, xf, xt⟩ := x
      obtain ⟨yg, yf, yt⟩ := y
      dsimp only at x0 x1 x2 y0 y1 y2
      have CO := Lib.hid fun w' => plan2_any w' (bs xg) (bs yg) xf xt yf yt
      rw [bs_toList, bs_toList] at CO
      obtain ⟨z, hz⟩ : ∃ z, z = cmpK xg xt yg yt := ⟨_, rfl⟩
      have HZ2 : Hid (mlt (elt L ((u + r) / 2)) (elt L (a)) = decide (z < 0)) := show _ = _ by rw [← HX.out, ← HY.out, mlt_cmp, hz]
      rw [← hz] at CO
      clear hz
      clear HLn
      by_cases hz0 : z < 0
      · have hLO : Hid (∀ k, k < (u + r) / 2 + 1 - m → mlt (elt Y k) (elt L a) = true) := fun k hk => below_lt HYS.out (h := (u + r) / 2 - m) (by rw [HYL.out]; omega) (by rw [← HYK.out, HZ2.out]; simpa using hz0) k (by omega)
        go_wp2_with fail
        refine wp_region_calm (by kernel_rfl) (by kernel_rfl) ?_
        repeat (first | (go_big_quiet_step ((go_at_call 59; exact calls_calm (CO.out _)))) | (refine wpQuiet_step (fun K hK => ?_); go_simp; first | (refine hK _ ?_; clear hK K) | (apply Exists.intro; refine ⟨fun _ => ?_, hK _ ?_⟩; (go_at_call 59; exact calls_calm (CO.out _)); clear hK K)))
        refine wpQuiet_nil ?_
        intro _ hw'
        obtain ⟨xq, hw''⟩ := hw'
        subst hw''
        go_wp2_with fail
        go_roundw
        case rel => go_light; exact ⟨(u + r) / 2 + 1, r, by go_num, rfl, by omega, by omega, hrb, hLO.out, hhi.out, bel_below hB.out xq.below⟩
        case measure => go_light; simp [intOf]; omega
      · have hHI : Hid (∀ k, (u + r) / 2 - m ≤ k → k < Y.length → mlt (elt Y k) (elt L a) = false) := above_ge HYS.out (h := (u + r) / 2 - m) (by rw [HYL.out]; omega) (by rw [← HYK.out, HZ2.out]; simpa using hz0)
        go_wp2_with fail
        refine wp_region_calm (by kernel_rfl) (by kernel_rfl) ?_
        repeat (first | (go_big_quiet_step ((go_at_call 59; exact calls_calm (CO.out _)))) | (refine wpQuiet_step (fun K hK => ?_); go_simp; first | (refine hK _ ?_; clear hK K) | (apply Exists.intro; refine ⟨fun _ => ?_, hK _ ?_⟩; (go_at_call 59; exact calls_calm (CO.out _)); clear hK K)))
        refine wpQuiet_nil ?_
        intro _ hw'
        obtain ⟨xq, hw''⟩ := hw'
        subst hw''
        go_wp2_with fail
        go_roundw
        case rel => go_light; exact ⟨u, (u + r) / 2, rfl, by go_num, hu1, by omega, by omega, hlo.out, hHI.out, bel_below hB.out xq.below⟩
        case measure => go_light; simp [intOf]; omega
    · obtain rfl : u = r := by omega
      have hltI : ¬ (u : Int) < (u : Int) := by omega
      have hOX : Hid (OneX P S (elt L a) Y (u - m)) := ⟨by rw [HYL.out]; omega, hlo.out, hhi.out⟩
      have hSO := Lib.hid (hOX.out.sorted HYS.out)
      have K0 : Hid (Kept (fun b => b = q) w wr) := (Kept.refl _ w).below hB.out
      have HI0 : Hid (MvIn wr q (P ++ (Y.take 0 ++ (elt L a :: (Y.drop 0 ++ S))))) := show MvIn _ _ _ by
        have := hI.out
        rw [HLE.out, HOX.out] at this
        simpa using this
      clear hI hlo hhi hB
      go_wp2_with fail
      go_loopw [13] (fun vk wk => ∃ k t : Nat, vk = .int .i64 k ∧ k ≤ a + t ∧ a + t ≤ k ∧ t ≤ u - m ∧ Hid (MvIn wk q (P ++ (Y.take t ++ (elt L a :: (Y.drop t ++ S))))) ∧ Hid (Kept (fun b => b = q) w wk)) (fun vk _ => u - (intOf vk).toNat)
      case atStart => exact ⟨a, 0, rfl, by omega, by omega, by omega, HI0.out, K0.out⟩
      case round =>
        obtain ⟨k, t, rfl, hk1, hk2, ht, hIk, hKk⟩ := hrel
        by_cases hlk : k + 1 < u
        · have hlkI : (k : Int) < (u : Int) - 1 := by omega
          have hLl2 : (P ++ (Y.take t ++ (elt L a :: (Y.drop t ++ S)))).length = n := by
            have h5 := HPL.out; have h6 := HYL.out; have h7 := HSL.out; simp; omega
          have hSU : Hid (swap2 (P ++ (Y.take t ++ (elt L a :: (Y.drop t ++ S)))) k (k + 1) = P ++ (Y.take (t + 1) ++ (elt L a :: (Y.drop (t + 1) ++ S)))) := show _ = _ by
            have := swap_up P S (elt L a) Y (t := t) (by rw [HYL.out]; omega)
            rw [HPL.out, show a + t = k by omega] at this; exact this
          obtain ⟨M, hMe⟩ : ∃ z, z = P ++ (Y.take t ++ (elt L a :: (Y.drop t ++ S))) := ⟨_, rfl⟩
          rw [← hMe] at hSU hIk hLl2
          obtain ⟨k1, hk1e⟩ : ∃ z, z = k + 1 := ⟨_, rfl⟩
          have hk1I : (k : Int) + 1 = (k1 : Int) := by omega
          have hk1n : k1 < n := by omega
          have hkn : k < n := by omega
          have hkk : k < k1 := by omega
          rw [← hk1e] at hSU
          clear hMe hk1e
          obtain ⟨x0, x1, x2⟩ := hIk.out.all (k) (by omega)
          obtain ⟨y0, y1, y2⟩ := hIk.out.all (k1) (by omega)
          have hqz := hIk.out.lt
          have f0 := hIk.out.fz ((k) * 3)
          have f1 := hIk.out.fz ((k) * 3 + 1)
          have f2 := hIk.out.fz ((k) * 3 + 2)
          have g0 := hIk.out.fz ((k1) * 3)
          have g1 := hIk.out.fz ((k1) * 3 + 1)
          have g2 := hIk.out.fz ((k1) * 3 + 2)
          have HS : Hid (MvIn ((wr.setCells q ((k) * 3) (mvCells (elt M (k1)))).setCells q ((k1) * 3) (mvCells (elt M (k)))).drew q (swap2 M (k) (k1))) := (hIk.out.swap (by omega) (by omega)).drew
          have hKS : Hid (Kept (fun b => b = q) w ((wr.setCells q ((k) * 3) (mvCells (elt M (k1)))).setCells q ((k1) * 3) (mvCells (elt M (k)))).drew) := (hKk.out.trans (kept_swap _ _ _ _ _ rfl)).drew
          obtain ⟨ei, hei⟩ : ∃ z, z = elt M (k) := ⟨_, rfl⟩
          obtain ⟨ej, hej⟩ : ∃ z, z = elt M (k1) := ⟨_, rfl⟩
          rw [← hei] at x0 x1 x2
          rw [← hej] at y0 y1 y2
          rw [← hei, ← hej] at HS hKS
          clear hei hej
          obtain ⟨ig, ifr, it⟩ := ei
          obtain ⟨jg, jfr, jt⟩ := ej
          dsimp only at x0 x1 x2 y0 y1 y2
          have mixed : Tryz.prog.follows .mixedOrders = true := by kernel_rfl
          clear hLl2
          go_wp2_with fail
          go_big_region_o
          all_goals go_wp2_with fail
          go_roundw
          case rel => go_light; exact ⟨k1, t + 1, by first | rfl | go_num, by omega, by omega, by omega, (by show MvIn _ _ _; rw [← hSU.out]; exact HS.out), hKS.out⟩
          case measure => go_light; simp [intOf]; omega
        · have hlkI : ¬ (k : Int) < (u : Int) - 1 := by omega
          obtain rfl : t = u - m := by omega
          go_wp2_with fail
          (try simp only [Exit.inBlock, Exit.then]); refine bodyPost_ret (results_none rfl _ _ _) rfl ?_
          refine HP.out _ _ (by rw [HOX.out]; exact hSO.out.2) hSO.out.1 ?_ hKk.out
          simpa using hIk.out
set_option maxRecDepth 100000 in
set_option maxHeartbeats 16000000 in
theorem sym_two (q n cap : Nat) (hnl : n ≤ 1000000) (P X Y S : List Mv) (w : World) (hx0 : 0 < X.length) (hy0 : 0 < Y.length) (hX : SortedB mlt X) (hY : SortedB mlt Y) (hM : MvIn w q (P ++ (X ++ (Y ++ S)))) (hn : P.length + X.length + Y.length + S.length = n)
    (a m b : Nat) (ha : a = P.length) (hm : m = a + X.length) (hb : b = m + Y.length) (h1 : m - a ≠ 1) (h2 : b - m = 1) :
    Calls Tryz.prog 149 #[.slice (some ⟨q, 0, none⟩) n cap, .int .i64 a, .int .i64 m, .int .i64 b, .func (.func 59) #[] #[]] w (SrtPost w q P (X ++ Y) S) := by
  have HXS := Lib.hid hX
  have HYS := Lib.hid hY
  have HP : Hid (∀ Z w', Z.Perm (X ++ Y) → SortedB mlt Z → MvIn w' q (P ++ (Z ++ S)) → Kept (fun b => b = q) w w' → SrtPost w q P (X ++ Y) S (.returned (.tuple #[])) w') := fun Z w' h1 h2 h3 h4 => ⟨rfl, Z, h1, h2, h3, h4⟩
  have HLX : Hid (∀ k, k < X.length → elt (P ++ (X ++ (Y ++ S))) (a + k) = elt X k) := fun k hk => by rw [ha]; exact sym_x hk
  have HLY : Hid (∀ k, k < Y.length → elt (P ++ (X ++ (Y ++ S))) (m + k) = elt Y k) := fun k hk => by rw [hm, ha]; exact sym_y hk
  have HXL : Hid (X.length = m - a) := show _ = _ by omega
  have HYL : Hid (Y.length = b - m) := show _ = _ by omega
  have HPL : Hid (P.length = a) := show _ = _ by omega
  have HSL : Hid (S.length = n - b) := show _ = _ by omega
  have ham : a < m := by omega
  have hmb : m < b := by omega
  have hbn : b ≤ n := by omega
  have HM := Lib.hid hM
  have hLl : (P ++ (X ++ (Y ++ S))).length = n := by rw [sym_len]; exact hn
  obtain ⟨L, hL⟩ : ∃ z, z = P ++ (X ++ (Y ++ S)) := ⟨_, rfl⟩
  have HLE := Lib.hid hL
  rw [← hL] at HM HLX HLY hLl
  have HLL := Lib.hid hLl
  clear hL hLl hx0 hy0 hX hY hM hn ha hm hb
  go_enter Tryz.func149, Tryz.ntmps149
  have h1I : ((m : Int) - (a : Int) == 1) = false := beq_eq_false_iff_ne.2 (by omega)
  have h2I : (b : Int) - (m : Int) = 1 := by omega
  have HOY : Hid (Y = [elt L m]) := show _ = _ by
    have h2 := HLY.out 0 (by rw [HYL.out]; omega)
    have h3 := HYL.out
    rw [Nat.add_zero] at h2
    rw [show b - m = 1 by omega] at h3
    obtain ⟨y, rfl⟩ := List.length_eq_one_iff.1 h3
    rw [h2]; rfl
  go_wp2_with fail
  go_loopw [14, 15] (fun vi vj wr => ∃ u r : Nat, vi = .int .i64 u ∧ vj = .int .i64 r ∧ a ≤ u ∧ u ≤ r ∧ r ≤ m ∧ Hid (∀ k, k < u - a → mlt (elt L m) (elt X k) = false) ∧ Hid (∀ k, r - a ≤ k → k < X.length → mlt (elt X k) (elt L m) = false) ∧ Hid (Below w.heap.size w wr)) (fun vi vj _ => (intOf vj).toNat - (intOf vi).toNat)
  case atStart => exact ⟨a, m, rfl, rfl, Nat.le_refl _, by omega, Nat.le_refl _, fun k hk => absurd hk (by omega), fun k hk hk2 => absurd hk2 (by rw [HXL.out]; omega), Below.refl _ _⟩
  case round =>
    obtain ⟨u, r, rfl, rfl, hu1, hur, hrb, hlo, hhi, hB⟩ := hrel
    have hI := Lib.hid (HM.out.below hB.out)
    by_cases hlt : u < r
    · have hltI : (u : Int) < (r : Int) := by omega
      have hcn : (u + r) / 2 < n := by omega
      have hcn2 : m < n := by omega
      have HLn := HLL.out
      have hXk := HLX.out ((u + r) / 2 - a) (by rw [HXL.out]; omega)
      rw [show a + ((u + r) / 2 - a) = (u + r) / 2 by omega] at hXk
      have HXK := Lib.hid hXk
      clear hXk
      have hcs1 : u ≤ (u + r) / 2 := by omega
      have hcs2 : (u + r) / 2 < r := by omega
      obtain ⟨x0, x1, x2⟩ := hI.out.all (m) (by omega)
      obtain ⟨y0, y1, y2⟩ := hI.out.all ((u + r) / 2) (by omega)
      have hqz := hI.out.lt
      obtain ⟨x, hx⟩ : ∃ z, z = elt L (m) := ⟨_, rfl⟩
      obtain ⟨y, hy⟩ : ∃ z, z = elt L ((u + r) / 2) := ⟨_, rfl⟩
      have HX := Lib.hid hx
      have HY := Lib.hid hy
      rw [← hx] at x0 x1 x2
      rw [← hy] at y0 y1 y2
      clear hx hy
      obtain ⟨xg, xf, xt⟩ := x
      obtain ⟨yg, yf, yt⟩ := y
      dsimp only at x0 x1 x2 y0 y1 y2
      have CO := Lib.hid fun w' => plan2_any w' (bs xg) (bs yg) xf xt yf yt
      rw [bs_toList, bs_toList] at CO
      obtain ⟨z, hz⟩ : ∃ z, z = cmpK xg xt yg yt := ⟨_, rfl⟩
      have HZ2 : Hid (mlt (elt L (m)) (elt L ((u + r) / 2)) = decide (z < 0)) := show _ = _ by rw [← HX.out, ← HY.out, mlt_cmp, hz]
      rw [← hz] at CO
      clear hz
      clear HLn
      by_cases hz0 : z < 0
      · have hHI : Hid (∀ k, (u + r) / 2 - a ≤ k → k < X.length → mlt (elt X k) (elt L m) = false) := above_gt HXS.out (h := (u + r) / 2 - a) (by rw [HXL.out]; omega) (by rw [← HXK.out, HZ2.out]; simpa using hz0)
        go_wp2_with fail
        refine wp_region_calm (by kernel_rfl) (by kernel_rfl) ?_
        repeat (first | (go_big_quiet_step ((go_at_call 59; exact calls_calm (CO.out _)))) | (refine wpQuiet_step (fun K hK => ?_); go_simp; first | (refine hK _ ?_; clear hK K) | (apply Exists.intro; refine ⟨fun _ => ?_, hK _ ?_⟩; (go_at_call 59; exact calls_calm (CO.out _)); clear hK K)))
        refine wpQuiet_nil ?_
        intro _ hw'
        obtain ⟨xq, hw''⟩ := hw'
        subst hw''
        go_wp2_with fail
        go_roundw
        case rel => go_light; exact ⟨u, (u + r) / 2, rfl, by go_num, hu1, by omega, by omega, hlo.out, hHI.out, bel_below hB.out xq.below⟩
        case measure => go_light; simp [intOf]; omega
      · have hzb : (!decide (z < 0)) = true := by simpa using hz0
        have hLO : Hid (∀ k, k < (u + r) / 2 + 1 - a → mlt (elt L m) (elt X k) = false) := fun k hk => bel_leM HXS.out (h := (u + r) / 2 - a) (by rw [HXL.out]; omega) (by rw [← HXK.out, HZ2.out]; simpa using hz0) k (by omega)
        go_wp2_with fail
        refine wp_region_calm (by kernel_rfl) (by kernel_rfl) ?_
        repeat (first | (go_big_quiet_step ((go_at_call 59; exact calls_calm (CO.out _)))) | (refine wpQuiet_step (fun K hK => ?_); go_simp; first | (refine hK _ ?_; clear hK K) | (apply Exists.intro; refine ⟨fun _ => ?_, hK _ ?_⟩; (go_at_call 59; exact calls_calm (CO.out _)); clear hK K)))
        refine wpQuiet_nil ?_
        intro _ hw'
        obtain ⟨xq, hw''⟩ := hw'
        subst hw''
        go_wp2_with fail
        go_roundw
        case rel => go_light; exact ⟨(u + r) / 2 + 1, r, by go_num, rfl, by omega, by omega, hrb, hLO.out, hhi.out, bel_below hB.out xq.below⟩
        case measure => go_light; simp [intOf]; omega
    · obtain rfl : u = r := by omega
      have hltI : ¬ (u : Int) < (u : Int) := by omega
      have hSO : Hid (SortedB mlt (X.take (u - a) ++ elt L m :: X.drop (u - a)) ∧ (X.take (u - a) ++ elt L m :: X.drop (u - a)).Perm (elt L m :: X)) := put_sorted mlt_ord HXS.out (by rw [HXL.out]; omega) hlo.out hhi.out
      have K0 : Hid (Kept (fun b => b = q) w wr) := (Kept.refl _ w).below hB.out
      have HI0 : Hid (MvIn wr q (P ++ (X.take (m - a) ++ (elt L m :: (X.drop (m - a) ++ S))))) := show MvIn _ _ _ by
        have := hI.out
        rw [HLE.out, HOY.out] at this
        rw [List.take_of_length_le (by rw [HXL.out]; omega), List.drop_of_length_le (by rw [HXL.out]; omega)]
        simpa using this
      clear hI hlo hhi hB
      go_wp2_with fail
      go_loopw [17] (fun vk wk => ∃ k t : Nat, vk = .int .i64 k ∧ k ≤ a + t ∧ a + t ≤ k ∧ u - a ≤ t ∧ t ≤ m - a ∧ Hid (MvIn wk q (P ++ (X.take t ++ (elt L m :: (X.drop t ++ S))))) ∧ Hid (Kept (fun b => b = q) w wk)) (fun vk _ => (intOf vk).toNat)
      case atStart => exact ⟨m, m - a, rfl, by omega, by omega, by omega, by omega, HI0.out, K0.out⟩
      case round =>
        obtain ⟨k, t, rfl, hk1, hk2, ht1, ht2, hIk, hKk⟩ := hrel
        by_cases hlk : u < k
        · have hlkI : (u : Int) < (k : Int) := by omega
          obtain ⟨t, rfl⟩ : ∃ z, t = z + 1 := ⟨t - 1, by omega⟩
          have hLl2 : (P ++ (X.take (t + 1) ++ (elt L m :: (X.drop (t + 1) ++ S)))).length = n := by
            have h5 := HPL.out; have h6 := HXL.out; have h7 := HSL.out; simp; omega
          obtain ⟨k0, hk0e⟩ : ∃ z, z = k - 1 := ⟨_, rfl⟩
          have hSU : Hid (swap2 (P ++ (X.take (t + 1) ++ (elt L m :: (X.drop (t + 1) ++ S)))) k k0 = P ++ (X.take t ++ (elt L m :: (X.drop t ++ S)))) := show _ = _ by
            have := swap_down P S (elt L m) X (t := t) (by rw [HXL.out]; omega)
            rw [HPL.out, show a + t + 1 = k by omega, show a + t = k0 by omega] at this; exact this
          obtain ⟨M, hMe⟩ : ∃ z, z = P ++ (X.take (t + 1) ++ (elt L m :: (X.drop (t + 1) ++ S))) := ⟨_, rfl⟩
          rw [← hMe] at hSU hIk hLl2
          have hk1I : (k : Int) - 1 = (k0 : Int) := by omega
          have hk1n : k < n := by omega
          have hkn : k0 < n := by omega
          have hkk : k0 < k := by omega
          clear hMe hk0e
          obtain ⟨x0, x1, x2⟩ := hIk.out.all (k) (by omega)
          obtain ⟨y0, y1, y2⟩ := hIk.out.all (k0) (by omega)
          have hqz := hIk.out.lt
          have f0 := hIk.out.fz ((k) * 3)
          have f1 := hIk.out.fz ((k) * 3 + 1)
          have f2 := hIk.out.fz ((k) * 3 + 2)
          have g0 := hIk.out.fz ((k0) * 3)
          have g1 := hIk.out.fz ((k0) * 3 + 1)
          have g2 := hIk.out.fz ((k0) * 3 + 2)
          have HS : Hid (MvIn ((wr.setCells q ((k) * 3) (mvCells (elt M (k0)))).setCells q ((k0) * 3) (mvCells (elt M (k)))).drew q (swap2 M (k) (k0))) := (hIk.out.swap (by omega) (by omega)).drew
          have hKS : Hid (Kept (fun b => b = q) w ((wr.setCells q ((k) * 3) (mvCells (elt M (k0)))).setCells q ((k0) * 3) (mvCells (elt M (k)))).drew) := (hKk.out.trans (kept_swap _ _ _ _ _ rfl)).drew
          obtain ⟨ei, hei⟩ : ∃ z, z = elt M (k) := ⟨_, rfl⟩
          obtain ⟨ej, hej⟩ : ∃ z, z = elt M (k0) := ⟨_, rfl⟩
          rw [← hei] at x0 x1 x2
          rw [← hej] at y0 y1 y2
          rw [← hei, ← hej] at HS hKS
          clear hei hej
          obtain ⟨ig, ifr, it⟩ := ei
          obtain ⟨jg, jfr, jt⟩ := ej
          dsimp only at x0 x1 x2 y0 y1 y2
          have mixed : Tryz.prog.follows .mixedOrders = true := by kernel_rfl
          clear hLl2
          go_wp2_with fail
          go_big_region_o
          all_goals go_wp2_with fail
          go_roundw
          case rel => go_light; exact ⟨k0, t, by first | rfl | go_num, by omega, by omega, by omega, by omega, (by show MvIn _ _ _; rw [← hSU.out]; exact HS.out), hKS.out⟩
          case measure => go_light; simp [intOf]; omega
        · have hlkI : ¬ (u : Int) < (k : Int) := by omega
          obtain rfl : t = u - a := by omega
          go_wp2_with fail
          (try simp only [Exit.inBlock, Exit.then]); refine bodyPost_ret (results_none rfl _ _ _) rfl ?_
          refine HP.out _ _ (by rw [HOY.out]; exact hSO.out.2.trans (List.perm_append_comm (l₁ := [elt L m]))) hSO.out.1 ?_ hKk.out
          simpa using hIk.out
end Go.Proofs.YtahiahjhpakeiaaGreatDoor
