/-
  The stable sort of moves: symMerge, where neither is one.
-/
import Derived.Test.YtahiahjhpakeiaaGreatDoorKept19
import Derived.Test.YtahiahjhpakeiaaGreatDoorKept23
import Derived.Shelf.RegionOpenPlain
import Derived.Deep.DeepCutAuto
import Derived.Laws.Bits64
section
namespace Go.Proofs.YtahiahjhpakeiaaGreatDoor
open Go.RowKit Go.Maps Go.Sort Go.WideShapes Go.ChangeShapes Go.Deep
set_option linter.unusedVariables false
set_option linter.unusedSimpArgs false
attribute [local go_sem] later_cell later_frozen later_lt cell_set_off cell_set_block keptT_cell keptT_lt

set_option maxRecDepth 100000 in
set_option maxHeartbeats 4000000 in
/-- By groups, then by whom it goes to. -/
theorem plan2_any (w : World) (ga gb : ByteArray) (fa ta fb tb : Int) :
    Calls Tryz.prog 59 #[.agg #[.string ga, .int .i64 fa, .int .i64 ta], .agg #[.string gb, .int .i64 fb, .int .i64 tb]] w
      fun e w' => e = .returned (.int .i64 (cmpK ga.toList ta gb.toList tb)) ∧ Below w.heap.size w w' := by
  have HE := Lib.hid (cmpK_or ga.toList gb.toList ta tb)
  go_enter Tryz.func59, Tryz.ntmps59
  go_upto_region 1 with (fail)
  obtain ⟨w1, hw1⟩ : ∃ z, z = (w.alloc (.cells #[.string ga, .int .i64 fa, .int .i64 ta] 53)).alloc (.cells #[.string gb, .int .i64 fb, .int .i64 tb] 53) := ⟨_, rfl⟩
  obtain ⟨X, hX⟩ : ∃ z, z = w.heap.size := ⟨_, rfl⟩
  have b01 : Below w.heap.size w w1 := by rw [hw1]; exact bel_alloc (bel_alloc (Below.refl _ _) _) _
  have x0 : w1.cell? ⟨X, 0, none⟩ = some (.string ga) := by rw [hw1, hX]; simp [go_sem]
  have x2 : w1.cell? ⟨X, 2, none⟩ = some (.int .i64 ta) := by rw [hw1, hX]; simp [go_sem]
  have y0 : w1.cell? ⟨X + 1, 0, none⟩ = some (.string gb) := by rw [hw1, hX]; simp [go_sem]
  have y2 : w1.cell? ⟨X + 1, 2, none⟩ = some (.int .i64 tb) := by rw [hw1, hX]; simp [go_sem]
  have xz : X < w1.heap.size := by rw [hw1, hX]; simp; omega
  have yz : X + 1 < w1.heap.size := by rw [hw1, hX]; simp
  have es : (w.alloc (.cells #[.string ga, .int .i64 fa, .int .i64 ta] 53)).heap.size = w.heap.size + 1 := by simp
  rw [← hw1]
  try rw [es]
  try rw [← hX]
  have B01 := Lib.hid b01
  clear hw1 hX es b01
  refine wp_region_calm_tail (10) (by kernel_rfl) (by kernel_rfl) ?_
  simp only [List.take_succ_cons, List.take_zero, List.drop_succ_cons, List.drop_zero]
  repeat (first | (go_big_quiet_step ((first | (go_at_call 61; exact calls_calm_same (cmpS_any _ _ _)) | (go_at_call 62; exact calls_calm_same (cmpI_any _ _ _))))) | (refine wpQuiet_step (fun K hK => ?_); go_simp; first | (refine hK _ ?_; clear hK K) | (apply Exists.intro; refine ⟨fun _ => ?_, hK _ ?_⟩; (first | (go_at_call 61; exact calls_calm_same (cmpS_any _ _ _)) | (go_at_call 62; exact calls_calm_same (cmpI_any _ _ _))); clear hK K)))
  refine wpQuiet_nil ?_
  intro _ hw'
  obtain ⟨xq, hw''⟩ := hw'
  subst hw''
  have B2 := Lib.hid (bel_below B01.out xq.below)
  go_wp2_with fail
  refine (or_any _ _ (cmpT ga.toList gb.toList) (cmpN ta tb) ?_ ?_).mono ?_
  · simp [go_sem]
  · simp [go_sem]
  rintro e w3 ⟨rfl, rfl⟩
  rw [HE.out]
  go_wp2_with fail
  go_ret
  exact ⟨rfl, bel_alloc B2.out _⟩
/-- What a step of the sort leaves: the moves of X in order between P and S. -/
def SrtPost (w : World) (q : Nat) (P X S : List Mv) (e : Ending) (w' : World) : Prop :=
  e = .returned (.tuple #[]) ∧ ∃ Z, Z.Perm X ∧ SortedB mlt Z ∧ MvIn w' q (P ++ (Z ++ S)) ∧ Kept (fun b => b = q) w w'
set_option maxRecDepth 100000 in
set_option maxHeartbeats 4000000 in
theorem swpr_any (w : World) (q n cap : Nat) (L : List Mv) (hM : MvIn w q L) (hn : L.length = n) (hnl : n ≤ 1000000) (a b k : Nat) (ha : a + k ≤ b) (hb : b + k ≤ n) (fv : Value) :
    Calls Tryz.prog 188 #[.slice (some ⟨q, 0, none⟩) n cap, .int .i64 a, .int .i64 b, .int .i64 k, fv] w fun e w' => e = .returned (.tuple #[]) ∧ MvIn w' q (swapR L a b k) ∧ Kept (fun b => b = q) w w' := by
  have HM := Lib.hid hM
  have HN := Lib.hid hn
  clear hM hn
  go_enter Tryz.func188, Tryz.ntmps188
  go_wp2_with fail
  go_loopw [10] (fun i wr => ∃ t : Nat, t ≤ k ∧ i = .int .i64 t ∧ Hid (MvIn wr q (swapR L a b t)) ∧ Hid (Kept (fun b => b = q) w wr)) (fun i _ => k - (intOf i).toNat)
  case atStart => exact ⟨0, Nat.zero_le _, rfl, HM.out, Kept.refl _ _⟩
  case round =>
    obtain ⟨t, ht, rfl, hI, hK⟩ := hrel
    by_cases hlt : t < k
    · have hl : (swapR L a b t).length = n := by rw [swapR_len]; exact HN.out
      have hsw : Hid (swapR L a b (t + 1) = swap2 (swapR L a b t) (a + t) (b + t)) := show _ = _ from rfl
      obtain ⟨M, hMe⟩ : ∃ z, z = swapR L a b t := ⟨_, rfl⟩
      rw [← hMe] at hsw hI hl
      obtain ⟨i, hi⟩ : ∃ z, z = a + t := ⟨_, rfl⟩
      obtain ⟨j, hj⟩ : ∃ z, z = b + t := ⟨_, rfl⟩
      rw [← hi, ← hj] at hsw
      have hii : (a : Int) + (t : Int) = (i : Int) := by omega
      have hjj : (b : Int) + (t : Int) = (j : Int) := by omega
      have hin : (i : Int) < (n : Int) := by omega
      have hjn : (j : Int) < (n : Int) := by omega
      obtain ⟨x0, x1, x2⟩ := hI.out.all (i) (by omega)
      obtain ⟨y0, y1, y2⟩ := hI.out.all (j) (by omega)
      have hqz := hI.out.lt
      have f0 := hI.out.fz ((i) * 3)
      have f1 := hI.out.fz ((i) * 3 + 1)
      have f2 := hI.out.fz ((i) * 3 + 2)
      have g0 := hI.out.fz ((j) * 3)
      have g1 := hI.out.fz ((j) * 3 + 1)
      have g2 := hI.out.fz ((j) * 3 + 2)
      have HS : Hid (MvIn ((wr.setCells q ((i) * 3) (mvCells (elt M (j)))).setCells q ((j) * 3) (mvCells (elt M (i)))).drew q (swap2 M (i) (j))) := (hI.out.swap (by omega) (by omega)).drew
      have hKS : Hid (Kept (fun b => b = q) w ((wr.setCells q ((i) * 3) (mvCells (elt M (j)))).setCells q ((j) * 3) (mvCells (elt M (i)))).drew) := (hK.out.trans (kept_swap _ _ _ _ _ rfl)).drew
      obtain ⟨ei, hei⟩ : ∃ z, z = elt M (i) := ⟨_, rfl⟩
      obtain ⟨ej, hej⟩ : ∃ z, z = elt M (j) := ⟨_, rfl⟩
      rw [← hei] at x0 x1 x2
      rw [← hej] at y0 y1 y2
      rw [← hei, ← hej] at HS hKS
      clear hei hej
      obtain ⟨ig, ifr, it⟩ := ei
      obtain ⟨jg, jfr, jt⟩ := ej
      dsimp only at x0 x1 x2 y0 y1 y2
      have mixed : Tryz.prog.follows .mixedOrders = true := by kernel_rfl
      have hij : i < j := by omega
      clear hi hj hMe hl
      go_wp2_with fail
      go_big_region_o
      all_goals go_wp2_with fail
      go_roundw
      case rel => go_light; exact ⟨t + 1, by omega, by go_num, (by show MvIn _ _ _; rw [hsw.out]; exact HS.out), hKS.out⟩
      case measure => go_light; simp [intOf]; omega
    · obtain rfl : t = k := by omega
      go_wp2_with fail
      go_end0
      exact ⟨rfl, hI.out, hK.out⟩
/-- One element under way to its place: those behind it are greater. -/
structure InsAt (P X S : List Mv) (k : Nat) (Z L : List Mv) (j : Nat) : Prop where
  hk : k < X.length
  zl : Z.length = k
  ex : ∃ Y1 Y2, Y1 ++ Y2 = Z ∧ j = P.length + Y1.length ∧ (∀ y ∈ Y2, mlt (elt X k) y = true) ∧ L = P ++ ((Y1 ++ (elt X k :: Y2)) ++ (X.drop (k + 1) ++ S))
theorem InsAt.start {P X S Z : List Mv} {k : Nat} (hk : k < X.length) (hz : Z.length = k) : InsAt P X S k Z (P ++ (Z ++ (X.drop k ++ S))) (P.length + k) :=
  ⟨hk, hz, Z, [], by simp, by omega, by simp, by rw [drop_head hk]; simp⟩
theorem InsAt.lt {P X S Z L : List Mv} {k j : Nat} (h : InsAt P X S k Z L j) : P.length ≤ j ∧ j ≤ P.length + k ∧ L.length = P.length + X.length + S.length ∧ j < L.length := by
  obtain ⟨hk, hz, Y1, Y2, h1, h2, _, h4⟩ := h
  have := congrArg List.length h1
  rw [List.length_append] at this
  have h5 : L.length = P.length + X.length + S.length := by rw [h4]; simp; omega
  omega
theorem InsAt.head {P X S Z L : List Mv} {k j : Nat} (h : InsAt P X S k Z L j) : elt L j = elt X k := by
  obtain ⟨hk, hz, Y1, Y2, h1, h2, _, h4⟩ := h
  rw [h4, h2, elt_in (by simp), elt_app_right (Nat.le_refl _), Nat.sub_self]; rfl
theorem InsAt.put {P X S Z L : List Mv} {k j : Nat} (h : InsAt P X S k Z L j) (hZ : SortedB mlt Z) (hp : Z.Perm (X.take k)) (hs : j = P.length ∨ mlt (elt L j) (elt L (j - 1)) = false) :
    ∃ Z', Z'.Perm (X.take (k + 1)) ∧ SortedB mlt Z' ∧ Z'.length = k + 1 ∧ L = P ++ (Z' ++ (X.drop (k + 1) ++ S)) := by
  have he := h.head
  obtain ⟨hk, hz, Y1, Y2, h1, h2, h3, h4⟩ := h
  have hl := congrArg List.length h1
  rw [List.length_append] at hl
  have q := put_sorted mlt_ord hZ (x := elt X k) (i := Y1.length) (by omega) (fun t ht => ?_) (fun t ht ht2 => ?_)
  · have e1 : Z.take Y1.length = Y1 := by rw [← h1]; simp
    have e2 : Z.drop Y1.length = Y2 := by rw [← h1]; simp
    rw [e1, e2] at q
    refine ⟨Y1 ++ elt X k :: Y2, ?_, q.1, by simp; omega, h4⟩
    rw [take_snoc hk]
    exact q.2.trans ((List.Perm.cons _ hp).trans (List.perm_append_comm (l₁ := [elt X k])))
  · rcases hs with hs | hs
    · omega
    · have hy : elt L (j - 1) = elt Z (Y1.length - 1) := by
        rw [h4, h2, show P.length + Y1.length - 1 = P.length + (Y1.length - 1) by omega, elt_in (by simp; omega), elt_app_left (by omega), ← h1, elt_app_left (by omega)]
      rw [he, hy] at hs
      exact mlt_ord.trans _ _ _ (hZ.le mlt_ord (i := t) (j := Y1.length - 1) (by omega) (by omega)) hs
  · refine mlt_ord.asym _ _ (h3 _ ?_)
    rw [← h1, elt_app_right ht]
    exact elt_mem.2 ⟨t - Y1.length, by omega, rfl⟩
theorem InsAt.go {P X S Z L : List Mv} {k j : Nat} (h : InsAt P X S k Z L (j + 1)) (hj : P.length < j + 1) (hs : mlt (elt L (j + 1)) (elt L j) = true) : InsAt P X S k Z (swap2 L (j + 1) j) j := by
  have he := h.head
  obtain ⟨hk, hz, Y1, Y2, h1, h2, h3, h4⟩ := h
  have hl := congrArg List.length h1
  rw [List.length_append] at hl
  have hy0 : 0 < Y1.length := by omega
  have e1 : Y1 = Y1.take (Y1.length - 1) ++ [elt Y1 (Y1.length - 1)] := by
    conv => lhs; rw [← List.take_length (l := Y1), show Y1.length = (Y1.length - 1) + 1 by omega, take_snoc (by omega)]
  have hyj : elt L j = elt Y1 (Y1.length - 1) := by
    rw [h4, show j = P.length + (Y1.length - 1) by omega, elt_in (by simp; omega), elt_app_left (by omega)]
  rw [he, hyj] at hs
  refine ⟨hk, hz, Y1.take (Y1.length - 1), elt Y1 (Y1.length - 1) :: Y2, ?_, ?_, ?_, ?_⟩
  · rw [← h1]
    conv => rhs; rw [e1]
    simp
  · rw [List.length_take]; omega
  · intro y hy
    rcases List.mem_cons.1 hy with rfl | hy
    · exact hs
    · exact h3 y hy
  · have hj2 : j = (P ++ Y1.take (Y1.length - 1)).length := by rw [List.length_append, List.length_take]; omega
    have e2 : L = (P ++ Y1.take (Y1.length - 1)) ++ (elt Y1 (Y1.length - 1) :: elt X k :: (Y2 ++ (X.drop (k + 1) ++ S))) := by
      rw [h4]
      conv => lhs; rw [e1]
      simp
    rw [e2, hj2, swap2_mid']
    simp
set_option maxRecDepth 100000 in
set_option maxHeartbeats 8000000 in
theorem insc_any (w : World) (q n cap : Nat) (P X S : List Mv) (hM : MvIn w q (P ++ (X ++ S))) (hn : P.length + X.length + S.length = n) (hnl : n ≤ 1000000) (p b : Nat) (hp : p = P.length) (hb : b = p + X.length) :
    Calls Tryz.prog 148 #[.slice (some ⟨q, 0, none⟩) n cap, .int .i64 p, .int .i64 b, .func (.func 59) #[] #[]] w (SrtPost w q P X S) := by
  have HM := Lib.hid hM
  have HN := Lib.hid hn
  have HP : Hid (∀ Z w', Z.Perm X → SortedB mlt Z → MvIn w' q (P ++ (Z ++ S)) → Kept (fun b => b = q) w w' → SrtPost w q P X S (.returned (.tuple #[])) w') := fun Z w' h1 h2 h3 h4 => ⟨rfl, Z, h1, h2, h3, h4⟩
  obtain ⟨m, hm⟩ : ∃ z, z = X.length := ⟨_, rfl⟩
  have hpn : p + m ≤ n := by omega
  rw [← hm] at hb
  have hb1 : b ≤ p + m := by omega
  have hb2 : p + m ≤ b := by omega
  have HPL := Lib.hid hp
  have HML := Lib.hid hm
  clear hM hn hp hm hb
  go_enter Tryz.func148, Tryz.ntmps148
  go_wp2_with fail
  go_loopw [8] (fun i wr => ∃ (k ii : Nat) (Z : List Mv), ii = p + k ∧ 1 ≤ k ∧ (k ≤ m ∨ k = 1) ∧ i = .int .i64 ii ∧ Hid (Z.Perm (X.take k) ∧ SortedB mlt Z) ∧ Hid (MvIn wr q (P ++ (Z ++ (X.drop k ++ S)))) ∧ Hid (Kept (fun b => b = q) w wr)) (fun i _ => p + m + 1 - (intOf i).toNat)
  case atStart => exact ⟨1, p + 1, X.take 1, rfl, Nat.le_refl _, Or.inr rfl, by go_num, ⟨List.Perm.refl _, by cases X <;> simp [SortedB]⟩, by rw [← List.append_assoc (X.take 1), List.take_append_drop]; exact HM.out, Kept.refl _ _⟩
  case round =>
    obtain ⟨k, ii, Z, hii, hk1, hkm, rfl, hZ, hI, hK⟩ := hrel
    have HII := Lib.hid hii
    have hii1 : ii ≤ p + k := by omega
    have hii2 : p + k ≤ ii := by omega
    clear hii
    by_cases hlt : k < m
    · have hltI : (ii : Int) < (b : Int) := by omega
      have hZl : Z.length = k := by rw [hZ.out.1.length_eq, List.length_take, ← HML.out]; omega
      have HST : Hid (InsAt P X S k Z (P ++ (Z ++ (X.drop k ++ S))) ii) := by rw [HII.out, HPL.out]; exact InsAt.start (by rw [← HML.out]; exact hlt) hZl
      clear hZl
      go_wp2_with fail
      go_loopw [9] (fun j wi => ∃ (jj : Nat) (L : List Mv), j = .int .i64 jj ∧ p ≤ jj ∧ jj ≤ ii ∧ Hid (InsAt P X S k Z L jj) ∧ Hid (MvIn wi q L) ∧ Hid (Kept (fun b => b = q) w wi)) (fun j _ => (intOf j).toNat)
      case atStart => exact ⟨ii, _, rfl, by omega, Nat.le_refl _, HST.out, hI.out, hK.out⟩
      case round =>
        obtain ⟨jj, L, rfl, hpj, hji, hA, hI2, hK2⟩ := hrel
        have hAl := hA.out.lt
        have hLn : L.length = n := by rw [hAl.2.2.1, HN.out]
        have hPUT : Hid ((jj = P.length ∨ mlt (elt L jj) (elt L (jj - 1)) = false) → ∃ Z', Z'.Perm (X.take (k + 1)) ∧ SortedB mlt Z' ∧ Z'.length = k + 1 ∧ L = P ++ (Z' ++ (X.drop (k + 1) ++ S))) := hA.out.put hZ.out.2 hZ.out.1
        by_cases hjp : p < jj
        · obtain ⟨j, hj⟩ : ∃ z, jj = z + 1 := ⟨jj - 1, by omega⟩
          have hjpI : (p : Int) < (jj : Int) := by omega
          have hjI : (jj : Int) - 1 = (j : Int) := by omega
          have hj1 : jj - 1 = j := by omega
          have hjn : jj < n := by omega
          have hjnI : (jj : Int) < (n : Int) := by omega
          have hjnI2 : (j : Int) < (n : Int) := by omega
          have HGO : Hid (mlt (elt L jj) (elt L j) = true → InsAt P X S k Z (swap2 L jj j) j) := show _ → _ from fun hs => by
            have := hA.out
            rw [hj] at this hs ⊢
            exact this.go (by rw [← HPL.out]; omega) hs
          have HJ1 := Lib.hid hj1
          have hjj1 : jj ≤ j + 1 := by omega
          have hjj2 : j + 1 ≤ jj := by omega
          clear hAl hj hj1
          obtain ⟨x0, x1, x2⟩ := hI2.out.all (jj) (by omega)
          obtain ⟨y0, y1, y2⟩ := hI2.out.all (j) (by omega)
          have hqz := hI2.out.lt
          obtain ⟨x, hx⟩ : ∃ z, z = elt L (jj) := ⟨_, rfl⟩
          obtain ⟨y, hy⟩ : ∃ z, z = elt L (j) := ⟨_, rfl⟩
          have HX := Lib.hid hx
          have HY := Lib.hid hy
          rw [← hx] at x0 x1 x2
          rw [← hy] at y0 y1 y2
          clear hx hy
          obtain ⟨xg, xf, xt⟩ := x
          obtain ⟨yg, yf, yt⟩ := y
          dsimp only at x0 x1 x2 y0 y1 y2
          have CO := Lib.hid fun w' => plan2_any w' (bs xg) (bs yg) xf xt yf yt
          rw [bs_toList, bs_toList] at CO
          obtain ⟨z, hz⟩ : ∃ z, z = cmpK xg xt yg yt := ⟨_, rfl⟩
          have HZ2 : Hid (mlt (elt L (jj)) (elt L (j)) = decide (z < 0)) := show _ = _ by rw [← HX.out, ← HY.out, mlt_cmp, hz]
          rw [← hz] at CO
          clear hz
          by_cases hz0 : z < 0
          · have HA3 := Lib.hid (HGO.out (by rw [HZ2.out]; simpa using hz0))
            go_wp2_with fail
            refine wp_region_calm (by kernel_rfl) (by kernel_rfl) ?_
            repeat (first | (go_big_quiet_step ((go_at_call 59; exact calls_calm (CO.out _)))) | (refine wpQuiet_step (fun K hK => ?_); go_simp; first | (refine hK _ ?_; clear hK K) | (apply Exists.intro; refine ⟨fun _ => ?_, hK _ ?_⟩; (go_at_call 59; exact calls_calm (CO.out _)); clear hK K)))
            refine wpQuiet_nil ?_
            intro _ hw'
            obtain ⟨xq, hw''⟩ := hw'
            subst hw''
            go_wp2_with fail
            have M3 := Lib.hid (hI2.out.below xq.below)
            have K3 := Lib.hid (hK2.out.below xq.below)
            obtain ⟨w3, hw3⟩ : ∃ z, z = xq.world := ⟨_, rfl⟩
            rw [← hw3] at M3 K3 ⊢
            clear hw3 x0 x1 x2 y0 y1 y2 hqz HX HY
            obtain ⟨x0, x1, x2⟩ := M3.out.all (jj) (by omega)
            obtain ⟨y0, y1, y2⟩ := M3.out.all (j) (by omega)
            have hqz := M3.out.lt
            have f0 := M3.out.fz ((jj) * 3)
            have f1 := M3.out.fz ((jj) * 3 + 1)
            have f2 := M3.out.fz ((jj) * 3 + 2)
            have g0 := M3.out.fz ((j) * 3)
            have g1 := M3.out.fz ((j) * 3 + 1)
            have g2 := M3.out.fz ((j) * 3 + 2)
            have HS : Hid (MvIn ((w3.setCells q ((jj) * 3) (mvCells (elt L (j)))).setCells q ((j) * 3) (mvCells (elt L (jj)))).drew q (swap2 L (jj) (j))) := (M3.out.swap (by omega) (by omega)).drew
            have hKS : Hid (Kept (fun b => b = q) w ((w3.setCells q ((jj) * 3) (mvCells (elt L (j)))).setCells q ((j) * 3) (mvCells (elt L (jj)))).drew) := (K3.out.trans (kept_swap _ _ _ _ _ rfl)).drew
            obtain ⟨ei, hei⟩ : ∃ z, z = elt L (jj) := ⟨_, rfl⟩
            obtain ⟨ej, hej⟩ : ∃ z, z = elt L (j) := ⟨_, rfl⟩
            rw [← hei] at x0 x1 x2
            rw [← hej] at y0 y1 y2
            rw [← hei, ← hej] at HS hKS
            clear hei hej
            obtain ⟨ig, ifr, it⟩ := ei
            obtain ⟨jg, jfr, jt⟩ := ej
            dsimp only at x0 x1 x2 y0 y1 y2
            have mixed : Tryz.prog.follows .mixedOrders = true := by kernel_rfl
            go_big_region_o
            all_goals go_wp2_with fail
            go_roundw
            case rel => go_light; exact ⟨j, _, rfl, by omega, by omega, HA3.out, HS.out, hKS.out⟩
            case measure => go_light; simp [intOf]; omega
          · obtain ⟨Z', hz1, hz2, hz3, hz4⟩ := hPUT.out (Or.inr (by rw [HJ1.out, HZ2.out]; simpa using hz0))
            have HZ4 := Lib.hid hz4
            have HZ5 : Hid (Z'.Perm (X.take (k + 1)) ∧ SortedB mlt Z') := ⟨hz1, hz2⟩
            clear hz1 hz2 hz3 hz4
            go_wp2_with fail
            refine wp_region_calm (by kernel_rfl) (by kernel_rfl) ?_
            repeat (first | (go_big_quiet_step ((go_at_call 59; exact calls_calm (CO.out _)))) | (refine wpQuiet_step (fun K hK => ?_); go_simp; first | (refine hK _ ?_; clear hK K) | (apply Exists.intro; refine ⟨fun _ => ?_, hK _ ?_⟩; (go_at_call 59; exact calls_calm (CO.out _)); clear hK K)))
            refine wpQuiet_nil ?_
            intro _ hw'
            obtain ⟨xq, hw''⟩ := hw'
            subst hw''
            go_wp2_with fail
            go_roundw
            case rel => go_light; exact ⟨k + 1, ii + 1, Z', by omega, by omega, by omega, by go_num, HZ5.out, HZ4.out ▸ hI2.out.below xq.below, hK2.out.below xq.below⟩
            case measure => go_light; simp [intOf]; omega
        · have hjpI : ¬ (p : Int) < (jj : Int) := by omega
          obtain ⟨Z', hz1, hz2, hz3, hz4⟩ := hPUT.out (Or.inl (by rw [← HPL.out]; omega))
          have HZ4 := Lib.hid hz4
          have HZ5 : Hid (Z'.Perm (X.take (k + 1)) ∧ SortedB mlt Z') := ⟨hz1, hz2⟩
          clear hz1 hz2 hz3 hz4
          go_wp2_with fail
          refine wp_region_calm (by kernel_rfl) (by kernel_rfl) ?_
          repeat (first | (go_big_quiet_step ((fail))) | (refine wpQuiet_step (fun K hK => ?_); go_simp; first | (refine hK _ ?_; clear hK K) | (apply Exists.intro; refine ⟨fun _ => ?_, hK _ ?_⟩; (fail); clear hK K)))
          refine wpQuiet_nil ?_
          intro _ hw'
          obtain ⟨xq, hw''⟩ := hw'
          subst hw''
          go_wp2_with fail
          go_roundw
          case rel => go_light; exact ⟨k + 1, ii + 1, Z', by omega, by omega, by omega, by go_num, HZ5.out, HZ4.out ▸ hI2.out.below xq.below, hK2.out.below xq.below⟩
          case measure => go_light; simp [intOf]; omega
    · have hltI : ¬ (ii : Int) < (b : Int) := by omega
      have hall : X.take k = X := List.take_of_length_le (by rw [← HML.out]; omega)
      have hnil : X.drop k = [] := List.drop_of_length_le (by rw [← HML.out]; omega)
      rw [hall] at hZ
      rw [hnil] at hI
      go_wp2_with fail
      go_end0
      exact HP.out Z _ hZ.out.1 hZ.out.2 hI.out hK.out
end Go.Proofs.YtahiahjhpakeiaaGreatDoor

/-
  The stable sort of moves: rotate, symMerge.
-/
namespace Go.Proofs.YtahiahjhpakeiaaGreatDoor
open Go.RowKit Go.Maps Go.Sort Go.WideShapes Go.ChangeShapes Go.Deep
set_option linter.unusedVariables false
set_option linter.unusedSimpArgs false
attribute [local go_sem] later_cell later_frozen later_lt cell_set_off cell_set_block keptT_cell keptT_lt

/-- Two runs under way to change places. -/
structure RotAt (T : List Mv) (m : Nat) (L : List Mv) (i j : Nat) : Prop where
  i0 : 0 < i
  j0 : 0 < j
  ex : ∃ L0 A B R0, A.length = i ∧ B.length = j ∧ L0.length + i = m ∧ L = L0 ++ (A ++ (B ++ R0)) ∧ L0 ++ (B ++ (A ++ R0)) = T
theorem RotAt.start {P X Y S : List Mv} (hx : 0 < X.length) (hy : 0 < Y.length) : RotAt (P ++ (Y ++ (X ++ S))) (P.length + X.length) (P ++ (X ++ (Y ++ S))) X.length Y.length :=
  ⟨hx, hy, P, X, Y, S, rfl, rfl, rfl, rfl, rfl⟩
theorem RotAt.lt {T L : List Mv} {m i j : Nat} (h : RotAt T m L i j) : i ≤ m ∧ m + j ≤ L.length ∧ L.length = T.length := by
  obtain ⟨_, _, L0, A, B, R0, h1, h2, h3, h4, h5⟩ := h
  rw [h4, ← h5]
  simp only [List.length_append]
  omega
theorem RotAt.left {T L : List Mv} {m i j : Nat} (h : RotAt T m L i j) (hij : j < i) : RotAt T m (swapR L (m - i) m j) (i - j) j := by
  obtain ⟨i0, j0, L0, A, B, R0, h1, h2, h3, h4, h5⟩ := h
  refine ⟨by omega, j0, L0 ++ B, A.drop j, A.take j, R0, by rw [List.length_drop]; omega, by rw [List.length_take]; omega, by rw [List.length_append]; omega, ?_, ?_⟩
  · have := swapR_parts L0 (A.take j) (A.drop j) B R0 (by rw [List.length_take]; omega) (a := m - i) (b := m) (n := j) (by omega) (by rw [List.length_take, List.length_drop]; omega) (by rw [List.length_take]; omega)
    rw [← List.append_assoc (A.take j), List.take_append_drop] at this
    rw [h4, this]; simp
  · rw [← h5]
    rw [← List.append_assoc (A.take j), List.take_append_drop]; simp
theorem RotAt.right {T L : List Mv} {m i j : Nat} (h : RotAt T m L i j) (hij : i < j) : RotAt T m (swapR L (m - i) (m + j - i) i) i (j - i) := by
  obtain ⟨i0, j0, L0, A, B, R0, h1, h2, h3, h4, h5⟩ := h
  refine ⟨i0, by omega, L0, B.drop (j - i), B.take (j - i), A ++ R0, by rw [List.length_drop]; omega, by rw [List.length_take]; omega, h3, ?_, ?_⟩
  · have := swapR_parts L0 A (B.take (j - i)) (B.drop (j - i)) R0 (by rw [List.length_drop]; omega) (a := m - i) (b := m + j - i) (n := i) (by omega) (by rw [List.length_take]; omega) (by omega)
    rw [← List.append_assoc (B.take (j - i)), List.take_append_drop] at this
    rw [h4, this]
  · rw [← h5]
    rw [← List.append_assoc (B.take (j - i)), List.take_append_drop]
theorem RotAt.end {T L : List Mv} {m i : Nat} (h : RotAt T m L i i) : swapR L (m - i) m i = T := by
  obtain ⟨i0, j0, L0, A, B, R0, h1, h2, h3, h4, h5⟩ := h
  have := swapR_parts L0 A [] B R0 (by omega) (a := m - i) (b := m) (n := i) (by omega) (by simp; omega) (by omega)
  rw [h4, ← h5]
  simpa using this
set_option maxRecDepth 100000 in
set_option maxHeartbeats 4000000 in
theorem rot_any (w : World) (q n cap : Nat) (P X Y S : List Mv) (hM : MvIn w q (P ++ (X ++ (Y ++ S)))) (hn : P.length + X.length + Y.length + S.length = n) (hnl : n ≤ 1000000) (hx : 0 < X.length) (hy : 0 < Y.length) (a m b : Nat) (ha : a = P.length) (hm : m = a + X.length) (hb : b = m + Y.length) (fv : Value) :
    Calls Tryz.prog 174 #[.slice (some ⟨q, 0, none⟩) n cap, .int .i64 a, .int .i64 m, .int .i64 b, fv] w fun e w' => e = .returned (.tuple #[]) ∧ MvIn w' q (P ++ (Y ++ (X ++ S))) ∧ Kept (fun b => b = q) w w' := by
  have HM := Lib.hid hM
  have H0 : Hid (RotAt (P ++ (Y ++ (X ++ S))) m (P ++ (X ++ (Y ++ S))) (m - a) (b - m)) := show RotAt _ _ _ _ _ by
    have := RotAt.start (P := P) (S := S) hx hy
    rw [show m - a = X.length by omega, show b - m = Y.length by omega, show m = P.length + X.length by omega]; exact this
  obtain ⟨T, hT⟩ : ∃ z, z = P ++ (Y ++ (X ++ S)) := ⟨_, rfl⟩
  obtain ⟨L, hL⟩ : ∃ z, z = P ++ (X ++ (Y ++ S)) := ⟨_, rfl⟩
  have HTn : Hid (T.length = n) := show _ = _ by rw [hT]; simp; omega
  have hma : a ≤ m := by omega
  have hmb : m ≤ b := by omega
  have hbn : b ≤ n := by omega
  rw [← hL] at HM
  rw [← hT, ← hL] at H0
  rw [← hT]
  clear hT hL hM hn hx hy ha hm hb
  go_enter Tryz.func174, Tryz.ntmps174
  go_wp2_with fail
  go_loopw [10, 11] (fun vi vj wr => ∃ (i j : Nat) (M : List Mv), vi = .int .i64 i ∧ vj = .int .i64 j ∧ i ≤ n ∧ j ≤ n ∧ Hid (RotAt T m M i j) ∧ Hid (MvIn wr q M) ∧ Hid (Kept (fun b => b = q) w wr)) (fun vi vj _ => (intOf vi).toNat + (intOf vj).toNat)
  case atStart => exact ⟨m - a, b - m, L, by congr 1; omega, by congr 1; omega, by omega, by omega, H0.out, HM.out, Kept.refl _ _⟩
  case round =>
    obtain ⟨i, j, M, rfl, rfl, hin, hjn, hR, hI, hK⟩ := hrel
    have hRl := hR.out.lt
    have hi0 := hR.out.i0
    have hj0 := hR.out.j0
    have hMn : M.length = n := by rw [hRl.2.2]; exact HTn.out
    have him := hRl.1
    have hmj := hRl.2.1
    rw [hMn] at hmj
    have HMN := Lib.hid hMn
    clear hRl hMn
    rcases Nat.lt_trichotomy i j with hij | hij | hij
    · have hne : ¬ (i : Int) = (j : Int) := by omega
      have hgt : ¬ (j : Int) < (i : Int) := by omega
      have CS := swpr_any wr q n cap M hI.out HMN.out hnl (m - i) (m + j - i) i (by omega) (by omega) fv
      rw [show ((m - i : Nat) : Int) = (m : Int) - (i : Int) by omega, show ((m + j - i : Nat) : Int) = (m : Int) + (j : Int) - (i : Int) by omega] at CS
      have CS := Lib.hid CS
      have HR2 := Lib.hid (hR.out.right hij)
      go_wp2_with fail
      refine CS.out.mono ?_
      rintro e w2 ⟨rfl, hM2, hK2⟩
      have M2 := Lib.hid hM2
      have K2 := Lib.hid (hK.out.trans hK2)
      clear hM2 hK2 CS
      go_wp2_with fail
      go_roundw
      case rel => go_light; exact ⟨i, j - i, _, rfl, by congr 1; omega, hin, by omega, HR2.out, M2.out, K2.out⟩
      case measure => go_light; simp [intOf]; omega
    · subst hij
      have hgt : ¬ (i : Int) < (i : Int) := by omega
      have CS := swpr_any wr q n cap M hI.out HMN.out hnl (m - i) m i (by omega) (by omega) fv
      rw [show ((m - i : Nat) : Int) = (m : Int) - (i : Int) by omega] at CS
      have CS := Lib.hid CS
      have HR2 := Lib.hid hR.out.end
      go_wp2_with fail
      refine CS.out.mono ?_
      rintro e w2 ⟨rfl, hM2, hK2⟩
      have M2 := Lib.hid hM2
      have K2 := Lib.hid (hK.out.trans hK2)
      clear hM2 hK2 CS
      go_wp2_with fail
      go_end0
      exact ⟨rfl, HR2.out ▸ M2.out, K2.out⟩
    · have hne : ¬ (i : Int) = (j : Int) := by omega
      have hgt : (j : Int) < (i : Int) := by omega
      have CS := swpr_any wr q n cap M hI.out HMN.out hnl (m - i) m j (by omega) (by omega) fv
      rw [show ((m - i : Nat) : Int) = (m : Int) - (i : Int) by omega] at CS
      have CS := Lib.hid CS
      have HR2 := Lib.hid (hR.out.left hij)
      go_wp2_with fail
      refine CS.out.mono ?_
      rintro e w2 ⟨rfl, hM2, hK2⟩
      have M2 := Lib.hid hM2
      have K2 := Lib.hid (hK.out.trans hK2)
      clear hM2 hK2 CS
      go_wp2_with fail
      go_roundw
      case rel => go_light; exact ⟨i - j, j, _, by congr 1; omega, rfl, by omega, hjn, HR2.out, M2.out, K2.out⟩
      case measure => go_light; simp [intOf]; omega
end Go.Proofs.YtahiahjhpakeiaaGreatDoor


/-
  The stable sort of moves: symMerge.
-/
namespace Go.Proofs.YtahiahjhpakeiaaGreatDoor
open Go.RowKit Go.Maps Go.Sort Go.WideShapes Go.ChangeShapes Go.Deep
set_option linter.unusedVariables false
set_option linter.unusedSimpArgs false
attribute [local go_sem] later_cell later_frozen later_lt cell_set_off cell_set_block keptT_cell keptT_lt

section
variable {P X Y S : List Mv}
theorem sym_x {k : Nat} (hk : k < X.length) : elt (P ++ (X ++ (Y ++ S))) (P.length + k) = elt X k := elt_in hk
theorem sym_y {k : Nat} (hk : k < Y.length) : elt (P ++ (X ++ (Y ++ S))) (P.length + X.length + k) = elt Y k := elt_in2 hk
theorem sym_len : (P ++ (X ++ (Y ++ S))).length = P.length + X.length + Y.length + S.length := by simp; omega
end
/-- The first of what may be merged is one: those that are less go ahead of it. -/
structure OneX (P S : List Mv) (x : Mv) (Y : List Mv) (i : Nat) : Prop where
  le : i ≤ Y.length
  lo : ∀ k, k < i → mlt (elt Y k) x = true
  hi : ∀ k, i ≤ k → k < Y.length → mlt (elt Y k) x = false
theorem OneX.sorted {P S : List Mv} {x : Mv} {Y : List Mv} {i : Nat} (h : OneX P S x Y i) (hY : SortedB mlt Y) : SortedB mlt (Y.take i ++ x :: Y.drop i) ∧ (Y.take i ++ x :: Y.drop i).Perm ([x] ++ Y) :=
  put_sorted mlt_ord hY h.le (fun k hk => mlt_ord.asym _ _ (h.lo k hk)) h.hi
theorem below_lt {Y : List Mv} (hY : SortedB mlt Y) {x : Mv} {h : Nat} (hh : h < Y.length) (hl : mlt (elt Y h) x = true) : ∀ k, k ≤ h → mlt (elt Y k) x = true := fun k hk => by
  cases hq : mlt (elt Y k) x with
  | true => rfl
  | false =>
    have := mlt_ord.trans _ _ _ hq (hY.le mlt_ord hk hh)
    rw [this] at hl; cases hl
theorem above_ge {Y : List Mv} (hY : SortedB mlt Y) {x : Mv} {h : Nat} (hh : h < Y.length) (hl : mlt (elt Y h) x = false) : ∀ k, h ≤ k → k < Y.length → mlt (elt Y k) x = false := fun k hk hk2 =>
  mlt_ord.trans _ _ _ hl (hY.le mlt_ord hk hk2)
theorem above_gt {X : List Mv} (hX : SortedB mlt X) {y : Mv} {h : Nat} (hh : h < X.length) (hl : mlt y (elt X h) = true) : ∀ k, h ≤ k → k < X.length → mlt (elt X k) y = false := fun k hk hk2 =>
  mlt_ord.trans _ _ _ (mlt_ord.asym _ _ hl) (hX.le mlt_ord hk hk2)
theorem bel_leM {X : List Mv} (hX : SortedB mlt X) {y : Mv} {h : Nat} (hh : h < X.length) (hl : mlt y (elt X h) = false) : ∀ k, k ≤ h → mlt y (elt X k) = false := fun k hk =>
  mlt_ord.trans _ _ _ (hX.le mlt_ord hk hh) hl
/-- Where two lists in order are cut: by the search's two ends. -/
theorem sym_cut {X Y : List Mv} (hX : SortedB mlt X) (hY : SortedB mlt Y) {a m b mid u : Nat} (hm : m = a + X.length) (hb : b = m + Y.length) (hmid : mid = (a + b) / 2) (L : List Mv)
    (hLX : ∀ k, k < X.length → elt L (a + k) = elt X k) (hLY : ∀ k, k < Y.length → elt L (m + k) = elt Y k)
    (hu1 : (if mid < m then mid + m - b else a) ≤ u) (hu2 : u ≤ (if mid < m then mid else m))
    (c1 : u = (if mid < m then mid + m - b else a) ∨ mlt (elt L (mid + m - u)) (elt L (u - 1)) = false) (c2 : u = (if mid < m then mid else m) ∨ mlt (elt L (mid + m - 1 - u)) (elt L u) = true) :
    ∀ x ∈ X.take (u - a) ++ Y.take (mid - u), ∀ y ∈ X.drop (u - a) ++ Y.drop (mid - u), mlt y x = false := by
  have hua : a ≤ u ∧ u ≤ m ∧ u ≤ mid ∧ mid - u ≤ Y.length := by
    split at hu1 <;> split at hu2 <;> omega
  refine cut_ahead mlt_ord hX hY (by omega) (by omega) ?_ ?_
  · rcases c1 with c1 | c1
    · split at c1
      · right; left; omega
      · left; omega
    · by_cases h0 : u - a = 0
      · exact Or.inl h0
      · by_cases h1 : mid - u = Y.length
        · exact Or.inr (Or.inl h1)
        · right; right
          have e1 := hLY (mid - u) (by omega)
          have e2 := hLX (u - a - 1) (by omega)
          rw [show m + (mid - u) = mid + m - u by omega] at e1
          rw [show a + (u - a - 1) = u - 1 by omega] at e2
          rw [← e1, ← e2]; exact c1
  · rcases c2 with c2 | c2
    · split at c2
      · right; left; omega
      · left; omega
    · by_cases h0 : u - a = X.length
      · exact Or.inl h0
      · by_cases h1 : mid - u = 0
        · exact Or.inr (Or.inl h1)
        · right; right
          have e1 := hLY (mid - u - 1) (by omega)
          have e2 := hLX (u - a) (by omega)
          rw [show m + (mid - u - 1) = mid + m - 1 - u by omega] at e1
          rw [show a + (u - a) = u by omega] at e2
          rw [← e1, ← e2]; exact c2
theorem swap_up (P S : List Mv) (x : Mv) (Y : List Mv) {t : Nat} (ht : t < Y.length) :
    swap2 (P ++ (Y.take t ++ (x :: (Y.drop t ++ S)))) (P.length + t) (P.length + t + 1) = P ++ (Y.take (t + 1) ++ (x :: (Y.drop (t + 1) ++ S))) := by
  have e : (P ++ Y.take t).length = P.length + t := by rw [List.length_append, List.length_take]; omega
  have := swap2_mid (P ++ Y.take t) (Y.drop (t + 1) ++ S) x (elt Y t)
  rw [e] at this
  rw [drop_head ht, take_snoc ht]
  simpa using this
theorem swap_down (P S : List Mv) (y : Mv) (X : List Mv) {t : Nat} (ht : t < X.length) :
    swap2 (P ++ (X.take (t + 1) ++ (y :: (X.drop (t + 1) ++ S)))) (P.length + t + 1) (P.length + t) = P ++ (X.take t ++ (y :: (X.drop t ++ S))) := by
  have e : (P ++ X.take t).length = P.length + t := by rw [List.length_append, List.length_take]; omega
  have := swap2_mid' (P ++ X.take t) (X.drop (t + 1) ++ S) (elt X t) y
  rw [e] at this
  rw [drop_head ht, take_snoc ht]
  simpa using this
set_option maxRecDepth 100000 in
set_option maxHeartbeats 16000000 in
theorem sym_one (q n cap : Nat) (hnl : n ≤ 1000000) (P X Y S : List Mv) (w : World) (hx0 : 0 < X.length) (hy0 : 0 < Y.length) (hX : SortedB mlt X) (hY : SortedB mlt Y) (hM : MvIn w q (P ++ (X ++ (Y ++ S)))) (hn : P.length + X.length + Y.length + S.length = n)
    (a m b : Nat) (ha : a = P.length) (hm : m = a + X.length) (hb : b = m + Y.length) (h1 : m - a = 1) :
    Calls Tryz.prog 149 #[.slice (some ⟨q, 0, none⟩) n cap, .int .i64 a, .int .i64 m, .int .i64 b, .func (.func 59) #[] #[]] w (SrtPost w q P (X ++ Y) S) := by
  have HXS := Lib.hid hX
  have HYS := Lib.hid hY
  have HP : Hid (∀ Z w', Z.Perm (X ++ Y) → SortedB mlt Z → MvIn w' q (P ++ (Z ++ S)) → Kept (fun b => b = q) w w' → SrtPost w q P (X ++ Y) S (.returned (.tuple #[])) w') := fun Z w' h1 h2 h3 h4 => ⟨rfl, Z, h1, h2, h3, h4⟩
  have HLX : Hid (∀ k, k < X.length → elt (P ++ (X ++ (Y ++ S))) (a + k) = elt X k) := fun k hk => by rw [ha]; exact sym_x hk
  have HLY : Hid (∀ k, k < Y.length → elt (P ++ (X ++ (Y ++ S))) (m + k) = elt Y k) := fun k hk => by rw [hm, ha]; exact sym_y hk
  have HXL : Hid (X.length = m - a) := show _ = _ by omega
  have HYL : Hid (Y.length = b - m) := show _ = _ by omega
  have HPL : Hid (P.length = a) := show _ = _ by omega
  have HSL : Hid (S.length = n - b) := show _ = _ by omega
  have ham : a < m := by omega
  have hmb : m < b := by omega
  have hbn : b ≤ n := by omega
  have HM := Lib.hid hM
  have hLl : (P ++ (X ++ (Y ++ S))).length = n := by rw [sym_len]; exact hn
  obtain ⟨L, hL⟩ : ∃ z, z = P ++ (X ++ (Y ++ S)) := ⟨_, rfl⟩
  have HLE := Lib.hid hL
  rw [← hL] at HM HLX HLY hLl
  have HLL := Lib.hid hLl
  clear hL hLl hx0 hy0 hX hY hM hn ha hm hb
  go_enter Tryz.func149, Tryz.ntmps149
  have h1I : (m : Int) - (a : Int) = 1 := by omega
  have HOX : Hid (X = [elt L a]) := show _ = _ by
    have h2 := HLX.out 0 (by rw [HXL.out]; omega)
    have h3 := HXL.out
    rw [Nat.add_zero] at h2
    rw [h1] at h3
    obtain ⟨x, rfl⟩ := List.length_eq_one_iff.1 h3
    rw [h2]; rfl
  go_wp2_with fail
  go_loopw [10, 11] (fun vi vj wr => ∃ u r : Nat, vi = .int .i64 u ∧ vj = .int .i64 r ∧ m ≤ u ∧ u ≤ r ∧ r ≤ b ∧ Hid (∀ k, k < u - m → mlt (elt Y k) (elt L a) = true) ∧ Hid (∀ k, r - m ≤ k → k < Y.length → mlt (elt Y k) (elt L a) = false) ∧ Hid (Below w.heap.size w wr)) (fun vi vj _ => (intOf vj).toNat - (intOf vi).toNat)
  case atStart => exact ⟨m, b, rfl, rfl, Nat.le_refl _, by omega, Nat.le_refl _, fun k hk => absurd hk (by omega), fun k hk hk2 => absurd hk2 (by rw [HYL.out]; omega), Below.refl _ _⟩
  case round =>
    obtain ⟨u, r, rfl, rfl, hu1, hur, hrb, hlo, hhi, hB⟩ := hrel
    have hI := Lib.hid (HM.out.below hB.out)
    by_cases hlt : u < r
    · have hltI : (u : Int) < (r : Int) := by omega
      have hcn : (u + r) / 2 < n := by omega
      have hcn2 : a < n := by omega
      have HLn := HLL.out
      have hYk := HLY.out ((u + r) / 2 - m) (by rw [HYL.out]; omega)
      rw [show m + ((u + r) / 2 - m) = (u + r) / 2 by omega] at hYk
      have HYK := Lib.hid hYk
      clear hYk
      have hcs1 : u ≤ (u + r) / 2 := by omega
      have hcs2 : (u + r) / 2 < r := by omega
      obtain ⟨x0, x1, x2⟩ := hI.out.all ((u + r) / 2) (by omega)
      obtain ⟨y0, y1, y2⟩ := hI.out.all (a) (by omega)
      have hqz := hI.out.lt
      obtain ⟨x, hx⟩ : ∃ z, z = elt L ((u + r) / 2) := ⟨_, rfl⟩
      obtain ⟨y, hy⟩ : ∃ z, z = elt L (a) := ⟨_, rfl⟩
      have HX := Lib.hid hx
      have HY := Lib.hid hy
      rw [← hx] at x0 x1 x2
      rw [← hy] at y0 y1 y2
      clear hx hy
      obtain ⟨xg, xf, xt⟩ := x
      obtain ⟨yg, yf, yt⟩ := y
      dsimp only at x0 x1 x2 y0 y1 y2
      have CO := Lib.hid fun w' => plan2_any w' (bs xg) (bs yg) xf xt yf yt
      rw [bs_toList, bs_toList] at CO
      obtain ⟨z, hz⟩ : ∃ z, z = cmpK xg xt yg yt := ⟨_, rfl⟩
      have HZ2 : Hid (mlt (elt L ((u + r) / 2)) (elt L (a)) = decide (z < 0)) := show _ = _ by rw [← HX.out, ← HY.out, mlt_cmp, hz]
      rw [← hz] at CO
      clear hz
      clear HLn
      by_cases hz0 : z < 0
      · have hLO : Hid (∀ k, k < (u + r) / 2 + 1 - m → mlt (elt Y k) (elt L a) = true) := fun k hk => below_lt HYS.out (h := (u + r) / 2 - m) (by rw [HYL.out]; omega) (by rw [← HYK.out, HZ2.out]; simpa using hz0) k (by omega)
        go_wp2_with fail
        refine wp_region_calm (by kernel_rfl) (by kernel_rfl) ?_
        repeat (first | (go_big_quiet_step ((go_at_call 59; exact calls_calm (CO.out _)))) | (refine wpQuiet_step (fun K hK => ?_); go_simp; first | (refine hK _ ?_; clear hK K) | (apply Exists.intro; refine ⟨fun _ => ?_, hK _ ?_⟩; (go_at_call 59; exact calls_calm (CO.out _)); clear hK K)))
        refine wpQuiet_nil ?_
        intro _ hw'
        obtain ⟨xq, hw''⟩ := hw'
        subst hw''
        go_wp2_with fail
        go_roundw
        case rel => go_light; exact ⟨(u + r) / 2 + 1, r, by go_num, rfl, by omega, by omega, hrb, hLO.out, hhi.out, bel_below hB.out xq.below⟩
        case measure => go_light; simp [intOf]; omega
      · have hHI : Hid (∀ k, (u + r) / 2 - m ≤ k → k < Y.length → mlt (elt Y k) (elt L a) = false) := above_ge HYS.out (h := (u + r) / 2 - m) (by rw [HYL.out]; omega) (by rw [← HYK.out, HZ2.out]; simpa using hz0)
        go_wp2_with fail
        refine wp_region_calm (by kernel_rfl) (by kernel_rfl) ?_
        repeat (first | (go_big_quiet_step ((go_at_call 59; exact calls_calm (CO.out _)))) | (refine wpQuiet_step (fun K hK => ?_); go_simp; first | (refine hK _ ?_; clear hK K) | (apply Exists.intro; refine ⟨fun _ => ?_, hK _ ?_⟩; (go_at_call 59; exact calls_calm (CO.out _)); clear hK K)))
        refine wpQuiet_nil ?_
        intro _ hw'
        obtain ⟨xq, hw''⟩ := hw'
        subst hw''
        go_wp2_with fail
        go_roundw
        case rel => go_light; exact ⟨u, (u + r) / 2, rfl, by go_num, hu1, by omega, by omega, hlo.out, hHI.out, bel_below hB.out xq.below⟩
        case measure => go_light; simp [intOf]; omega
    · obtain rfl : u = r := by omega
      have hltI : ¬ (u : Int) < (u : Int) := by omega
      have hOX : Hid (OneX P S (elt L a) Y (u - m)) := ⟨by rw [HYL.out]; omega, hlo.out, hhi.out⟩
      have hSO := Lib.hid (hOX.out.sorted HYS.out)
      have K0 : Hid (Kept (fun b => b = q) w wr) := (Kept.refl _ w).below hB.out
      have HI0 : Hid (MvIn wr q (P ++ (Y.take 0 ++ (elt L a :: (Y.drop 0 ++ S))))) := show MvIn _ _ _ by
        have := hI.out
        rw [HLE.out, HOX.out] at this
        simpa using this
      clear hI hlo hhi hB
      go_wp2_with fail
      go_loopw [13] (fun vk wk => ∃ k t : Nat, vk = .int .i64 k ∧ k ≤ a + t ∧ a + t ≤ k ∧ t ≤ u - m ∧ Hid (MvIn wk q (P ++ (Y.take t ++ (elt L a :: (Y.drop t ++ S))))) ∧ Hid (Kept (fun b => b = q) w wk)) (fun vk _ => u - (intOf vk).toNat)
      case atStart => exact ⟨a, 0, rfl, by omega, by omega, by omega, HI0.out, K0.out⟩
      case round =>
        obtain ⟨k, t, rfl, hk1, hk2, ht, hIk, hKk⟩ := hrel
        by_cases hlk : k + 1 < u
        · have hlkI : (k : Int) < (u : Int) - 1 := by omega
          have hLl2 : (P ++ (Y.take t ++ (elt L a :: (Y.drop t ++ S)))).length = n := by
            have h5 := HPL.out; have h6 := HYL.out; have h7 := HSL.out; simp; omega
          have hSU : Hid (swap2 (P ++ (Y.take t ++ (elt L a :: (Y.drop t ++ S)))) k (k + 1) = P ++ (Y.take (t + 1) ++ (elt L a :: (Y.drop (t + 1) ++ S)))) := show _ = _ by
            have := swap_up P S (elt L a) Y (t := t) (by rw [HYL.out]; omega)
            rw [HPL.out, show a + t = k by omega] at this; exact this
          obtain ⟨M, hMe⟩ : ∃ z, z = P ++ (Y.take t ++ (elt L a :: (Y.drop t ++ S))) := ⟨_, rfl⟩
          rw [← hMe] at hSU hIk hLl2
          obtain ⟨k1, hk1e⟩ : ∃ z, z = k + 1 := ⟨_, rfl⟩
          have hk1I : (k : Int) + 1 = (k1 : Int) := by omega
          have hk1n : k1 < n := by omega
          have hkn : k < n := by omega
          have hkk : k < k1 := by omega
          rw [← hk1e] at hSU
          clear hMe hk1e
          obtain ⟨x0, x1, x2⟩ := hIk.out.all (k) (by omega)
          obtain ⟨y0, y1, y2⟩ := hIk.out.all (k1) (by omega)
          have hqz := hIk.out.lt
          have f0 := hIk.out.fz ((k) * 3)
          have f1 := hIk.out.fz ((k) * 3 + 1)
          have f2 := hIk.out.fz ((k) * 3 + 2)
          have g0 := hIk.out.fz ((k1) * 3)
          have g1 := hIk.out.fz ((k1) * 3 + 1)
          have g2 := hIk.out.fz ((k1) * 3 + 2)
          have HS : Hid (MvIn ((wr.setCells q ((k) * 3) (mvCells (elt M (k1)))).setCells q ((k1) * 3) (mvCells (elt M (k)))).drew q (swap2 M (k) (k1))) := (hIk.out.swap (by omega) (by omega)).drew
          have hKS : Hid (Kept (fun b => b = q) w ((wr.setCells q ((k) * 3) (mvCells (elt M (k1)))).setCells q ((k1) * 3) (mvCells (elt M (k)))).drew) := (hKk.out.trans (kept_swap _ _ _ _ _ rfl)).drew
          obtain ⟨ei, hei⟩ : ∃ z, z = elt M (k) := ⟨_, rfl⟩
          obtain ⟨ej, hej⟩ : ∃ z, z = elt M (k1) := ⟨_, rfl⟩
          rw [← hei] at x0 x1 x2
          rw [← hej] at y0 y1 y2
          rw [← hei, ← hej] at HS hKS
          clear hei hej
          obtain ⟨ig, ifr, it⟩ := ei
          obtain ⟨jg, jfr, jt⟩ := ej
          dsimp only at x0 x1 x2 y0 y1 y2
          have mixed : Tryz.prog.follows .mixedOrders = true := by kernel_rfl
          clear hLl2
          go_wp2_with fail
          go_big_region_o
          all_goals go_wp2_with fail
          go_roundw
          case rel => go_light; exact ⟨k1, t + 1, by first | rfl | go_num, by omega, by omega, by omega, (by show MvIn _ _ _; rw [← hSU.out]; exact HS.out), hKS.out⟩
          case measure => go_light; simp [intOf]; omega
        · have hlkI : ¬ (k : Int) < (u : Int) - 1 := by omega
          obtain rfl : t = u - m := by omega
          go_wp2_with fail
          (try simp only [Exit.inBlock, Exit.then]); refine bodyPost_ret (results_none rfl _ _ _) rfl ?_
          refine HP.out _ _ (by rw [HOX.out]; exact hSO.out.2) hSO.out.1 ?_ hKk.out
          simpa using hIk.out
set_option maxRecDepth 100000 in
set_option maxHeartbeats 16000000 in
theorem sym_two (q n cap : Nat) (hnl : n ≤ 1000000) (P X Y S : List Mv) (w : World) (hx0 : 0 < X.length) (hy0 : 0 < Y.length) (hX : SortedB mlt X) (hY : SortedB mlt Y) (hM : MvIn w q (P ++ (X ++ (Y ++ S)))) (hn : P.length + X.length + Y.length + S.length = n)
    (a m b : Nat) (ha : a = P.length) (hm : m = a + X.length) (hb : b = m + Y.length) (h1 : m - a ≠ 1) (h2 : b - m = 1) :
    Calls Tryz.prog 149 #[.slice (some ⟨q, 0, none⟩) n cap, .int .i64 a, .int .i64 m, .int .i64 b, .func (.func 59) #[] #[]] w (SrtPost w q P (X ++ Y) S) := by
  have HXS := Lib.hid hX
  have HYS := Lib.hid hY
  have HP : Hid (∀ Z w', Z.Perm (X ++ Y) → SortedB mlt Z → MvIn w' q (P ++ (Z ++ S)) → Kept (fun b => b = q) w w' → SrtPost w q P (X ++ Y) S (.returned (.tuple #[])) w') := fun Z w' h1 h2 h3 h4 => ⟨rfl, Z, h1, h2, h3, h4⟩
  have HLX : Hid (∀ k, k < X.length → elt (P ++ (X ++ (Y ++ S))) (a + k) = elt X k) := fun k hk => by rw [ha]; exact sym_x hk
  have HLY : Hid (∀ k, k < Y.length → elt (P ++ (X ++ (Y ++ S))) (m + k) = elt Y k) := fun k hk => by rw [hm, ha]; exact sym_y hk
  have HXL : Hid (X.length = m - a) := show _ = _ by omega
  have HYL : Hid (Y.length = b - m) := show _ = _ by omega
  have HPL : Hid (P.length = a) := show _ = _ by omega
  have HSL : Hid (S.length = n - b) := show _ = _ by omega
  have ham : a < m := by omega
  have hmb : m < b := by omega
  have hbn : b ≤ n := by omega
  have HM := Lib.hid hM
  have hLl : (P ++ (X ++ (Y ++ S))).length = n := by rw [sym_len]; exact hn
  obtain ⟨L, hL⟩ : ∃ z, z = P ++ (X ++ (Y ++ S)) := ⟨_, rfl⟩
  have HLE := Lib.hid hL
  rw [← hL] at HM HLX HLY hLl
  have HLL := Lib.hid hLl
  clear hL hLl hx0 hy0 hX hY hM hn ha hm hb
  go_enter Tryz.func149, Tryz.ntmps149
  have h1I : ((m : Int) - (a : Int) == 1) = false := beq_eq_false_iff_ne.2 (by omega)
  have h2I : (b : Int) - (m : Int) = 1 := by omega
  have HOY : Hid (Y = [elt L m]) := show _ = _ by
    have h2 := HLY.out 0 (by rw [HYL.out]; omega)
    have h3 := HYL.out
    rw [Nat.add_zero] at h2
    rw [show b - m = 1 by omega] at h3
    obtain ⟨y, rfl⟩ := List.length_eq_one_iff.1 h3
    rw [h2]; rfl
  go_wp2_with fail
  go_loopw [14, 15] (fun vi vj wr => ∃ u r : Nat, vi = .int .i64 u ∧ vj = .int .i64 r ∧ a ≤ u ∧ u ≤ r ∧ r ≤ m ∧ Hid (∀ k, k < u - a → mlt (elt L m) (elt X k) = false) ∧ Hid (∀ k, r - a ≤ k → k < X.length → mlt (elt X k) (elt L m) = false) ∧ Hid (Below w.heap.size w wr)) (fun vi vj _ => (intOf vj).toNat - (intOf vi).toNat)
  case atStart => exact ⟨a, m, rfl, rfl, Nat.le_refl _, by omega, Nat.le_refl _, fun k hk => absurd hk (by omega), fun k hk hk2 => absurd hk2 (by rw [HXL.out]; omega), Below.refl _ _⟩
  case round =>
    obtain ⟨u, r, rfl, rfl, hu1, hur, hrb, hlo, hhi, hB⟩ := hrel
    have hI := Lib.hid (HM.out.below hB.out)
    by_cases hlt : u < r
    · have hltI : (u : Int) < (r : Int) := by omega
      have hcn : (u + r) / 2 < n := by omega
      have hcn2 : m < n := by omega
      have HLn := HLL.out
      have hXk := HLX.out ((u + r) / 2 - a) (by rw [HXL.out]; omega)
      rw [show a + ((u + r) / 2 - a) = (u + r) / 2 by omega] at hXk
      have HXK := Lib.hid hXk
      clear hXk
      have hcs1 : u ≤ (u + r) / 2 := by omega
      have hcs2 : (u + r) / 2 < r := by omega
      obtain ⟨x0, x1, x2⟩ := hI.out.all (m) (by omega)
      obtain ⟨y0, y1, y2⟩ := hI.out.all ((u + r) / 2) (by omega)
      have hqz := hI.out.lt
      obtain ⟨x, hx⟩ : ∃ z, z = elt L (m) := ⟨_, rfl⟩
      obtain ⟨y, hy⟩ : ∃ z, z = elt L ((u + r) / 2) := ⟨_, rfl⟩
      have HX := Lib.hid hx
      have HY := Lib.hid hy
      rw [← hx] at x0 x1 x2
      rw [← hy] at y0 y1 y2
      clear hx hy
      obtain ⟨xg, xf, xt⟩ := x
      obtain ⟨yg, yf, yt⟩ := y
      dsimp only at x0 x1 x2 y0 y1 y2
      have CO := Lib.hid fun w' => plan2_any w' (bs xg) (bs yg) xf xt yf yt
      rw [bs_toList, bs_toList] at CO
      obtain ⟨z, hz⟩ : ∃ z, z = cmpK xg xt yg yt := ⟨_, rfl⟩
      have HZ2 : Hid (mlt (elt L (m)) (elt L ((u + r) / 2)) = decide (z < 0)) := show _ = _ by rw [← HX.out, ← HY.out, mlt_cmp, hz]
      rw [← hz] at CO
      clear hz
      clear HLn
      by_cases hz0 : z < 0
      · have hHI : Hid (∀ k, (u + r) / 2 - a ≤ k → k < X.length → mlt (elt X k) (elt L m) = false) := above_gt HXS.out (h := (u + r) / 2 - a) (by rw [HXL.out]; omega) (by rw [← HXK.out, HZ2.out]; simpa using hz0)
        go_wp2_with fail
        refine wp_region_calm (by kernel_rfl) (by kernel_rfl) ?_
        repeat (first | (go_big_quiet_step ((go_at_call 59; exact calls_calm (CO.out _)))) | (refine wpQuiet_step (fun K hK => ?_); go_simp; first | (refine hK _ ?_; clear hK K) | (apply Exists.intro; refine ⟨fun _ => ?_, hK _ ?_⟩; (go_at_call 59; exact calls_calm (CO.out _)); clear hK K)))
        refine wpQuiet_nil ?_
        intro _ hw'
        obtain ⟨xq, hw''⟩ := hw'
        subst hw''
        go_wp2_with fail
        go_roundw
        case rel => go_light; exact ⟨u, (u + r) / 2, rfl, by go_num, hu1, by omega, by omega, hlo.out, hHI.out, bel_below hB.out xq.below⟩
        case measure => go_light; simp [intOf]; omega
      · have hzb : (!decide (z < 0)) = true := by simpa using hz0
        have hLO : Hid (∀ k, k < (u + r) / 2 + 1 - a → mlt (elt L m) (elt X k) = false) := fun k hk => bel_leM HXS.out (h := (u + r) / 2 - a) (by rw [HXL.out]; omega) (by rw [← HXK.out, HZ2.out]; simpa using hz0) k (by omega)
        go_wp2_with fail
        refine wp_region_calm (by kernel_rfl) (by kernel_rfl) ?_
        repeat (first | (go_big_quiet_step ((go_at_call 59; exact calls_calm (CO.out _)))) | (refine wpQuiet_step (fun K hK => ?_); go_simp; first | (refine hK _ ?_; clear hK K) | (apply Exists.intro; refine ⟨fun _ => ?_, hK _ ?_⟩; (go_at_call 59; exact calls_calm (CO.out _)); clear hK K)))
        refine wpQuiet_nil ?_
        intro _ hw'
        obtain ⟨xq, hw''⟩ := hw'
        subst hw''
        go_wp2_with fail
        go_roundw
        case rel => go_light; exact ⟨(u + r) / 2 + 1, r, by go_num, rfl, by omega, by omega, hrb, hLO.out, hhi.out, bel_below hB.out xq.below⟩
        case measure => go_light; simp [intOf]; omega
    · obtain rfl : u = r := by omega
      have hltI : ¬ (u : Int) < (u : Int) := by omega
      have hSO : Hid (SortedB mlt (X.take (u - a) ++ elt L m :: X.drop (u - a)) ∧ (X.take (u - a) ++ elt L m :: X.drop (u - a)).Perm (elt L m :: X)) := put_sorted mlt_ord HXS.out (by rw [HXL.out]; omega) hlo.out hhi.out
      have K0 : Hid (Kept (fun b => b = q) w wr) := (Kept.refl _ w).below hB.out
      have HI0 : Hid (MvIn wr q (P ++ (X.take (m - a) ++ (elt L m :: (X.drop (m - a) ++ S))))) := show MvIn _ _ _ by
        have := hI.out
        rw [HLE.out, HOY.out] at this
        rw [List.take_of_length_le (by rw [HXL.out]; omega), List.drop_of_length_le (by rw [HXL.out]; omega)]
        simpa using this
      clear hI hlo hhi hB
      go_wp2_with fail
      go_loopw [17] (fun vk wk => ∃ k t : Nat, vk = .int .i64 k ∧ k ≤ a + t ∧ a + t ≤ k ∧ u - a ≤ t ∧ t ≤ m - a ∧ Hid (MvIn wk q (P ++ (X.take t ++ (elt L m :: (X.drop t ++ S))))) ∧ Hid (Kept (fun b => b = q) w wk)) (fun vk _ => (intOf vk).toNat)
      case atStart => exact ⟨m, m - a, rfl, by omega, by omega, by omega, by omega, HI0.out, K0.out⟩
      case round =>
        obtain ⟨k, t, rfl, hk1, hk2, ht1, ht2, hIk, hKk⟩ := hrel
        by_cases hlk : u < k
        · have hlkI : (u : Int) < (k : Int) := by omega
          obtain ⟨t, rfl⟩ : ∃ z, t = z + 1 := ⟨t - 1, by omega⟩
          have hLl2 : (P ++ (X.take (t + 1) ++ (elt L m :: (X.drop (t + 1) ++ S)))).length = n := by
            have h5 := HPL.out; have h6 := HXL.out; have h7 := HSL.out; simp; omega
          obtain ⟨k0, hk0e⟩ : ∃ z, z = k - 1 := ⟨_, rfl⟩
          have hSU : Hid (swap2 (P ++ (X.take (t + 1) ++ (elt L m :: (X.drop (t + 1) ++ S)))) k k0 = P ++ (X.take t ++ (elt L m :: (X.drop t ++ S)))) := show _ = _ by
            have := swap_down P S (elt L m) X (t := t) (by rw [HXL.out]; omega)
            rw [HPL.out, show a + t + 1 = k by omega, show a + t = k0 by omega] at this; exact this
          obtain ⟨M, hMe⟩ : ∃ z, z = P ++ (X.take (t + 1) ++ (elt L m :: (X.drop (t + 1) ++ S))) := ⟨_, rfl⟩
          rw [← hMe] at hSU hIk hLl2
          have hk1I : (k : Int) - 1 = (k0 : Int) := by omega
          have hk1n : k < n := by omega
          have hkn : k0 < n := by omega
          have hkk : k0 < k := by omega
          clear hMe hk0e
          obtain ⟨x0, x1, x2⟩ := hIk.out.all (k) (by omega)
          obtain ⟨y0, y1, y2⟩ := hIk.out.all (k0) (by omega)
          have hqz := hIk.out.lt
          have f0 := hIk.out.fz ((k) * 3)
          have f1 := hIk.out.fz ((k) * 3 + 1)
          have f2 := hIk.out.fz ((k) * 3 + 2)
          have g0 := hIk.out.fz ((k0) * 3)
          have g1 := hIk.out.fz ((k0) * 3 + 1)
          have g2 := hIk.out.fz ((k0) * 3 + 2)
          have HS : Hid (MvIn ((wr.setCells q ((k) * 3) (mvCells (elt M (k0)))).setCells q ((k0) * 3) (mvCells (elt M (k)))).drew q (swap2 M (k) (k0))) := (hIk.out.swap (by omega) (by omega)).drew
          have hKS : Hid (Kept (fun b => b = q) w ((wr.setCells q ((k) * 3) (mvCells (elt M (k0)))).setCells q ((k0) * 3) (mvCells (elt M (k)))).drew) := (hKk.out.trans (kept_swap _ _ _ _ _ rfl)).drew
          obtain ⟨ei, hei⟩ : ∃ z, z = elt M (k) := ⟨_, rfl⟩
          obtain ⟨ej, hej⟩ : ∃ z, z = elt M (k0) := ⟨_, rfl⟩
          rw [← hei] at x0 x1 x2
          rw [← hej] at y0 y1 y2
          rw [← hei, ← hej] at HS hKS
          clear hei hej
          obtain ⟨ig, ifr, it⟩ := ei
          obtain ⟨jg, jfr, jt⟩ := ej
          dsimp only at x0 x1 x2 y0 y1 y2
          have mixed : Tryz.prog.follows .mixedOrders = true := by kernel_rfl
          clear hLl2
          go_wp2_with fail
          go_big_region_o
          all_goals go_wp2_with fail
          go_roundw
          case rel => go_light; exact ⟨k0, t, by first | rfl | go_num, by omega, by omega, by omega, by omega, (by show MvIn _ _ _; rw [← hSU.out]; exact HS.out), hKS.out⟩
          case measure => go_light; simp [intOf]; omega
        · have hlkI : ¬ (u : Int) < (k : Int) := by omega
          obtain rfl : t = u - a := by omega
          go_wp2_with fail
          (try simp only [Exit.inBlock, Exit.then]); refine bodyPost_ret (results_none rfl _ _ _) rfl ?_
          refine HP.out _ _ (by rw [HOY.out]; exact hSO.out.2.trans (List.perm_append_comm (l₁ := [elt L m]))) hSO.out.1 ?_ hKk.out
          simpa using hIk.out
end Go.Proofs.YtahiahjhpakeiaaGreatDoor
end
section
namespace Go.Proofs.YtahiahjhpakeiaaGreatDoor
open Go.RowKit Go.Maps Go.Sort Go.WideShapes Go.ChangeShapes Go.Deep
set_option linter.unusedVariables false
set_option linter.unusedSimpArgs false
attribute [local go_sem] later_cell later_frozen later_lt cell_set_off cell_set_block keptT_cell keptT_lt

set_option maxRecDepth 100000 in
set_option maxHeartbeats 16000000 in
theorem sym_gen (q n cap : Nat) (hnl : n ≤ 1000000) (P X Y S : List Mv) (w : World) (hx0 : 0 < X.length) (hy0 : 0 < Y.length) (hX : SortedB mlt X) (hY : SortedB mlt Y) (hM : MvIn w q (P ++ (X ++ (Y ++ S)))) (hn : P.length + X.length + Y.length + S.length = n)
    (a m b : Nat) (ha : a = P.length) (hm : m = a + X.length) (hb : b = m + Y.length) (h1 : m - a ≠ 1) (h2 : b - m ≠ 1) (N : Nat) (hNb : b - a ≤ N)
    (ih : ∀ (P X Y S : List Mv) (w : World), X.length + Y.length < N → 0 < X.length → 0 < Y.length → SortedB mlt X → SortedB mlt Y → MvIn w q (P ++ (X ++ (Y ++ S))) → P.length + X.length + Y.length + S.length = n → ∀ a m b : Nat, a = P.length → m = a + X.length → b = m + Y.length →
      Calls Tryz.prog 149 #[.slice (some ⟨q, 0, none⟩) n cap, .int .i64 a, .int .i64 m, .int .i64 b, .func (.func 59) #[] #[]] w (SrtPost w q P (X ++ Y) S)) :
    Calls Tryz.prog 149 #[.slice (some ⟨q, 0, none⟩) n cap, .int .i64 a, .int .i64 m, .int .i64 b, .func (.func 59) #[] #[]] w (SrtPost w q P (X ++ Y) S) := by
  have IH := Lib.hid ih
  clear ih
  have HXS := Lib.hid hX
  have HYS := Lib.hid hY
  have HP : Hid (∀ Z w', Z.Perm (X ++ Y) → SortedB mlt Z → MvIn w' q (P ++ (Z ++ S)) → Kept (fun b => b = q) w w' → SrtPost w q P (X ++ Y) S (.returned (.tuple #[])) w') := fun Z w' h1 h2 h3 h4 => ⟨rfl, Z, h1, h2, h3, h4⟩
  have HLX : Hid (∀ k, k < X.length → elt (P ++ (X ++ (Y ++ S))) (a + k) = elt X k) := fun k hk => by rw [ha]; exact sym_x hk
  have HLY : Hid (∀ k, k < Y.length → elt (P ++ (X ++ (Y ++ S))) (m + k) = elt Y k) := fun k hk => by rw [hm, ha]; exact sym_y hk
  have HXL : Hid (X.length = m - a) := show _ = _ by omega
  have HYL : Hid (Y.length = b - m) := show _ = _ by omega
  have HPL : Hid (P.length = a) := show _ = _ by omega
  have HSL : Hid (S.length = n - b) := show _ = _ by omega
  have ham : a < m := by omega
  have hmb : m < b := by omega
  have hbn : b ≤ n := by omega
  have HM := Lib.hid hM
  have hLl : (P ++ (X ++ (Y ++ S))).length = n := by rw [sym_len]; exact hn
  obtain ⟨L, hL⟩ : ∃ z, z = P ++ (X ++ (Y ++ S)) := ⟨_, rfl⟩
  have HLE := Lib.hid hL
  rw [← hL] at HM HLX HLY hLl
  have HLL := Lib.hid hLl
  clear hL hLl hx0 hy0 hX hY hM hn ha hm hb
  go_enter Tryz.func149, Tryz.ntmps149
  have h1I : ((m : Int) - (a : Int) == 1) = false := beq_eq_false_iff_ne.2 (by omega)
  have h2I : ((b : Int) - (m : Int) == 1) = false := beq_eq_false_iff_ne.2 (by omega)
  have hba : b - a ≤ N := hNb
  obtain ⟨md, hmd⟩ : ∃ z, z = (a + b) / 2 := ⟨_, rfl⟩
  have HMD := Lib.hid hmd
  have hmd1 : 2 * md ≤ a + b := by omega
  have hmd2 : a + b ≤ 2 * md + 1 := by omega
  have hmdI : ((a : Int) + (b : Int)) / 2 = (md : Int) := by omega
  obtain ⟨lo, hlo⟩ : ∃ z, z = (if md < m then md + m - b else a) := ⟨_, rfl⟩
  obtain ⟨hi, hhi⟩ : ∃ z, z = (if md < m then md else m) := ⟨_, rfl⟩
  have HLO := Lib.hid hlo
  have HHI := Lib.hid hhi
  have hlo1 : a ≤ lo ∧ lo ≤ hi ∧ hi ≤ m ∧ hi ≤ md ∧ md + m ≤ b + lo := by split at hlo <;> split at hhi <;> omega
  obtain ⟨hl1, hl2, hl3, hl4, hl5⟩ := hlo1
  have hcase : (md < m ∧ (md : Int) + (m : Int) - (b : Int) = (lo : Int) ∧ md ≤ hi ∧ hi ≤ md) ∨ (¬ md < m ∧ lo ≤ a ∧ a ≤ lo ∧ hi ≤ m ∧ m ≤ hi) := by
    by_cases h : md < m
    · left; rw [if_pos h] at hlo hhi; omega
    · right; rw [if_neg h] at hlo hhi; omega
  clear hmd hlo hhi
  go_upto_if 140 with (fail)
  go_cut [20, 21] (fun s20 s21 wx => s20 = .int .i64 lo ∧ s21 = .int .i64 hi ∧ wx = w)
  case first =>
    rcases hcase with ⟨c1, c2, c3, c4⟩ | ⟨c1, c2, c3, c4, c5⟩
    · have hcI : (md : Int) < (m : Int) := by omega
      obtain rfl : md = hi := by omega
      go_wp2_with fail
      go_meet
      case rel => exact ⟨rfl, rfl, rfl⟩
    · have hcI : ¬ (md : Int) < (m : Int) := by omega
      obtain rfl : a = lo := by omega
      obtain rfl : m = hi := by omega
      go_wp2_with fail
      go_meet
      case rel => exact ⟨rfl, rfl, rfl⟩
  case rest =>
    obtain ⟨rfl, rfl, hwc⟩ := hcut
    replace hwc := hwc.symm
    subst hwc
    clear hcase
    go_wp2_with fail
    go_loopw [20, 21] (fun vi vj wr => ∃ u r : Nat, vi = .int .i64 u ∧ vj = .int .i64 r ∧ lo ≤ u ∧ u ≤ r ∧ r ≤ hi ∧ Hid (u = lo ∨ mlt (elt L (md + m - u)) (elt L (u - 1)) = false) ∧ Hid (r = hi ∨ mlt (elt L (md + m - 1 - r)) (elt L r) = true) ∧ Hid (Below w.heap.size w wr)) (fun vi vj _ => (intOf vj).toNat - (intOf vi).toNat)
    case atStart => exact ⟨lo, hi, rfl, rfl, Nat.le_refl _, hl2, Nat.le_refl _, Or.inl rfl, Or.inl rfl, Below.refl _ _⟩
    case round =>
      obtain ⟨u, r, rfl, rfl, hu1, hur, hrb, hq1, hq2, hB⟩ := hrel
      have hI := Lib.hid (HM.out.below hB.out)
      by_cases hlt : u < r
      · have hltI : (u : Int) < (r : Int) := by omega
        have hcs1 : u ≤ (u + r) / 2 := by omega
        have hcs2 : (u + r) / 2 < r := by omega
        have hcn : (u + r) / 2 < n := by omega
        have HLn := HLL.out
        obtain ⟨c, hc⟩ : ∃ z, z = (u + r) / 2 := ⟨_, rfl⟩
        have HC := Lib.hid hc
        have hcI : ((u : Int) + (r : Int)) / 2 = (c : Int) := by omega
        obtain ⟨pc, hpc⟩ : ∃ z, z = md + m - 1 - c := ⟨_, rfl⟩
        have HPC := Lib.hid hpc
        have hpcI : (md : Int) + (m : Int) - 1 - (c : Int) = (pc : Int) := by omega
        have hpn : pc < n := by omega
        rw [← hc] at hcs1 hcs2 hcn
        clear hc hpc
        obtain ⟨x0, x1, x2⟩ := hI.out.all (pc) (by omega)
        obtain ⟨y0, y1, y2⟩ := hI.out.all (c) (by omega)
        have hqz := hI.out.lt
        obtain ⟨x, hx⟩ : ∃ z, z = elt L (pc) := ⟨_, rfl⟩
        obtain ⟨y, hy⟩ : ∃ z, z = elt L (c) := ⟨_, rfl⟩
        have HX := Lib.hid hx
        have HY := Lib.hid hy
        rw [← hx] at x0 x1 x2
        rw [← hy] at y0 y1 y2
        clear hx hy
        obtain ⟨xg, xf, xt⟩ := x
        obtain ⟨yg, yf, yt⟩ := y
        dsimp only at x0 x1 x2 y0 y1 y2
        have CO := Lib.hid fun w' => plan2_any w' (bs xg) (bs yg) xf xt yf yt
        rw [bs_toList, bs_toList] at CO
        obtain ⟨z, hz⟩ : ∃ z, z = cmpK xg xt yg yt := ⟨_, rfl⟩
        have HZ2 : Hid (mlt (elt L (pc)) (elt L (c)) = decide (z < 0)) := show _ = _ by rw [← HX.out, ← HY.out, mlt_cmp, hz]
        rw [← hz] at CO
        clear hz
        clear HLn
        by_cases hz0 : z < 0
        · have hzb : (!decide (z < 0)) = false := by simpa using hz0
          as_aux_lemma =>
            have hQ2 : Hid (c = hi ∨ mlt (elt L (md + m - 1 - c)) (elt L c) = true) := Or.inr (by rw [← HPC.out, HZ2.out]; simpa using hz0)
            go_wp2_with fail
            refine wp_region_calm (by kernel_rfl) (by kernel_rfl) ?_
            repeat (first | (go_big_quiet_step ((go_at_call 59; exact calls_calm (CO.out _)))) | (refine wpQuiet_step (fun K hK => ?_); go_simp; first | (refine hK _ ?_; clear hK K) | (apply Exists.intro; refine ⟨fun _ => ?_, hK _ ?_⟩; (go_at_call 59; exact calls_calm (CO.out _)); clear hK K)))
            refine wpQuiet_nil ?_
            intro _ hw'
            obtain ⟨xq, hw''⟩ := hw'
            subst hw''
            go_wp2_with fail
            go_roundw
            case rel => go_light; exact ⟨u, c, rfl, by first | rfl | go_num, hu1, by omega, by omega, hq1.out, hQ2.out, bel_below hB.out xq.below⟩
            case measure => go_light; simp [intOf]; omega
        · have hzb : (!decide (z < 0)) = true := by simpa using hz0
          as_aux_lemma =>
            have hQ1 : Hid (c + 1 = lo ∨ mlt (elt L (md + m - (c + 1))) (elt L (c + 1 - 1)) = false) := Or.inr (by rw [show md + m - (c + 1) = pc by rw [HPC.out]; omega, Nat.add_sub_cancel, HZ2.out]; simpa using hz0)
            go_wp2_with fail
            refine wp_region_calm (by kernel_rfl) (by kernel_rfl) ?_
            repeat (first | (go_big_quiet_step ((go_at_call 59; exact calls_calm (CO.out _)))) | (refine wpQuiet_step (fun K hK => ?_); go_simp; first | (refine hK _ ?_; clear hK K) | (apply Exists.intro; refine ⟨fun _ => ?_, hK _ ?_⟩; (go_at_call 59; exact calls_calm (CO.out _)); clear hK K)))
            refine wpQuiet_nil ?_
            intro _ hw'
            obtain ⟨xq, hw''⟩ := hw'
            subst hw''
            go_wp2_with fail
            go_roundw
            case rel => go_light; exact ⟨c + 1, r, by go_num, rfl, by omega, by omega, hrb, hQ1.out, hq2.out, bel_below hB.out xq.below⟩
            case measure => go_light; simp [intOf]; omega
      · obtain rfl : u = r := by omega
        have hltI : ¬ (u : Int) < (u : Int) := by omega
        have hmid := Lib.hid (sym_cut HXS.out HYS.out (a := a) (m := m) (b := b) (mid := md) (u := u) (by rw [HXL.out]; omega) (by rw [HYL.out]; omega) HMD.out L HLX.out HLY.out (by rw [← HLO.out]; exact hu1) (by rw [← HHI.out]; exact hrb) (by rw [← HLO.out]; exact hq1.out) (by rw [← HHI.out]; exact hq2.out))
        obtain ⟨en, hen⟩ : ∃ z, z = md + m - u := ⟨_, rfl⟩
        have henI : (md : Int) + (m : Int) - (u : Int) = (en : Int) := by omega
        have hen1 : en + u ≤ md + m := by omega
        have hen2 : md + m ≤ en + u := by omega
        have K0 : Hid (Kept (fun b => b = q) w wr) := (Kept.refl _ w).below hB.out
        have HI0 : Hid (MvIn wr q ((P ++ X.take (u - a)) ++ (X.drop (u - a) ++ (Y.take (md - u) ++ (Y.drop (md - u) ++ S))))) := show MvIn _ _ _ by
          have := hI.out
          rw [HLE.out] at this
          have e : (P ++ X.take (u - a)) ++ (X.drop (u - a) ++ (Y.take (md - u) ++ (Y.drop (md - u) ++ S))) = P ++ (X ++ (Y ++ S)) := by
            rw [List.append_assoc, ← List.append_assoc (X.take _), List.take_append_drop, ← List.append_assoc (Y.take _), List.take_append_drop]
          rw [e]; exact this
        have HA1 : Hid ((X.take (u - a)).length = u - a) := show _ = _ by rw [List.length_take, HXL.out]; omega
        have HA2 : Hid ((X.drop (u - a)).length = m - u) := show _ = _ by rw [List.length_drop, HXL.out]; omega
        have HB1 : Hid ((Y.take (md - u)).length = md - u) := show _ = _ by rw [List.length_take, HYL.out]; omega
        have HB2 : Hid ((Y.drop (md - u)).length = b - en) := show _ = _ by rw [List.length_drop, HYL.out]; omega
        have SA1 := Lib.hid (HXS.out.take (u - a))
        have SA2 := Lib.hid (HXS.out.drop (u - a))
        have SB1 := Lib.hid (HYS.out.take (md - u))
        have SB2 := Lib.hid (HYS.out.drop (md - u))
        obtain ⟨A1, hA1⟩ : ∃ z, z = X.take (u - a) := ⟨_, rfl⟩
        obtain ⟨A2, hA2⟩ : ∃ z, z = X.drop (u - a) := ⟨_, rfl⟩
        obtain ⟨B1, hB1⟩ : ∃ z, z = Y.take (md - u) := ⟨_, rfl⟩
        obtain ⟨B2, hB2⟩ : ∃ z, z = Y.drop (md - u) := ⟨_, rfl⟩
        have HMG : Hid (∀ Z1 Z2 : List Mv, SortedB mlt Z1 → SortedB mlt Z2 → Z1.Perm (A1 ++ B1) → Z2.Perm (A2 ++ B2) → SortedB mlt (Z1 ++ Z2) ∧ (Z1 ++ Z2).Perm (X ++ Y)) := fun Z1 Z2 h1 h2 p1 p2 => by
          rw [hA1, hB1] at p1
          rw [hA2, hB2] at p2
          exact merged h1 h2 p1 p2 hmid.out
        rw [← hA1] at HI0 HA1 SA1
        rw [← hA2] at HI0 HA2 SA2
        rw [← hB1] at HI0 HB1 SB1
        rw [← hB2] at HI0 HB2 SB2
        clear hA1 hA2 hB1 hB2 hmid hI hB hq1 hq2 hen HLX HLY HLO HHI HMD
        have hum : u ≤ m := by omega
        have humd : u ≤ md := by omega
        have hau : a ≤ u := by omega
        have hmen : m ≤ en := by omega
        have henb : en ≤ b := by omega
        have hamd : a < md := by omega
        have hmdb : md < b := by omega
        have hmden : md ≤ en := by omega
        clear hl1 hl2 hl3 hl4 hl5 hu1 hrb hur
        as_aux_lemma =>
          obtain ⟨rb, hrb⟩ : ∃ z, z = decide (u < m ∧ m < en) := ⟨_, rfl⟩
          have HRB := Lib.hid hrb
          clear hrb
          go_upto_region 39 with (fail)
          go_cut [185] (fun s wx => s = .bool rb ∧ wx = wr)
          case first =>
            by_cases c1 : u < m
            · have c1I : (u : Int) < (m : Int) := by omega
              by_cases c2 : m < en
              · have c2I : (m : Int) < (en : Int) := by omega
                go_wp2_with fail
                go_meet
                case rel => exact ⟨by rw [HRB.out]; simp [c1, c2], rfl⟩
              · have c2I : ¬ (m : Int) < (en : Int) := by omega
                go_wp2_with fail
                go_meet
                case rel => exact ⟨by rw [HRB.out]; simp [c1, c2], rfl⟩
            · have c1I : ¬ (u : Int) < (m : Int) := by omega
              go_wp2_with fail
              go_meet
              case rel => exact ⟨by rw [HRB.out]; simp [c1], rfl⟩
          case rest =>
            obtain ⟨rfl, hwc⟩ := hcut
            replace hwc := hwc.symm
            subst hwc
            go_upto_if 185 with (fail)
            go_cut [] (fun wx => Hid (MvIn wx q (P ++ (A1 ++ (B1 ++ (A2 ++ (B2 ++ S)))))) ∧ Hid (Kept (fun b => b = q) w wx))
            case first =>
              cases rb with
              | true =>
                have hr := HRB.out
                as_aux_lemma =>
                  have hr2 : u < m ∧ m < en := of_decide_eq_true hr.symm
                  have CR := Lib.hid (rot_any wr q n cap (P ++ A1) A2 B1 (B2 ++ S) HI0.out (by simp only [List.length_append]; rw [HPL.out, HA1.out, HA2.out, HB1.out, HB2.out, HSL.out]; omega) hnl (by rw [HA2.out]; omega) (by rw [HB1.out]; omega) u m en (by rw [List.length_append, HPL.out, HA1.out]; omega) (by rw [HA2.out]; omega) (by rw [HB1.out]; omega) (.func (.func 59) #[] #[]))
                  clear hr hr2
                  go_wp2_with fail
                  refine CR.out.mono ?_
                  rintro e w2 ⟨rfl, hM2, hK2⟩
                  have M2 := Lib.hid hM2
                  have K2 := Lib.hid (K0.out.trans hK2)
                  clear hM2 hK2 CR
                  go_wp2_with fail
                  go_meet
                  case rel => exact ⟨by have := M2.out; rw [List.append_assoc] at this; exact this, K2.out⟩
              | false =>
                have M2 : Hid (MvIn wr q (P ++ (A1 ++ (B1 ++ (A2 ++ (B2 ++ S)))))) := show MvIn _ _ _ by
                  have hr := HRB.out
                  have hr2 : ¬ (u < m ∧ m < en) := of_decide_eq_false hr.symm
                  have h3 := HI0.out
                  rw [List.append_assoc] at h3
                  by_cases c : A2 = []
                  · rw [c] at h3 ⊢; exact h3
                  · have h4 : 0 < A2.length := List.length_pos_iff.2 c
                    rw [HA2.out] at h4
                    have h5 : B1 = [] := List.length_eq_zero_iff.1 (by rw [HB1.out]; omega)
                    rw [h5] at h3 ⊢; exact h3
                go_wp2_with fail
                go_meet
                case rel => exact ⟨M2.out, K0.out⟩
            case rest =>
              as_aux_lemma =>
                obtain ⟨hM2, hK2⟩ := hcut
                clear HRB HI0 K0
                have M2 := hM2
                have K2 := hK2
                clear hM2 hK2
                obtain ⟨rb2, hrb⟩ : ∃ z, z = decide (a < u ∧ u < md) := ⟨_, rfl⟩
                have HRB := Lib.hid hrb
                clear hrb
                go_upto_region 41 with (fail)
                go_cut [199] (fun s wx => s = .bool rb2 ∧ wx = wc)
                case first =>
                  by_cases c1 : a < u
                  · have c1I : (a : Int) < (u : Int) := by omega
                    by_cases c2 : u < md
                    · have c2I : (u : Int) < (md : Int) := by omega
                      go_wp2_with fail
                      go_meet
                      case rel => exact ⟨by rw [HRB.out]; simp [c1, c2], rfl⟩
                    · have c2I : ¬ (u : Int) < (md : Int) := by omega
                      go_wp2_with fail
                      go_meet
                      case rel => exact ⟨by rw [HRB.out]; simp [c1, c2], rfl⟩
                  · have c1I : ¬ (a : Int) < (u : Int) := by omega
                    go_wp2_with fail
                    go_meet
                    case rel => exact ⟨by rw [HRB.out]; simp [c1], rfl⟩
                case rest =>
                  obtain ⟨rfl, hwc⟩ := hcut
                  subst hwc
                  go_upto_if 199 with (fail)
                  go_cut [] (fun wx => ∃ Z1 : List Mv, Hid (Z1.Perm (A1 ++ B1) ∧ SortedB mlt Z1) ∧ Hid (MvIn wx q (P ++ (Z1 ++ (A2 ++ (B2 ++ S))))) ∧ Hid (Kept (fun b => b = q) w wx))
                  case first =>
                    cases rb2 with
                    | true =>
                      have hr := HRB.out
                      as_aux_lemma =>
                        have hr2 : a < u ∧ u < md := of_decide_eq_true hr.symm
                        have CR := Lib.hid (IH.out P A1 B1 (A2 ++ (B2 ++ S)) _ (by rw [HA1.out, HB1.out]; omega) (by rw [HA1.out]; omega) (by rw [HB1.out]; omega) SA1.out SB1.out M2.out (by simp only [List.length_append]; rw [HPL.out, HA1.out, HA2.out, HB1.out, HB2.out, HSL.out]; omega) a u md HPL.out.symm (by rw [HA1.out]; omega) (by rw [HB1.out]; omega))
                        clear hr hr2
                        go_wp2_with fail
                        refine CR.out.mono ?_
                        rintro e w3 ⟨rfl, Z1, hz1, hz2, hM3, hK3⟩
                        have M3 := Lib.hid hM3
                        have K3 := Lib.hid (K2.out.trans hK3)
                        have Z3 : Hid (Z1.Perm (A1 ++ B1) ∧ SortedB mlt Z1) := ⟨hz1, hz2⟩
                        clear hM3 hK3 hz1 hz2 CR
                        go_wp2_with fail
                        go_meet
                        case rel => exact ⟨Z1, Z3.out, M3.out, K3.out⟩
                    | false =>
                      have Z3 : Hid ((A1 ++ B1).Perm (A1 ++ B1) ∧ SortedB mlt (A1 ++ B1)) := show _ ∧ _ by
                        refine ⟨List.Perm.refl _, ?_⟩
                        have hr := HRB.out
                        have hr2 : ¬ (a < u ∧ u < md) := of_decide_eq_false hr.symm
                        by_cases c : A1 = []
                        · rw [c]; exact SB1.out
                        · have h4 : 0 < A1.length := List.length_pos_iff.2 c
                          rw [HA1.out] at h4
                          have h5 : B1 = [] := List.length_eq_zero_iff.1 (by rw [HB1.out]; omega)
                          rw [h5, List.append_nil]; exact SA1.out
                      have M3 : Hid (MvIn _ q (P ++ ((A1 ++ B1) ++ (A2 ++ (B2 ++ S))))) := show MvIn _ _ _ by
                        have := M2.out
                        rwa [← List.append_assoc A1] at this
                      go_wp2_with fail
                      go_meet
                      case rel => exact ⟨A1 ++ B1, Z3.out, M3.out, K2.out⟩
                  case rest =>
                    as_aux_lemma =>
                      obtain ⟨Z1, hZ1, hM3, hK3⟩ := hcut
                      clear HRB M2 K2
                      have HZL : Hid (Z1.length = md - a) := show _ = _ by rw [hZ1.out.1.length_eq, List.length_append, HA1.out, HB1.out]; omega
                      obtain ⟨rb3, hrb⟩ : ∃ z, z = decide (md < en ∧ en < b) := ⟨_, rfl⟩
                      have HRB := Lib.hid hrb
                      clear hrb
                      obtain ⟨w3, hw3⟩ : ∃ z, z = wc := ⟨_, rfl⟩
                      rw [← hw3] at hM3 hK3 ⊢
                      clear hw3 wc
                      go_upto_region 43 with (fail)
                      go_cut [213] (fun s wx => s = .bool rb3 ∧ wx = w3)
                      case first =>
                        by_cases c1 : md < en
                        · have c1I : (md : Int) < (en : Int) := by omega
                          by_cases c2 : en < b
                          · have c2I : (en : Int) < (b : Int) := by omega
                            go_wp2_with fail
                            go_meet
                            case rel => exact ⟨by rw [HRB.out]; simp [c1, c2], rfl⟩
                          · have c2I : ¬ (en : Int) < (b : Int) := by omega
                            go_wp2_with fail
                            go_meet
                            case rel => exact ⟨by rw [HRB.out]; simp [c1, c2], rfl⟩
                        · have c1I : ¬ (md : Int) < (en : Int) := by omega
                          go_wp2_with fail
                          go_meet
                          case rel => exact ⟨by rw [HRB.out]; simp [c1], rfl⟩
                      case rest =>
                        obtain ⟨rfl, hwc⟩ := hcut
                        replace hwc := hwc.symm
                        subst hwc
                        cases rb3 with
                        | true =>
                          have hr := HRB.out
                          have hr2 : md < en ∧ en < b := of_decide_eq_true hr.symm
                          have CR := Lib.hid (IH.out (P ++ Z1) A2 B2 S w3 (by rw [HA2.out, HB2.out]; omega) (by rw [HA2.out]; omega) (by rw [HB2.out]; omega) SA2.out SB2.out (by have := hM3.out; rwa [← List.append_assoc] at this) (by simp only [List.length_append]; rw [HPL.out, HZL.out, HA2.out, HB2.out, HSL.out]; omega) md en b (by rw [List.length_append, HPL.out, HZL.out]; omega) (by rw [HA2.out]; omega) (by rw [HB2.out]; omega))
                          clear hr hr2
                          go_wp2_with fail
                          refine CR.out.mono ?_
                          rintro e w4 ⟨rfl, Z2, hz1, hz2, hM4, hK4⟩
                          have M4 : Hid (MvIn w4 q (P ++ ((Z1 ++ Z2) ++ S))) := show MvIn _ _ _ by simpa using hM4
                          have K4 := Lib.hid (hK3.out.trans hK4)
                          have Z4 := Lib.hid (HMG.out Z1 Z2 hZ1.out.2 hz2 hZ1.out.1 hz1)
                          clear hM4 hK4 hz1 hz2 CR
                          go_wp2_with fail
                          go_end0
                          exact HP.out (Z1 ++ Z2) _ Z4.out.2 Z4.out.1 M4.out K4.out
                        | false =>
                          have Z4 : Hid (SortedB mlt (Z1 ++ (A2 ++ B2)) ∧ (Z1 ++ (A2 ++ B2)).Perm (X ++ Y)) := show _ ∧ _ by
                            refine HMG.out Z1 (A2 ++ B2) hZ1.out.2 ?_ hZ1.out.1 (List.Perm.refl _)
                            have hr := HRB.out
                            have hr2 : ¬ (md < en ∧ en < b) := of_decide_eq_false hr.symm
                            by_cases c : A2 = []
                            · rw [c]; exact SB2.out
                            · have h4 : 0 < A2.length := List.length_pos_iff.2 c
                              rw [HA2.out] at h4
                              have h5 : B2 = [] := List.length_eq_zero_iff.1 (by rw [HB2.out]; omega)
                              rw [h5, List.append_nil]; exact SA2.out
                          have M4 : Hid (MvIn w3 q (P ++ ((Z1 ++ (A2 ++ B2)) ++ S))) := show MvIn _ _ _ by simpa using hM3.out
                          go_wp2_with fail
                          go_end0
                          exact HP.out _ _ Z4.out.2 Z4.out.1 M4.out hK3.out
theorem sym_any (q n cap : Nat) (hnl : n ≤ 1000000) : ∀ (N : Nat) (P X Y S : List Mv) (w : World), X.length + Y.length < N → 0 < X.length → 0 < Y.length → SortedB mlt X → SortedB mlt Y → MvIn w q (P ++ (X ++ (Y ++ S))) → P.length + X.length + Y.length + S.length = n →
    ∀ a m b : Nat, a = P.length → m = a + X.length → b = m + Y.length →
    Calls Tryz.prog 149 #[.slice (some ⟨q, 0, none⟩) n cap, .int .i64 a, .int .i64 m, .int .i64 b, .func (.func 59) #[] #[]] w (SrtPost w q P (X ++ Y) S)
  | 0, _, _, _, _, _, h => absurd h (Nat.not_lt_zero _)
  | N + 1, P, X, Y, S, w, hN => fun hx0 hy0 hX hY hM hn a m b ha hm hb => by
    by_cases h1 : m - a = 1
    · exact sym_one q n cap hnl P X Y S w hx0 hy0 hX hY hM hn a m b ha hm hb h1
    · by_cases h2 : b - m = 1
      · exact sym_two q n cap hnl P X Y S w hx0 hy0 hX hY hM hn a m b ha hm hb h1 h2
      · exact sym_gen q n cap hnl P X Y S w hx0 hy0 hX hY hM hn a m b ha hm hb h1 h2 N (by omega) (sym_any q n cap hnl N)
end Go.Proofs.YtahiahjhpakeiaaGreatDoor
end
section
namespace Go.Proofs.YtahiahjhpakeiaaGreatDoor
open Go.RowKit Go.Maps Go.Sort Go.WideShapes Go.ChangeShapes Go.Deep
set_option linter.unusedVariables false
set_option linter.unusedSimpArgs false
attribute [local go_sem] later_cell later_frozen later_lt cell_set_off cell_set_block keptT_cell keptT_lt

/-- Blocks of one length, each in order. -/
def BlkOk (s : Nat) (Bs : List (List Mv)) : Prop := ∀ X ∈ Bs, X.length = s ∧ SortedB mlt X
theorem BlkOk.snoc {s : Nat} {Bs : List (List Mv)} (h : BlkOk s Bs) {Z : List Mv} (hl : Z.length = s) (hs : SortedB mlt Z) : BlkOk s (Bs ++ [Z]) := fun X hX => by
  rcases List.mem_append.1 hX with h1 | h1
  · exact h X h1
  · simp at h1; subst h1; exact ⟨hl, hs⟩
theorem flatten_snoc (Bs : List (List Mv)) (Z : List Mv) : (Bs ++ [Z]).flatten = Bs.flatten ++ Z := by simp
/-- The first blocks are in order, then comes what isn't. -/
structure Stb0 (l : List Mv) (a : Nat) (M : List Mv) : Prop where
  ex : ∃ Bs R, BlkOk 20 Bs ∧ M = Bs.flatten ++ R ∧ a = Bs.flatten.length
  perm : M.Perm l
/-- All is in blocks of one length, but for what is left. -/
structure Stb1 (l : List Mv) (s : Nat) (M : List Mv) : Prop where
  ex : ∃ Bs T, BlkOk s Bs ∧ M = Bs.flatten ++ T ∧ T.length < s ∧ SortedB mlt T
  perm : M.Perm l
/-- The first blocks are of twice the length. -/
structure Stb2 (l : List Mv) (s a : Nat) (M : List Mv) : Prop where
  ex : ∃ Cs Bs T, BlkOk (2 * s) Cs ∧ BlkOk s Bs ∧ M = Cs.flatten ++ (Bs.flatten ++ T) ∧ a = Cs.flatten.length ∧ T.length < s ∧ SortedB mlt T
  perm : M.Perm l
section
variable {l M : List Mv} {a s : Nat}
theorem Stb0.start (l : List Mv) : Stb0 l 0 l := ⟨⟨[], l, by simp [BlkOk], by simp, by simp⟩, List.Perm.refl _⟩
theorem perm_mid {P X Z S l : List Mv} (h : (P ++ (X ++ S)).Perm l) (hz : Z.Perm X) : (P ++ (Z ++ S)).Perm l := (List.Perm.append_left P (List.Perm.append_right S hz)).trans h
/-- One block more. -/
theorem Stb0.open (h : Stb0 l a M) (hb : a + 20 ≤ l.length) : ∃ P X S, M = P ++ (X ++ S) ∧ P.length = a ∧ X.length = 20 ∧ P.length + X.length + S.length = l.length ∧ ∀ Z, Z.Perm X → SortedB mlt Z → Stb0 l (a + 20) (P ++ (Z ++ S)) := by
  obtain ⟨⟨Bs, R, h1, h2, h3⟩, hp⟩ := h
  have hl := hp.length_eq
  have hl2 := congrArg List.length h2
  rw [List.length_append] at hl2
  have hR : R.length = l.length - a := by omega
  have e : R = R.take 20 ++ R.drop 20 := (List.take_append_drop _ _).symm
  refine ⟨Bs.flatten, R.take 20, R.drop 20, by rw [← e]; exact h2, h3.symm, by rw [List.length_take]; omega, by rw [List.length_take, List.length_drop]; omega, fun Z hz hs => ?_⟩
  have hZl : Z.length = 20 := by rw [hz.length_eq, List.length_take]; omega
  refine ⟨⟨Bs ++ [Z], R.drop 20, h1.snoc hZl hs, by rw [flatten_snoc, List.append_assoc], by rw [flatten_snoc, List.length_append]; omega⟩, ?_⟩
  refine perm_mid (X := R.take 20) ?_ hz
  rw [← e, ← h2]; exact hp
/-- The last one. -/
theorem Stb0.last (h : Stb0 l a M) (hb : l.length < a + 20) : ∃ P X, M = P ++ (X ++ []) ∧ P.length = a ∧ P.length + X.length + 0 = l.length ∧ ∀ Z, Z.Perm X → SortedB mlt Z → Stb1 l 20 (P ++ (Z ++ [])) := by
  obtain ⟨⟨Bs, R, h1, h2, h3⟩, hp⟩ := h
  have hl := hp.length_eq
  have hl2 := congrArg List.length h2
  rw [List.length_append] at hl2
  refine ⟨Bs.flatten, R, by rw [List.append_nil]; exact h2, h3.symm, by omega, fun Z hz hs => ?_⟩
  refine ⟨⟨Bs, Z, h1, by rw [List.append_nil], by rw [hz.length_eq]; omega, hs⟩, perm_mid (X := R) (by rw [List.append_nil, ← h2]; exact hp) hz⟩
theorem Stb1.two (h : Stb1 l s M) : Stb2 l s 0 M := by
  obtain ⟨⟨Bs, T, h1, h2, h3, h4⟩, hp⟩ := h
  exact ⟨⟨[], Bs, T, by simp [BlkOk], h1, by simpa using h2, by simp, h3, h4⟩, hp⟩
theorem Stb1.done (h : Stb1 l s M) (hs : l.length ≤ s) (h0 : 0 < s) : SortedB mlt M := by
  obtain ⟨⟨Bs, T, h1, h2, h3, h4⟩, hp⟩ := h
  have hl := hp.length_eq
  subst h2
  rcases Bs with _ | ⟨X, Bs⟩
  · simpa using h4
  · obtain ⟨hx, hxs⟩ := h1 X (by simp)
    simp only [List.flatten_cons, List.length_append] at hl
    have e1 : Bs.flatten = [] := List.length_eq_zero_iff.1 (by omega)
    have e2 : T = [] := List.length_eq_zero_iff.1 (by omega)
    simp [e1, e2]; exact hxs
/-- Two blocks to merge. -/
theorem Stb2.open (h : Stb2 l s a M) (h0 : 0 < s) (hb : a + 2 * s ≤ l.length) : ∃ P X Y S, M = P ++ (X ++ (Y ++ S)) ∧ P.length = a ∧ X.length = s ∧ Y.length = s ∧ SortedB mlt X ∧ SortedB mlt Y ∧ P.length + X.length + Y.length + S.length = l.length ∧
    ∀ Z, Z.Perm (X ++ Y) → SortedB mlt Z → Stb2 l s (a + 2 * s) (P ++ (Z ++ S)) := by
  obtain ⟨⟨Cs, Bs, T, h1, h2, h3, h4, h5, h6⟩, hp⟩ := h
  have hl := hp.length_eq
  have hl2 := congrArg List.length h3
  simp only [List.length_append] at hl2
  rcases Bs with _ | ⟨X, _ | ⟨Y, Bs⟩⟩
  · simp only [List.flatten_nil, List.length_nil] at hl2; omega
  · have := (h2 X (by simp)).1
    simp only [List.flatten_cons, List.flatten_nil, List.append_nil] at hl2; omega
  · obtain ⟨hx, hxs⟩ := h2 X (by simp)
    obtain ⟨hy, hys⟩ := h2 Y (by simp)
    simp only [List.flatten_cons, List.length_append] at hl2
    refine ⟨Cs.flatten, X, Y, Bs.flatten ++ T, by rw [h3]; simp, h4.symm, hx, hy, hxs, hys, by rw [List.length_append]; omega, fun Z hz hs => ?_⟩
    have hZl : Z.length = 2 * s := by rw [hz.length_eq, List.length_append]; omega
    refine ⟨⟨Cs ++ [Z], Bs, T, h1.snoc hZl hs, fun W hW => h2 W (by simp [hW]), by rw [flatten_snoc, List.append_assoc], by rw [flatten_snoc, List.length_append]; omega, h5, h6⟩, ?_⟩
    refine perm_mid (X := X ++ Y) ?_ hz
    rw [h3] at hp
    simpa using hp
/-- One block and what is left to merge. -/
theorem Stb2.last (h : Stb2 l s a M) (h0 : 0 < s) (hb : l.length < a + 2 * s) (hm : a + s < l.length) : ∃ P X Y, M = P ++ (X ++ (Y ++ [])) ∧ P.length = a ∧ X.length = s ∧ 0 < Y.length ∧ SortedB mlt X ∧ SortedB mlt Y ∧ P.length + X.length + Y.length + 0 = l.length ∧
    ∀ Z, Z.Perm (X ++ Y) → SortedB mlt Z → Stb1 l (2 * s) (P ++ (Z ++ [])) := by
  obtain ⟨⟨Cs, Bs, T, h1, h2, h3, h4, h5, h6⟩, hp⟩ := h
  have hl := hp.length_eq
  have hl2 := congrArg List.length h3
  simp only [List.length_append] at hl2
  rcases Bs with _ | ⟨X, _ | ⟨Y, Bs⟩⟩
  · simp only [List.flatten_nil, List.length_nil] at hl2; omega
  · obtain ⟨hx, hxs⟩ := h2 X (by simp)
    simp only [List.flatten_cons, List.flatten_nil, List.append_nil] at hl2 h3
    refine ⟨Cs.flatten, X, T, by rw [h3, List.append_nil], h4.symm, hx, by omega, hxs, h6, by omega, fun Z hz hs => ?_⟩
    refine ⟨⟨Cs, Z, h1, by rw [List.append_nil], by rw [hz.length_eq, List.length_append]; omega, hs⟩, ?_⟩
    refine perm_mid (X := X ++ T) ?_ hz
    rw [h3] at hp
    simpa using hp
  · obtain ⟨hx, hxs⟩ := h2 X (by simp)
    obtain ⟨hy, hys⟩ := h2 Y (by simp)
    simp only [List.flatten_cons, List.length_append] at hl2
    omega
/-- Nothing more to merge. -/
theorem Stb2.none (h : Stb2 l s a M) (h0 : 0 < s) (hm : l.length ≤ a + s) : Stb1 l (2 * s) M := by
  obtain ⟨⟨Cs, Bs, T, h1, h2, h3, h4, h5, h6⟩, hp⟩ := h
  have hl := hp.length_eq
  have hl2 := congrArg List.length h3
  simp only [List.length_append] at hl2
  rcases Bs with _ | ⟨X, _ | ⟨Y, Bs⟩⟩
  · exact ⟨⟨Cs, T, h1, by simpa using h3, by omega, h6⟩, hp⟩
  · obtain ⟨hx, hxs⟩ := h2 X (by simp)
    simp only [List.flatten_cons, List.flatten_nil, List.append_nil] at hl2 h3
    have e2 : T = [] := List.length_eq_zero_iff.1 (by omega)
    exact ⟨⟨Cs, X, h1, by rw [h3, e2, List.append_nil], by omega, hxs⟩, hp⟩
  · obtain ⟨hx, hxs⟩ := h2 X (by simp)
    obtain ⟨hy, hys⟩ := h2 Y (by simp)
    simp only [List.flatten_cons, List.length_append] at hl2
    omega
end
end Go.Proofs.YtahiahjhpakeiaaGreatDoor

/-
  The stable sort of moves: the walk of stableCmpFunc.
-/
namespace Go.Proofs.YtahiahjhpakeiaaGreatDoor
open Go.RowKit Go.Maps Go.Sort Go.WideShapes Go.ChangeShapes Go.Deep
set_option linter.unusedVariables false
set_option linter.unusedSimpArgs false
attribute [local go_sem] later_cell later_frozen later_lt cell_set_off cell_set_block keptT_cell keptT_lt

set_option maxRecDepth 100000 in
set_option maxHeartbeats 8000000 in
theorem stb_any (w : World) (q n cap : Nat) (l : List Mv) (hM : MvIn w q l) (hn : l.length = n) (hnl : n ≤ 1000000) :
    Calls Tryz.prog 113 #[.slice (some ⟨q, 0, none⟩) n cap, .int .i64 n, .func (.func 59) #[] #[]] w (SrtPost w q [] l []) := by
  have HM := Lib.hid hM
  have HN := Lib.hid hn
  have HP : Hid (∀ Z w', Z.Perm l → SortedB mlt Z → MvIn w' q Z → Kept (fun b => b = q) w w' → SrtPost w q [] l [] (.returned (.tuple #[])) w') := fun Z w' h1 h2 h3 h4 => ⟨rfl, Z, h1, h2, by simpa using h3, h4⟩
  clear hM hn
  go_enter Tryz.func113, Tryz.ntmps113
  go_wp2_with fail
  go_loopw [7, 8] (fun va vb wr => ∃ (a b : Nat) (M : List Mv), va = .int .i64 a ∧ vb = .int .i64 b ∧ a + 20 ≤ b ∧ b ≤ a + 20 ∧ a ≤ n ∧ Hid (Stb0 l a M) ∧ Hid (MvIn wr q M) ∧ Hid (Kept (fun b => b = q) w wr)) (fun va _ _ => n + 1 - (intOf va).toNat)
  case atStart => exact ⟨0, 20, l, rfl, rfl, by omega, by omega, by omega, Stb0.start l, HM.out, Kept.refl _ _⟩
  case round =>
    obtain ⟨a, b, M, rfl, rfl, hab1, hab2, han, hS, hI, hK⟩ := hrel
    by_cases hlt : b ≤ n
    · have hltI : (b : Int) ≤ (n : Int) := by omega
      obtain ⟨P, X, R, hMe, hPl, hXl, hnl2, hnext⟩ := hS.out.open (by rw [HN.out]; omega)
      rw [hMe] at hI
      have CI := insc_any wr q n cap P X R hI.out (by rw [hnl2, HN.out]) hnl a b hPl.symm (by rw [hXl]; omega)
      have CI := Lib.hid CI
      have HNX := Lib.hid hnext
      clear hMe hPl hXl hnl2 hnext hI hS
      go_wp2_with fail
      refine CI.out.mono ?_
      rintro e w2 ⟨rfl, Z, hz1, hz2, hM2, hK2⟩
      have S2 : Hid (Stb0 l b (P ++ (Z ++ R))) := show Stb0 _ _ _ from (show a + 20 = b by omega) ▸ HNX.out Z hz1 hz2
      have M2 := Lib.hid hM2
      have K2 := Lib.hid (hK.out.trans hK2)
      clear hz1 hz2 hM2 hK2 CI
      go_wp2_with fail
      go_roundw
      case rel => go_light; exact ⟨b, b + 20, _, by first | rfl | go_num, by go_num, by omega, by omega, by omega, S2.out, M2.out, K2.out⟩
      case measure => go_light; simp [intOf]; omega
    · have hltI : ¬ (b : Int) ≤ (n : Int) := by omega
      obtain ⟨P, X, hMe, hPl, hnl2, hnext⟩ := hS.out.last (by rw [HN.out]; omega)
      rw [hMe] at hI
      have CI := insc_any wr q n cap P X [] hI.out (by rw [← HN.out, ← hnl2]; rfl) hnl a n hPl.symm (by rw [← HN.out]; omega)
      have CI := Lib.hid CI
      have HNX := Lib.hid hnext
      clear hMe hPl hnl2 hnext hI hS
      go_wp2_with fail
      refine CI.out.mono ?_
      rintro e w2 ⟨rfl, Z, hz1, hz2, hM2, hK2⟩
      have S2 := Lib.hid (HNX.out Z hz1 hz2)
      have M2 := Lib.hid hM2
      have K2 := Lib.hid (hK.out.trans hK2)
      clear hz1 hz2 hM2 hK2 CI HNX
      go_wp2_with fail
      go_loopw [6] (fun vs wr => ∃ (s : Nat) (M : List Mv), vs = .int .i64 s ∧ 20 ≤ s ∧ s ≤ 20 + 2 * n ∧ Hid (Stb1 l s M) ∧ Hid (MvIn wr q M) ∧ Hid (Kept (fun b => b = q) w wr)) (fun vs _ => n - (intOf vs).toNat)
      case atStart => exact ⟨20, _, rfl, by omega, by omega, S2.out, M2.out, K2.out⟩
      case round =>
        obtain ⟨s, M, rfl, h20, hsn, hS, hI, hK⟩ := hrel
        by_cases hlt : s < n
        · have hltI : (s : Int) < (n : Int) := by omega
          have hS2 := Lib.hid hS.out.two
          clear hS
          go_wp2_with fail
          go_loopw [7, 8] (fun va vb wi => ∃ (a b : Nat) (M : List Mv), va = .int .i64 a ∧ vb = .int .i64 b ∧ a + 2 * s ≤ b ∧ b ≤ a + 2 * s ∧ a ≤ n ∧ Hid (Stb2 l s a M) ∧ Hid (MvIn wi q M) ∧ Hid (Kept (fun b => b = q) w wi)) (fun va _ _ => n + 1 - (intOf va).toNat)
          case atStart => exact ⟨0, 2 * s, M, rfl, by first | rfl | (congr 1; omega) | (congr 1), by omega, by omega, by omega, hS2.out, hI.out, hK.out⟩
          case round =>
            obtain ⟨a, b, M, rfl, rfl, hab1, hab2, han, hS, hI, hK⟩ := hrel
            obtain ⟨ms, hms⟩ : ∃ z, z = a + s := ⟨_, rfl⟩
            have hmsI : (a : Int) + (s : Int) = (ms : Int) := by omega
            have hms1 : a + s ≤ ms := by omega
            have hms2 : ms ≤ a + s := by omega
            clear hms
            by_cases hab : b ≤ n
            · have habI : (b : Int) ≤ (n : Int) := by omega
              obtain ⟨P, X, Y, R, hMe, hPl, hXl, hYl, hX, hY, hnl2, hnext⟩ := hS.out.open (by omega) (by rw [HN.out]; omega)
              rw [hMe] at hI
              have CI := sym_any q n cap hnl (X.length + Y.length + 1) P X Y R wr (by omega) (by omega) (by omega) hX hY hI.out (by rw [hnl2, HN.out]) a ms b hPl.symm (by rw [hXl]; omega) (by rw [hYl]; omega)
              have CI := Lib.hid CI
              have HNX := Lib.hid hnext
              clear hMe hPl hXl hYl hX hY hnl2 hnext hI hS
              go_wp2_with fail
              refine CI.out.mono ?_
              rintro e w2 ⟨rfl, Z, hz1, hz2, hM2, hK2⟩
              have S2 : Hid (Stb2 l s b (P ++ (Z ++ R))) := show Stb2 _ _ _ _ from (show a + 2 * s = b by omega) ▸ HNX.out Z hz1 hz2
              have M2 := Lib.hid hM2
              have K2 := Lib.hid (hK.out.trans hK2)
              clear hz1 hz2 hM2 hK2 CI
              go_wp2_with fail
              go_roundw
              case rel => go_light; exact ⟨b, b + 2 * s, _, by first | rfl | go_num, by first | rfl | (congr 1; done) | (congr 1; omega), by omega, by omega, by omega, S2.out, M2.out, K2.out⟩
              case measure => go_light; simp [intOf]; omega
            · have habI : ¬ (b : Int) ≤ (n : Int) := by omega
              by_cases hm : ms < n
              · have hmI : (ms : Int) < (n : Int) := by omega
                obtain ⟨P, X, Y, hMe, hPl, hXl, hYl, hX, hY, hnl2, hnext⟩ := hS.out.last (by omega) (by rw [HN.out]; omega) (by rw [HN.out]; omega)
                rw [hMe] at hI
                have CI := sym_any q n cap hnl (X.length + Y.length + 1) P X Y [] wr (by omega) (by omega) hYl hX hY hI.out (by rw [← HN.out, ← hnl2]; rfl) a ms n hPl.symm (by rw [hXl]; omega) (by have := HN.out; omega)
                have CI := Lib.hid CI
                have HNX := Lib.hid hnext
                clear hMe hPl hXl hYl hX hY hnl2 hnext hI hS
                go_wp2_with fail
                refine CI.out.mono ?_
                rintro e w2 ⟨rfl, Z, hz1, hz2, hM2, hK2⟩
                have S2 := Lib.hid (HNX.out Z hz1 hz2)
                have M2 := Lib.hid hM2
                have K2 := Lib.hid (hK.out.trans hK2)
                clear hz1 hz2 hM2 hK2 CI
                go_wp2_with fail
                go_roundw
                case rel => go_light; exact ⟨2 * s, _, by first | rfl | (congr 1; done) | (congr 1; omega), by omega, by omega, S2.out, M2.out, K2.out⟩
                case measure => go_light; simp [intOf]; omega
              · have hmI : ¬ (ms : Int) < (n : Int) := by omega
                have S2 := Lib.hid (hS.out.none (by omega) (by rw [HN.out]; omega))
                go_wp2_with fail
                go_roundw
                case rel => go_light; exact ⟨2 * s, _, by first | rfl | (congr 1; done) | (congr 1; omega), by omega, by omega, S2.out, hI.out, hK.out⟩
                case measure => go_light; simp [intOf]; omega
        · have hltI : ¬ (s : Int) < (n : Int) := by omega
          have hD := Lib.hid (hS.out.done (by rw [HN.out]; omega) (by omega))
          go_wp2_with fail
          go_end0
          exact HP.out M _ hS.out.perm hD.out hI.out hK.out
set_option maxRecDepth 100000 in
/-- The library's stable sort, at moves. -/
theorem ssf_any (w : World) (q n cap : Nat) (l : List Mv) (hM : MvIn w q l) (hn : l.length = n) (hnl : n ≤ 1000000) :
    Calls Tryz.prog 58 #[.slice (some ⟨q, 0, none⟩) n cap, .func (.func 59) #[] #[]] w (SrtPost w q [] l []) := by
  have C := Lib.hid (stb_any w q n cap l hM hn hnl)
  clear hM hn
  go_enter Tryz.func58, Tryz.ntmps58
  go_wp2_with fail
  refine C.out.mono ?_
  rintro e w2 ⟨rfl, hz⟩
  have HZ := Lib.hid hz
  clear hz
  go_wp2_with fail
  go_end0
  exact ⟨rfl, HZ.out⟩
end Go.Proofs.YtahiahjhpakeiaaGreatDoor
end
