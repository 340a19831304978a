
/-
  ChordQuiet: on a ring on which all is as it should be nothing turns.
-/
import Derived.Test.YthbijjpaljjapaaChordQ
import Derived.WideShapes
import Derived.OpenShut
namespace Go.Proofs.Ythbijjpaljjapaa
open Go.RowKit Go.Maps Go.Sort Go.WideShapes Go.ChangeShapes
set_option linter.unusedVariables false
set_option linter.unusedSimpArgs false
attribute [local go_sem] later_cell later_frozen later_lt cell_set_off cell_set_block

theorem within_self (x b : Int) : withinB x x b = false := by unfold withinB; split <;> simp
theorem setM_self {f : RS} {n : Int} {m : Mem} (h : f n = some m) : setM f n m = f := by
  funext j; unfold setM; split
  · rename_i e; rw [e, h]
  · rfl
theorem atI_add4 (ids s : List Int) (t : Int) : atI ids s (t + 4) = atI ids s t := by
  rw [atI_mod ids s (t + 4), atI_mod ids s t]; congr 2; omega
/-- A base member that looks learns nothing. -/
theorem stab_quiet {ids s : List Int} (h : Four ids s) {n : Int} (hn : livesR (newF ids s 4) n = true) : stabR (newF ids s 4) n = newF ids s 4 := by
  obtain ⟨h0, h4⟩ := (h.lives_iff n).1 hn
  obtain ⟨j, hj, rfl, _⟩ := h.onto h0 h4
  have eT : stabT (newF ids s 4) (atI ids s j) = atI ids s (j + 1) := by
    unfold stabT
    rw [h.head_at, h.pred_at, show (j : Int) + 1 - 1 = j by omega]
    unfold nearR
    rw [within_self, Bool.and_false]
    rfl
  have e1 : stab1 (newF ids s 4) (atI ids s j) = newF ids s 4 := by
    unfold stab1
    refine setM_self ?_
    rw [eT, h.succ_at, h.lives_at]
    unfold idR predR
    rw [h.mk_at]
    have hs := h.succ_at (j : Int)
    unfold succR at hs
    rw [h.mk_at] at hs
    have e4 := atI_add4 ids s j
    rw [show (j : Int) + 1 + 1 = j + 2 by omega, show (j : Int) + 1 + 2 = j + 3 by omega, show (j : Int) + 1 + 3 = j + 4 by omega]
    show some _ = some (Mem.mk _ _ _ _)
    unfold followL
    simp only [List.take_succ_cons, List.take_zero]
    rw [← hs]
    rfl
  unfold stabR
  rw [e1, eT]
  refine setM_self ?_
  rw [h.pred_at, show (j : Int) + 1 - 1 = j by omega]
  have hr : rectR (newF ids s 4) (idR (newF ids s 4) (atI ids s (j + 1))) (atI ids s j) (atI ids s j) = atI ids s j := by
    unfold rectR; rw [ite_self]
  rw [hr]
  have hp := h.pred_at ((j : Int) + 1)
  rw [show (j : Int) + 1 - 1 = j by omega] at hp
  rw [← hp]
  unfold livesR idR predR succR
  rw [h.mk_at]
/-- Arguments opened: places, numbers. -/
theorem placeOf {a : Int} (h : (Lit.int .u64 a).wf = true) : isPlace a := by
  simp [Lit.wf, IntKind.min, IntKind.max, IntKind.bits, IntKind.signed] at h; unfold isPlace; omega
theorem cellsId1 : Try.prog.cellsOf 32 = 1 := by kernel_rfl
theorem cellsInt1 : Try.prog.cellsOf 3 = 1 := by kernel_rfl
set_option maxRecDepth 100000 in
theorem ids_open {H : Type} {enc : TypeId × Value → H} {W : World} {v0 : Value} {d0 : DataW H} {p0 : List MemPlace} {r0 : Reach} {b0 : Nat} (ok0 : Value.okWide Try.prog W r0 b0 22 v0) (h0 : DataW.Trod enc Try.prog W 0 (fun _ => true) true 22 v0 d0 p0) :
    ∃ l : List Int, SlAt 0 (fun i => .int .u64 (nth l i)) l.length W v0 ∧ ∀ z ∈ l, isPlace z := by
  obtain ⟨a, n, c, rfl⟩ := okWide_slice Try.underlying22 ok0
  obtain ⟨fuel, hf⟩ := h0
  obtain ⟨l, hl, hw⟩ := ints_of_trod Try.underlying22 cellsId1 Try.underlying32 hf
  exact ⟨l, hl, fun z hz => placeOf (hw z hz)⟩
set_option maxRecDepth 100000 in
theorem ints_open {H : Type} {enc : TypeId × Value → H} {W : World} {v0 : Value} {d0 : DataW H} {p0 : List MemPlace} {r0 : Reach} {b0 : Nat} (ok0 : Value.okWide Try.prog W r0 b0 23 v0) (h0 : DataW.Trod enc Try.prog W 0 (fun _ => true) true 23 v0 d0 p0) :
    ∃ l : List Int, SlAt 0 (fun i => .int .i64 (nth l i)) l.length W v0 ∧ ∀ z ∈ l, okInt z := by
  obtain ⟨a, n, c, rfl⟩ := okWide_slice Try.underlying23 ok0
  obtain ⟨fuel, hf⟩ := h0
  obtain ⟨l, hl, hw⟩ := ints_of_trod Try.underlying23 cellsInt1 Try.underlying3 hf
  exact ⟨l, hl, hw⟩
/-- Who is refused says so at once. -/
def OneYes (W : World) (e : Ending) (W' : World) : Prop := e = .returned (.bool true) ∧ RowKit.Below W.heap.size W W'
set_option maxRecDepth 100000 in
set_option maxHeartbeats 8000000 in
theorem chordQuiet_main (W : World) (v0 v1 : Value) (ids looks : List Int) (hi : SlAt 0 (fun i => .int .u64 (nth ids i)) ids.length W v0) (hp : ∀ x ∈ ids, isPlace x)
    (hl : SlAt 0 (fun i => .int .i64 (nth looks i)) looks.length W v1) (hlo : ∀ x ∈ looks, okInt x) : Calls Try.prog 3 #[v0, v1] W (OneYes W) := by
  have CN := Lib.hid (fun wr (hb : RowKit.Below W.heap.size W wr) => new_any wr v0 ids (hi.below hb) hp)
  have HL := Lib.hid hl
  have HLO := Lib.hid hlo
  obtain ⟨a1, c1, rfl, hc1, hm1⟩ := hl.slice
  have hlm : looks.length ≤ 9223372036854775807 := by unfold maxLen at hm1; omega
  unfold AskPost at CN
  cases hf : fourB ids with
  | false =>
    rw [hf] at CN
    clear hl hi hp hlo hf hm1 hc1
    go_enter Try.func3, Try.ntmps3
    go_wp2_with fail
    refine (CN.out W (RowKit.Below.refl _ _)).mono ?_
    intro e w1 hq
    rw [if_neg (by decide)] at hq
    obtain ⟨v, rfl, hE, hB1⟩ := hq
    obtain ⟨b, rfl, _⟩ := hE
    go_wp2_with fail
    refine (CN.out _ hB1).mono ?_
    intro e w2 hq
    rw [if_neg (by decide)] at hq
    obtain ⟨v, rfl, hE, hB2⟩ := hq
    obtain ⟨b2, rfl, _⟩ := hE
    go_wp2_with fail
    refine (awake_any _).mono ?_
    rintro e w3 ⟨rfl, hB3⟩
    go_wp2_with fail
    go_ret
    exact ⟨rfl, bel_below (bel_below hB1 hB2) hB3⟩
  | true =>
    have hF : Four ids (setI ids) := by
      unfold fourB at hf
      simp at hf
      exact four_of hf.1 hf.2 hp
    rw [hf] at CN
    have HF := Lib.hid hF
    have I := Lib.hid (inv_new hF)
    have hq := Lib.hid (fun n => stab_quiet hF (n := n))
    have hlv := Lib.hid hF.lives_iff
    have hsl := Lib.hid (fun n => (succR_dom (newF_dom hF 4 (Nat.le_refl _)) n).1)
    unfold NewPost at CN
    obtain ⟨F, hFF⟩ : ∃ F, F = newF ids (setI ids) 4 := ⟨_, rfl⟩
    rw [← hFF] at CN I hq hlv hsl
    clear hl hi hp hlo hf hF hFF hm1 hc1 HF
    go_enter Try.func3, Try.ntmps3
    go_wp2_with fail
    refine (CN.out W (RowKit.Below.refl _ _)).mono ?_
    intro e w1 hq
    rw [if_pos trivial] at hq
    obtain ⟨rb, mb, g, rfl, R1, hB1⟩ := hq
    have H1 := Lib.hid R1
    have B1 := Lib.hid hB1
    clear R1 hB1
    go_wp2_with fail
    refine (CN.out _ B1.out).mono ?_
    intro e w2 hq
    rw [if_pos trivial] at hq
    obtain ⟨rb2, mb2, g2, rfl, R2, hB2⟩ := hq
    have H2 := Lib.hid R2
    have B2 := Lib.hid (bel_below B1.out hB2)
    have R1 := Lib.hid (H1.out.now hB2)
    have hs12 := hB2.size
    clear R2 hB2
    go_wp2_with fail
    go_loopw [9] (fun i wr => ∃ k : Nat, k ≤ 60 ∧ i = .int .i64 k ∧ Hid (RAt (Now (fun b => W.heap.size ≤ b) w1 w2) wr rb mb g F) ∧ Hid (Kept (Now (fun b => W.heap.size ≤ b) w1 w2) w2 wr)) (fun i _ => 60 - (intOf i).toNat)
    case atStart => exact ⟨0, by omega, rfl, R1.out, Kept.refl _ _⟩
    case round =>
      obtain ⟨k, hk, rfl, hR, hK⟩ := hrel
      have BW : Hid (RowKit.Below W.heap.size W wr) := B2.out.trans (hK.out.toBelow B2.out.size (fun b hb => by have := B1.out.size; simp only [Now]; omega))
      by_cases hlt : k < looks.length ∧ k < 60
      · obtain ⟨hlt, hlt2⟩ := hlt
        obtain ⟨b, off, rfl, _, hb, hc⟩ := HL.out.at k hlt wr BW.out
        have hok : okInt (nth looks k) := HLO.out _ (nth_mem.2 ⟨k, hlt, rfl⟩)
        go_wp2_with fail
        refine (stab_at hR.out _ hok I.out.heads).mono ?_
        intro e w3 hq
        have hq2 : ∃ v, e = .returned v ∧ RAt (Now (fun b => W.heap.size ≤ b) w1 w2) w3 rb mb g F ∧ Kept (Now (fun b => W.heap.size ≤ b) w1 w2) w2 w3 := by
          unfold StabPost at hq
          split at hq
          · rename_i hl
            obtain ⟨rfl, h1, h2⟩ := hq
            rw [hq.out _ hl] at h1
            exact ⟨_, rfl, h1, hK.out.trans h2⟩
          · obtain ⟨v, rfl, _, h2⟩ := hq
            exact ⟨_, rfl, hR.out.below h2, hK.out.below h2⟩
        obtain ⟨v, rfl, h1, h2⟩ := hq2
        have H3 := Lib.hid h1
        have K3 := Lib.hid h2
        clear h1 h2 hq
        go_wp2_with fail
        go_roundw
        case rel => go_light; exact ⟨k + 1, by omega, by go_num, H3.out, K3.out⟩
        case measure => go_light; simp [intOf]; omega
      · have HRx := hR
        have HSx := Lib.hid (H2.out.aside hK.out (fun b hb hS hT => by simp only [Now] at hT; omega))
        obtain ⟨wx, hwx⟩ : ∃ z, z = wr := ⟨_, rfl⟩
        rw [← hwx] at HRx HSx BW ⊢
        have hcase : looks.length ≤ k ∨ k < looks.length ∧ k = 60 := by omega
        clear hlt hwx hR hK
        rcases hcase with hcase | ⟨hcase, rfl⟩
        · go_wp2_with fail
          go_loopw [10, 11, 12, 13, 14, 15] (fun n _ _ _ _ _ wr => ∃ k : Nat, k ≤ 4 ∧ n = .int .i64 k ∧ Hid (RowKit.Below wx.heap.size wx wr)) (fun n _ _ _ _ _ _ => 4 - (intOf n).toNat)
          case atStart => exact ⟨0, by omega, rfl, RowKit.Below.refl _ _⟩
          case round =>
            obtain ⟨k, hk, rfl, hB⟩ := hrel
            by_cases hlt : k < 4
            · have okn : okInt (k : Int) := okInt_dom (by omega) (by omega)
              have hlk : livesR F k = true := (hlv.out k).2 ⟨by omega, by omega⟩
              have hl3 := hsl.out (k : Int)
              have C1 := Lib.hid (fun w' (hb : RowKit.Below wx.heap.size wx w') => peer_at (HRx.out.below hb) k okn)
              have C2 := Lib.hid (fun w' (hb : RowKit.Below wx.heap.size wx w') => peer_at (HSx.out.below hb) k okn)
              unfold TellPost at C1 C2
              rw [hlk] at C1 C2
              obtain ⟨id, hid⟩ : ∃ z, z = idR F k := ⟨_, rfl⟩
              obtain ⟨pr, hpr⟩ : ∃ z, z = predR F k := ⟨_, rfl⟩
              obtain ⟨sl, hsl⟩ : ∃ z, z = succR F k := ⟨_, rfl⟩
              rw [← hid, ← hpr, ← hsl] at C1 C2
              rw [← hsl] at hl3
              clear hid hpr hsl hlk
              go_wp2_with fail
              refine (C1.out _ hB.out).mono ?_
              intro e w5 hq
              rw [if_pos trivial] at hq
              obtain ⟨v5, rfl, S5, hB5⟩ := hq
              obtain ⟨a5, c5, rfl, _⟩ := S5.slice
              have T5 := Lib.hid S5
              have B5 := Lib.hid (bel_below hB.out hB5)
              clear S5 hB5
              go_wp2_with fail
              refine (C2.out _ (bel_alloc B5.out _)).mono ?_
              intro e w6 hq
              rw [if_pos trivial] at hq
              obtain ⟨v6, rfl, S6, hB6⟩ := hq
              obtain ⟨a6, c6, rfl, _⟩ := S6.slice
              have p0 : w6.cell? ⟨w5.heap.size, 0, none⟩ = some (.int .u64 id) := by rw [hB6.cell (by simp)]; simp [go_sem]
              have p1 : w6.cell? ⟨w5.heap.size, 1, none⟩ = some (.int .i64 pr) := by rw [hB6.cell (by simp)]; simp [go_sem]
              have p2 : w6.cell? ⟨w5.heap.size, 2, none⟩ = some (.slice a5 sl.length c5) := by rw [hB6.cell (by simp)]; simp [go_sem]
              have hz5 : w5.heap.size < w6.heap.size := by have := hB6.size; simp at this; omega
              have T6 := Lib.hid S6
              have T56 := Lib.hid (T5.out.below (bel_below (bel_alloc (RowKit.Below.refl _ w5) _) hB6))
              have B6 := Lib.hid (bel_below (bel_alloc B5.out _) hB6)
              clear S6 hB6
              go_wp2_with fail
              obtain ⟨wy, hwy⟩ : ∃ z, z = w6.alloc (.cells #[.int .u64 id, .int .i64 pr, .slice a6 sl.length c6] 34) := ⟨_, rfl⟩
              have r2 : wy.cell? ⟨w5.heap.size, 2, none⟩ = some (.slice a5 sl.length c5) := by rw [hwy, (bel_alloc (RowKit.Below.refl _ w6) _).cell (by exact hz5)]; exact p2
              have s2 : wy.cell? ⟨w6.heap.size, 2, none⟩ = some (.slice a6 sl.length c6) := by rw [hwy]; simp [go_sem]
              have hz6 : w6.heap.size < wy.heap.size := by rw [hwy]; simp
              have hz5y : w5.heap.size < wy.heap.size := by omega
              have By : RowKit.Below w6.heap.size w6 wy := by rw [hwy]; exact bel_alloc (RowKit.Below.refl _ _) _
              have Bxy := Lib.hid (bel_below B6.out By)
              have Ty := Lib.hid (T56.out.below By)
              have Uy := Lib.hid (T6.out.below By)
              rw [← hwy]
              clear hwy By p0 p1 p2 hz5
              go_loopw [15, 98] (fun _ i wr => ∃ j : Nat, j ≤ sl.length ∧ i = .int .i64 j ∧ Hid (RowKit.Below wy.heap.size wy wr)) (fun _ i _ => sl.length - (intOf i).toNat)
              case atStart => exact ⟨0, by omega, rfl, RowKit.Below.refl _ _⟩
              case round =>
                obtain ⟨j, hj, rfl, hBr⟩ := hrel
                by_cases hlt2 : j < sl.length
                · have e2 : wr.cell? ⟨w5.heap.size, 2, none⟩ = some (.slice a5 sl.length c5) := (hBr.out.cell (p := ⟨w5.heap.size, 2, none⟩) hz5y).trans r2
                  have f2 : wr.cell? ⟨w6.heap.size, 2, none⟩ = some (.slice a6 sl.length c6) := (hBr.out.cell (p := ⟨w6.heap.size, 2, none⟩) hz6).trans s2
                  have x5 : w5.heap.size < wr.heap.size := Nat.lt_of_lt_of_le hz5y hBr.out.size
                  have x6 : w6.heap.size < wr.heap.size := Nat.lt_of_lt_of_le hz6 hBr.out.size
                  obtain ⟨b, off, rfl, _, hb1, hb2⟩ := Ty.out.at j hlt2 wr hBr.out
                  obtain ⟨b', off', rfl, _, hb3, hb4⟩ := Uy.out.at j hlt2 wr hBr.out
                  go_wp2_with fail
                  refine wp_region_calm (by kernel_rfl) (by kernel_rfl) ?_
                  repeat (first | (go_big_quiet_step ((fail))) | (refine wpQuiet_step (fun K hK => ?_); go_simp; first | (refine hK _ ?_; clear hK K) | (apply Exists.intro; refine ⟨fun _ => ?_, hK _ ?_⟩; (fail); clear hK K)))
                  refine wpQuiet_nil ?_
                  intro _ hw'
                  obtain ⟨xq, hw''⟩ := hw'
                  subst hw''
                  have Bq := Lib.hid (bel_later hBr.out xq)
                  go_wp2_with fail
                  go_roundw
                  case rel => go_light; exact ⟨j + 1, by omega, by go_num, Bq.out⟩
                  case measure => go_light; simp [intOf]; omega
                · obtain rfl : j = sl.length := by omega
                  have Bq := Lib.hid (bel_below Bxy.out hBr.out)
                  go_wp2_with fail
                  go_roundw
                  case rel => go_light; exact ⟨k + 1, by omega, by go_num, Bq.out⟩
                  case measure => go_light; simp [intOf]; omega
            · obtain rfl : k = 4 := by omega
              go_wp2_with fail
              refine (awake_any _).mono ?_
              rintro e w9 ⟨rfl, hB9⟩
              go_wp2_with fail
              go_ret
              exact ⟨rfl, bel_below (bel_below BW.out hB.out) hB9⟩
        · go_wp2_with fail
          go_loopw [10, 11, 12, 13, 14, 15] (fun n _ _ _ _ _ wr => ∃ k : Nat, k ≤ 4 ∧ n = .int .i64 k ∧ Hid (RowKit.Below wx.heap.size wx wr)) (fun n _ _ _ _ _ _ => 4 - (intOf n).toNat)
          case atStart => exact ⟨0, by omega, rfl, RowKit.Below.refl _ _⟩
          case round =>
            obtain ⟨k, hk, rfl, hB⟩ := hrel
            by_cases hlt : k < 4
            · have okn : okInt (k : Int) := okInt_dom (by omega) (by omega)
              have hlk : livesR F k = true := (hlv.out k).2 ⟨by omega, by omega⟩
              have hl3 := hsl.out (k : Int)
              have C1 := Lib.hid (fun w' (hb : RowKit.Below wx.heap.size wx w') => peer_at (HRx.out.below hb) k okn)
              have C2 := Lib.hid (fun w' (hb : RowKit.Below wx.heap.size wx w') => peer_at (HSx.out.below hb) k okn)
              unfold TellPost at C1 C2
              rw [hlk] at C1 C2
              obtain ⟨id, hid⟩ : ∃ z, z = idR F k := ⟨_, rfl⟩
              obtain ⟨pr, hpr⟩ : ∃ z, z = predR F k := ⟨_, rfl⟩
              obtain ⟨sl, hsl⟩ : ∃ z, z = succR F k := ⟨_, rfl⟩
              rw [← hid, ← hpr, ← hsl] at C1 C2
              rw [← hsl] at hl3
              clear hid hpr hsl hlk
              go_wp2_with fail
              refine (C1.out _ hB.out).mono ?_
              intro e w5 hq
              rw [if_pos trivial] at hq
              obtain ⟨v5, rfl, S5, hB5⟩ := hq
              obtain ⟨a5, c5, rfl, _⟩ := S5.slice
              have T5 := Lib.hid S5
              have B5 := Lib.hid (bel_below hB.out hB5)
              clear S5 hB5
              go_wp2_with fail
              refine (C2.out _ (bel_alloc B5.out _)).mono ?_
              intro e w6 hq
              rw [if_pos trivial] at hq
              obtain ⟨v6, rfl, S6, hB6⟩ := hq
              obtain ⟨a6, c6, rfl, _⟩ := S6.slice
              have p0 : w6.cell? ⟨w5.heap.size, 0, none⟩ = some (.int .u64 id) := by rw [hB6.cell (by simp)]; simp [go_sem]
              have p1 : w6.cell? ⟨w5.heap.size, 1, none⟩ = some (.int .i64 pr) := by rw [hB6.cell (by simp)]; simp [go_sem]
              have p2 : w6.cell? ⟨w5.heap.size, 2, none⟩ = some (.slice a5 sl.length c5) := by rw [hB6.cell (by simp)]; simp [go_sem]
              have hz5 : w5.heap.size < w6.heap.size := by have := hB6.size; simp at this; omega
              have T6 := Lib.hid S6
              have T56 := Lib.hid (T5.out.below (bel_below (bel_alloc (RowKit.Below.refl _ w5) _) hB6))
              have B6 := Lib.hid (bel_below (bel_alloc B5.out _) hB6)
              clear S6 hB6
              go_wp2_with fail
              obtain ⟨wy, hwy⟩ : ∃ z, z = w6.alloc (.cells #[.int .u64 id, .int .i64 pr, .slice a6 sl.length c6] 34) := ⟨_, rfl⟩
              have r2 : wy.cell? ⟨w5.heap.size, 2, none⟩ = some (.slice a5 sl.length c5) := by rw [hwy, (bel_alloc (RowKit.Below.refl _ w6) _).cell (by exact hz5)]; exact p2
              have s2 : wy.cell? ⟨w6.heap.size, 2, none⟩ = some (.slice a6 sl.length c6) := by rw [hwy]; simp [go_sem]
              have hz6 : w6.heap.size < wy.heap.size := by rw [hwy]; simp
              have hz5y : w5.heap.size < wy.heap.size := by omega
              have By : RowKit.Below w6.heap.size w6 wy := by rw [hwy]; exact bel_alloc (RowKit.Below.refl _ _) _
              have Bxy := Lib.hid (bel_below B6.out By)
              have Ty := Lib.hid (T56.out.below By)
              have Uy := Lib.hid (T6.out.below By)
              rw [← hwy]
              clear hwy By p0 p1 p2 hz5
              go_loopw [15, 98] (fun _ i wr => ∃ j : Nat, j ≤ sl.length ∧ i = .int .i64 j ∧ Hid (RowKit.Below wy.heap.size wy wr)) (fun _ i _ => sl.length - (intOf i).toNat)
              case atStart => exact ⟨0, by omega, rfl, RowKit.Below.refl _ _⟩
              case round =>
                obtain ⟨j, hj, rfl, hBr⟩ := hrel
                by_cases hlt2 : j < sl.length
                · have e2 : wr.cell? ⟨w5.heap.size, 2, none⟩ = some (.slice a5 sl.length c5) := (hBr.out.cell (p := ⟨w5.heap.size, 2, none⟩) hz5y).trans r2
                  have f2 : wr.cell? ⟨w6.heap.size, 2, none⟩ = some (.slice a6 sl.length c6) := (hBr.out.cell (p := ⟨w6.heap.size, 2, none⟩) hz6).trans s2
                  have x5 : w5.heap.size < wr.heap.size := Nat.lt_of_lt_of_le hz5y hBr.out.size
                  have x6 : w6.heap.size < wr.heap.size := Nat.lt_of_lt_of_le hz6 hBr.out.size
                  obtain ⟨b, off, rfl, _, hb1, hb2⟩ := Ty.out.at j hlt2 wr hBr.out
                  obtain ⟨b', off', rfl, _, hb3, hb4⟩ := Uy.out.at j hlt2 wr hBr.out
                  go_wp2_with fail
                  refine wp_region_calm (by kernel_rfl) (by kernel_rfl) ?_
                  repeat (first | (go_big_quiet_step ((fail))) | (refine wpQuiet_step (fun K hK => ?_); go_simp; first | (refine hK _ ?_; clear hK K) | (apply Exists.intro; refine ⟨fun _ => ?_, hK _ ?_⟩; (fail); clear hK K)))
                  refine wpQuiet_nil ?_
                  intro _ hw'
                  obtain ⟨xq, hw''⟩ := hw'
                  subst hw''
                  have Bq := Lib.hid (bel_later hBr.out xq)
                  go_wp2_with fail
                  go_roundw
                  case rel => go_light; exact ⟨j + 1, by omega, by go_num, Bq.out⟩
                  case measure => go_light; simp [intOf]; omega
                · obtain rfl : j = sl.length := by omega
                  have Bq := Lib.hid (bel_below Bxy.out hBr.out)
                  go_wp2_with fail
                  go_roundw
                  case rel => go_light; exact ⟨k + 1, by omega, by go_num, Bq.out⟩
                  case measure => go_light; simp [intOf]; omega
            · obtain rfl : k = 4 := by omega
              go_wp2_with fail
              refine (awake_any _).mono ?_
              rintro e w9 ⟨rfl, hB9⟩
              go_wp2_with fail
              go_ret
              exact ⟨rfl, bel_below (bel_below BW.out hB.out) hB9⟩
set_option maxRecDepth 100000 in
theorem chordQuiet_walk {H : Type} (enc : TypeId × Value → H) (W : World) (v0 : Value) (d0 : DataW H) (p0 : List MemPlace) {r0 : Reach} {b0 : Nat} (ok0 : Value.okWide Try.prog W r0 b0 22 v0) (h0 : DataW.Trod enc Try.prog W 0 (fun _ => true) true 22 v0 d0 p0)
    (hlt0 : ∀ x ∈ p0, x.block < W.heap.size) (sz0 : ∀ n ∈ d0.weights Try.prog 22, n ≤ reachBytes) (v1 : Value) (d1 : DataW H) (p1 : List MemPlace) {r1 : Reach} {b1 : Nat} (ok1 : Value.okWide Try.prog W r1 b1 23 v1) (h1 : DataW.Trod enc Try.prog W 0 (fun _ => true) true 23 v1 d1 p1)
    (hlt1 : ∀ x ∈ p1, x.block < W.heap.size) (sz1 : ∀ n ∈ d1.weights Try.prog 23, n ≤ reachBytes) :
    Calls Try.prog 3 #[v0, v1] W fun e W' => e = .returned (.bool true) ∧ RowKit.Below W.heap.size W W' := by
  obtain ⟨ids, hi, hp⟩ := ids_open ok0 h0
  obtain ⟨looks, hl, ho⟩ := ints_open ok1 h1
  exact chordQuiet_main W v0 v1 ids looks hi hp hl ho
end Go.Proofs.Ythbijjpaljjapaa
