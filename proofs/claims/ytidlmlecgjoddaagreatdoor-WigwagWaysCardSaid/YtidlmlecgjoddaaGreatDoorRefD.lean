
/-
  The document's Live and Follow: lists of their own memory.
-/
import Derived.Test.YtidlmlecgjoddaaGreatDoorRefC
namespace Go.Proofs.YtidlmlecgjoddaaGreatDoor
open Go.RowKit Go.Maps Go.Sort
set_option linter.unusedVariables false
set_option linter.unusedSimpArgs false
attribute [local go_sem] later_cell later_frozen later_lt cell_set_off cell_set_block

noncomputable def intRI : TypeInfo := (Tryz.prog.info? 3).get (by kernel_rfl)
theorem intRI_at : Tryz.prog.info? 3 = some intRI := by kernel_rfl
variable {Q : Nat → Prop} {w : World} {p : Where} {f : RS} {V : Nat → Value}
/-- Those that live of the first k addresses. -/
def liveK (f : RS) (k : Nat) : List Int := ((List.range k).map Int.ofNat).filter (livesR f)
theorem liveK_yes {f : RS} {k : Nat} (h : livesR f k = true) : liveK f (k + 1) = liveK f k ++ [(k : Int)] := by
  unfold liveK; rw [List.range_succ, List.map_append, List.filter_append]; simp [h]
theorem liveK_no {f : RS} {k : Nat} (h : livesR f k = false) : liveK f (k + 1) = liveK f k := by
  unfold liveK; rw [List.range_succ, List.map_append, List.filter_append]; simp [h]
theorem liveK_len (f : RS) (k : Nat) : (liveK f k).length ≤ k := by
  unfold liveK; refine Nat.le_trans (List.length_filter_le _ _) (by simp)
def ListPost (w : World) (l : List Int) (e : Ending) (w' : World) : Prop := ∃ v, e = .returned v ∧ SlAt w.heap.size (fun i => .int .i64 (nth l i)) l.length w' v ∧ RowKit.Below w.heap.size w w'
set_option maxRecDepth 100000 in
set_option maxHeartbeats 4000000 in
theorem rlive_any (h : RefRows Q w p f V) : Calls Tryz.prog 73 #[(.agg #[.slice (some ⟨p.b1, p.o1, none⟩) 32 p.k1, .slice (some ⟨p.b2, p.o2, none⟩) 32 p.k2, .slice (some ⟨p.b3, p.o3, none⟩) 32 p.k3, .slice (some ⟨p.b4, p.o4, none⟩) 32 p.k4])] w (ListPost w (liveL f)) := by
  obtain ⟨i0, hi, hz0, hz1, hz2⟩ : ∃ i0, Tryz.prog.info? 3 = some i0 ∧ i0.zero = some (Value.int .i64 0) ∧ i0.size = 1 ∧ i0.bytes = 8 := ⟨intRI, intRI_at, by kernel_rfl, by kernel_rfl, by kernel_rfl⟩
  have HR := Lib.hid h
  have HP : Hid (∀ v w', SlAt w.heap.size (fun i => .int .i64 (nth (liveL f) i)) (liveL f).length w' v → RowKit.Below w.heap.size w w' → ListPost w (liveL f) (.returned v) w') := fun v w' h1 h2 => ⟨v, rfl, h1, h2⟩
  clear h
  go_enter Tryz.func73, Tryz.ntmps73
  go_upto_region 2 with (fail)
  obtain ⟨w1, hw1⟩ : ∃ w1, w1 = (w.alloc (.cells #[.slice (some ⟨p.b1, p.o1, none⟩) 32 p.k1, .slice (some ⟨p.b2, p.o2, none⟩) 32 p.k2, .slice (some ⟨p.b3, p.o3, none⟩) 32 p.k3, .slice (some ⟨p.b4, p.o4, none⟩) 32 p.k4] 32)).alloc (.cells #[] 3) := ⟨_, rfl⟩
  have B1 : RowKit.Below w.heap.size w w1 := by rw [hw1]; (repeat (first | exact Below.refl _ _ | (with_reducible assumption) | (with_reducible refine bel_later ?_ _) | (with_reducible refine bel_alloc ?_ _) | (with_reducible refine bel_drew ?_) | (with_reducible refine bel_drewN ?_ _) | (with_reducible refine bel_set ?_ (by first | (simp; done) | (simp; omega) | (dsimp only; omega)) _)))
  have j1 : w1.cell? ⟨w.heap.size, 1, none⟩ = some (.slice (some ⟨p.b2, p.o2, none⟩) 32 p.k2) := by rw [hw1]; simp [go_sem]
  have z1 : w.heap.size < w1.heap.size := by rw [hw1]; simp; omega
  have O1 : Hid (w1.ownsRow (w.heap.size + 1) 3 1 (.slice (some ⟨w.heap.size + 1, 0, none⟩) 0 0) 0 []) := by rw [hw1]; exact own_nil _ _ _ _ _ (by simp) (by simp)
  rw [← hw1]
  clear hw1
  go_wp2_with fail
  go_loopw [3, 4, 10] (fun vo _ i wr => ∃ k : Nat, k ≤ 32 ∧ i = .int .i64 k ∧ Hid (wr.ownsRow (w.heap.size + 1) 3 1 vo (liveK f k).length ((liveK f k).map (Value.int .i64))) ∧ Hid (RowKit.Below (w.heap.size + 1) w1 wr)) (fun _ _ i _ => 32 - (intOf i).toNat)
  case atStart => exact ⟨0, Nat.zero_le _, rfl, O1.out, RowKit.Below.refl _ _⟩
  case round =>
    obtain ⟨k, hk, rfl, hO, hB⟩ := hrel
    have hBW : RowKit.Below w.heap.size w wr := B1.trans (hB.out.mono (by omega))
    have BW := Lib.hid hBW
    have j1 : wr.cell? ⟨w.heap.size, 1, none⟩ = some (.slice (some ⟨p.b2, p.o2, none⟩) 32 p.k2) := (hB.out.cell (p := ⟨_, _, none⟩) (by dsimp only; omega)).trans j1
    have hsz := hB.out.size
    have zr : w.heap.size < wr.heap.size := by omega
    clear hBW
    by_cases hlt : k < 32
    · have c0 := (HR.out.below BW.out).at_live hlt
      have zb := (HR.out.below BW.out).live.z
      have hlen := liveK_len f k
      cases h1 : livesR f k
      · rw [h1] at c0
        have E := Lib.hid (liveK_no h1)
        go_wp2_with fail
        go_roundw
        case rel => go_light; exact ⟨k + 1, by omega, by go_num, by show World.ownsRow _ _ _ _ _ _ _; rw [E.out]; exact hO.out, hB.out⟩
        case measure => go_light; simp [intOf]; omega
      · rw [h1] at c0
        have E := Lib.hid (liveK_yes h1)
        go_wp2_with (at_builtin; refine wpList_app rfl _ _ 36 rfl (w.heap.size + 1) 3 i0 (.int .i64 0) 8 Tryz.underlying36 hi hz0 hz1 hz2 rfl _ (liveK f k).length _ rfl (hO.out.alloc _) 0 _ 1 _ rfl (sl_new _ .i64 [(k : Int)] 3 _ 1 rfl rfl (by simp [maxLen])) (fun _ => rfl) ?qc1 ?qc2 ?qc3 ?_)
        case qc1 => simp only [maxLen]; omega
        case qc2 => omega
        case qc3 => simp; omega
        intro v' w2 ho hg
        have hB2 : RowKit.Below (w.heap.size + 1) w1 w2 := (hB.out.alloc (by omega) _).grown hg (by simp; omega) (fun j hj => by have := hO.out.lt j hj; omega)
        go_wp2_with fail
        go_roundw
        case rel =>
          go_light
          refine ⟨k + 1, by omega, by go_num, ?_, hB2⟩
          show World.ownsRow _ _ _ _ _ _ _
          rw [E.out]
          simpa [nth] using ho
        case measure => go_light; simp [intOf]; omega
    · obtain rfl : k = 32 := by omega
      have hs := own_ints hO.out
      go_wp2_with fail
      go_ret
      exact HP.out _ _ (hs.base (by omega)) BW.out

theorem follow_take {s : Int} {l : List Int} {k : Nat} (hk : k < l.length) :
    (((s :: l.take k).take 3).length < 3 → (s :: l.take (k + 1)).take 3 = (s :: l.take k).take 3 ++ [nth l k]) ∧ (¬ ((s :: l.take k).take 3).length < 3 → (s :: l.take (k + 1)).take 3 = (s :: l.take k).take 3) := by
  have e : s :: l.take (k + 1) = (s :: l.take k) ++ [nth l k] := by rw [List.take_succ_eq_append_getElem hk, nth_eq hk]; rfl
  have hl : (s :: l.take k).length = k + 1 := by simp; omega
  rw [e]
  constructor
  · intro h
    rw [List.length_take, hl] at h
    rw [List.take_of_length_le (l := (s :: l.take k) ++ [nth l k]) (by rw [List.length_append, hl]; simp; omega), List.take_of_length_le (l := s :: l.take k) (by rw [hl]; omega)]
  · intro h
    rw [List.length_take, hl] at h
    rw [List.take_append_of_le_length (by rw [hl]; omega)]
set_option maxRecDepth 100000 in
set_option maxHeartbeats 4000000 in
theorem rfollow_any (w : World) (s id pred : Int) (lv : Value) (l : List Int) (hl : SlAt 0 (fun i => .int .i64 (nth l i)) l.length w lv) (hlm : l.length ≤ 1000000) :
    Calls Tryz.prog 122 #[.int .i64 s, .agg #[.int .u64 id, .int .i64 pred, lv]] w (ListPost w (followL s l)) := by
  obtain ⟨i0, hi, hz0, hz1, hz2⟩ : ∃ i0, Tryz.prog.info? 3 = some i0 ∧ i0.zero = some (Value.int .i64 0) ∧ i0.size = 1 ∧ i0.bytes = 8 := ⟨intRI, intRI_at, by kernel_rfl, by kernel_rfl, by kernel_rfl⟩
  have HP : Hid (∀ v w', SlAt w.heap.size (fun i => .int .i64 (nth (followL s l) i)) (followL s l).length w' v → RowKit.Below w.heap.size w w' → ListPost w (followL s l) (.returned v) w') := fun v w' h1 h2 => ⟨v, rfl, h1, h2⟩
  have hA := Lib.hid hl
  obtain ⟨a, cap, rfl, hc, hm⟩ := hl.slice
  clear hl
  go_enter Tryz.func122, Tryz.ntmps122
  go_upto_region 2 with (fail)
  obtain ⟨w1, hw1⟩ : ∃ w1, w1 = (w.alloc (.cells #[.int .u64 id, .int .i64 pred, .slice a l.length cap] 134)).alloc (.cells #[.int .i64 s] 3) := ⟨_, rfl⟩
  have B1 : RowKit.Below w.heap.size w w1 := by rw [hw1]; (repeat (first | exact Below.refl _ _ | (with_reducible assumption) | (with_reducible refine bel_later ?_ _) | (with_reducible refine bel_alloc ?_ _) | (with_reducible refine bel_drew ?_) | (with_reducible refine bel_drewN ?_ _) | (with_reducible refine bel_set ?_ (by first | (simp; done) | (simp; omega) | (dsimp only; omega)) _)))
  have j1 : w1.cell? ⟨w.heap.size, 2, none⟩ = some (.slice a l.length cap) := by rw [hw1]; simp [go_sem]
  have z1 : w.heap.size < w1.heap.size := by rw [hw1]; simp; omega
  have O1 : Hid (w1.ownsRow (w.heap.size + 1) 3 1 (.slice (some ⟨w.heap.size + 1, 0, none⟩) 1 1) 1 [.int .i64 s]) := by rw [hw1]; exact own_lit _ [.int .i64 s] _ _ _ _ (by simp) rfl (by simp) (by simp [maxLen])
  rw [← hw1]
  clear hw1
  go_wp2_with fail
  go_loopw [5, 7, 13] (fun vo _ i wr => ∃ k : Nat, k ≤ l.length ∧ i = .int .i64 k ∧ Hid (wr.ownsRow (w.heap.size + 1) 3 1 vo ((s :: l.take k).take 3).length (((s :: l.take k).take 3).map (Value.int .i64))) ∧ Hid (RowKit.Below (w.heap.size + 1) w1 wr)) (fun _ _ i _ => l.length - (intOf i).toNat)
  case atStart => exact ⟨0, Nat.zero_le _, rfl, O1.out, RowKit.Below.refl _ _⟩
  case round =>
    obtain ⟨k, hk, rfl, hO, hB⟩ := hrel
    have hBW : RowKit.Below w.heap.size w wr := B1.trans (hB.out.mono (by omega))
    have BW := Lib.hid hBW
    have hsz := hB.out.size
    clear hBW
    have hlen : ((s :: l.take k).take 3).length ≤ 3 := by rw [List.length_take]; omega
    have hfin : k = l.length → (s :: l.take k).take 3 = followL s l := fun e => by rw [e, List.take_length]; rfl
    have hstep := fun hlt : k < l.length => follow_take (s := s) hlt
    obtain ⟨L, hL⟩ : ∃ L, L = (s :: l.take k).take 3 := ⟨_, rfl⟩
    rw [← hL] at hO hlen hfin hstep
    clear hL
    have ho' := own_ints hO.out
    obtain ⟨ao, co, rfl, hco, hcm⟩ := ho'.slice
    have HS := Lib.hid ho'
    clear ho'
    by_cases hlt : k < l.length
    · obtain ⟨b, off, rfl, _, hb, hck⟩ := hA.out.at k hlt wr BW.out
      obtain ⟨E1, E2⟩ := hstep hlt
      clear hstep hfin
      by_cases h3 : L.length < 3
      · have E := Lib.hid (E1 h3)
        clear E1 E2
        go_wp2_with (at_builtin; refine wpList_app rfl _ _ 36 rfl (w.heap.size + 1) 3 i0 (.int .i64 0) 8 Tryz.underlying36 hi hz0 hz1 hz2 rfl _ L.length _ rfl (hO.out.alloc _) 0 _ 1 _ rfl (sl_new _ .i64 [nth l k] 3 _ 1 rfl rfl (by simp [maxLen])) (fun _ => rfl) ?qc1 ?qc2 ?qc3 ?_)
        case qc1 => simp only [maxLen]; omega
        case qc2 => omega
        case qc3 => simp; omega
        intro v' w2 ho hg
        have hB2 : RowKit.Below (w.heap.size + 1) w1 w2 := (hB.out.alloc (by omega) _).grown hg (by simp; omega) (fun j hj => by have := hO.out.lt j hj; omega)
        go_wp2_with fail
        go_roundw
        case rel =>
          go_light
          refine ⟨k + 1, by omega, by go_num, ?_, hB2⟩
          show World.ownsRow _ _ _ _ _ _ _
          rw [E.out, List.length_append]
          simpa [nth] using ho
        case measure => go_light; simp [intOf]; omega
      · have E := Lib.hid (E2 h3)
        clear E1 E2
        go_wp2_with fail
        go_roundw
        case rel => go_light; exact ⟨k + 1, by omega, by go_num, by show World.ownsRow _ _ _ _ _ _ _; rw [E.out]; exact hO.out, hB.out⟩
        case measure => go_light; simp [intOf]; omega
    · obtain rfl : k = l.length := by omega
      have e := hfin rfl
      clear hstep hfin
      subst e
      go_wp2_with fail
      go_ret
      exact HP.out _ _ (HS.out.base (show w.heap.size ≤ w.heap.size + 1 by omega)) BW.out
end Go.Proofs.YtidlmlecgjoddaaGreatDoor
