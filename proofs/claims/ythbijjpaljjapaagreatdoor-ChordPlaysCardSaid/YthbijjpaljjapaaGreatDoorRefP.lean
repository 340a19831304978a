

/-
  ChordPlays walked: behind each call Shows finds the ring and the document's ring alike.
-/
import Derived.Test.YthbijjpaljjapaaGreatDoorMade
namespace Go.Proofs.YthbijjpaljjapaaGreatDoor
open Go.RowKit Go.Maps Go.Sort Go.WideShapes Go.ChangeShapes Go.Deep
set_option linter.unusedVariables false
set_option linter.unusedSimpArgs false
attribute [local go_sem] later_cell later_frozen later_lt cell_set_off cell_set_block atB_cell atB_lt keptW_cell keptW_lt

theorem okInt_33 {n : Int} (h0 : -1 ≤ n) (h1 : n < 33) : okInt n := by
  by_cases h : n < 32
  · exact okInt_dom h0 h
  · obtain rfl : n = 32 := by omega
    unfold okInt; decide
set_option maxRecDepth 100000 in
set_option maxHeartbeats 4000000 in
theorem nums_any (w : World) (v : Value) (l : List Int) (n : Nat) (h : SlAt 0 (fun i => .int .u64 (nth l i)) l.length w v) (hn : n ≤ 1000) :
    Calls Tryz.prog 10 #[v, .int .i64 n] w fun e w' => ∃ v', e = .returned v' ∧ SlAt w.heap.size (fun i => .int .u64 (nth (l.take n) i)) (l.take n).length w' v' ∧ RowKit.Below w.heap.size w w' := by
  obtain ⟨i0, hi, hz0, hz1, hz2⟩ : ∃ i0, Tryz.prog.info? 44 = some i0 ∧ i0.zero = some (Value.int .u64 0) ∧ i0.size = 1 ∧ i0.bytes = 8 := ⟨u64I, u64I_at, by kernel_rfl, by kernel_rfl, by kernel_rfl⟩
  obtain ⟨a, cap, rfl, hc, hm⟩ := h.slice
  have hA := Lib.hid h
  clear h
  unfold maxLen at hm
  go_enter Tryz.func10, Tryz.ntmps10
  go_wp2_with fail
  go_loopw [5, 6] (fun vo i wr => ∃ k : Nat, k ≤ l.length ∧ k ≤ n ∧ i = .int .i64 k ∧ wr.ownsRow w.heap.size 44 1 vo k ((l.take k).map (Value.int .u64)) ∧ RowKit.Below w.heap.size w wr) (fun _ i _ => l.length - (intOf i).toNat)
  case atStart => exact ⟨0, Nat.zero_le _, Nat.zero_le _, rfl, by simpa using World.ownsRow_made w #[] 0 (Nat.le_refl _) (Nat.zero_le _) (by simp), by (repeat (first | exact Below.refl _ _ | (with_reducible assumption) | (with_reducible refine bel_later ?_ _) | (with_reducible refine bel_alloc ?_ _) | (with_reducible refine bel_drew ?_) | (with_reducible refine bel_drewN ?_ _) | (with_reducible refine bel_set ?_ (by first | (simp; done) | (simp; omega) | (dsimp only; omega)) _)))⟩
  case round =>
    obtain ⟨k, hk, hkn, rfl, ho, hB⟩ := hrel
    have hO := Lib.hid ho
    have hsz := hB.size
    clear ho
    by_cases hlt : k < l.length
    · by_cases hlt2 : k < n
      · obtain ⟨b, off, rfl, _, hb, hcell⟩ := hA.out.at k hlt wr hB
        go_wp2_with (at_builtin; refine wpList_app rfl _ _ 30 rfl w.heap.size 44 i0 (.int .u64 0) 8 Tryz.underlying30 hi hz0 hz1 hz2 rfl _ k _ rfl (hO.out.alloc _) 0 _ 1 _ rfl (sl_new _ .u64 [nth l k] 44 _ 1 rfl rfl (by simp [maxLen])) (fun _ => rfl) ?qc1 ?qc2 ?qc3 ?_)
        case qc1 => simp only [maxLen]; omega
        case qc2 => omega
        case qc3 => simp; omega
        intro v' w1 ho hg
        have hB1 : RowKit.Below w.heap.size w w1 := (hB.alloc hsz _).grown hg (by simp; omega) (fun j hj => by have := hO.out.lt j hj; omega)
        go_wp2_with fail
        go_roundw
        case rel =>
          go_light
          refine ⟨k + 1, by omega, by omega, by go_num, ?_, hB1⟩
          have e : (l.take (k + 1)).map (Value.int .u64) = List.take k (l.map (Value.int .u64)) ++ [Value.int .u64 (nth [nth l k] 0)] := by
            rw [List.take_succ_eq_append_getElem hlt, List.map_append, List.map_take]
            simp [nth, hlt]
          rw [e]; exact ho
        case measure => go_light; simp [intOf]; omega
      · obtain rfl : k = n := by omega
        go_wp2_with fail
        go_ret
        have e : (l.take k).length = k := by rw [List.length_take]; omega
        refine ⟨_, rfl, ?_, hB⟩
        have := own_ints (l := l.take k) hO.out
        exact this
    · obtain rfl : k = l.length := by omega
      go_wp2_with fail
      go_ret
      have e : l.take n = l := List.take_of_length_le hkn
      refine ⟨_, rfl, ?_, hB⟩
      rw [e]
      have := own_ints (l := l) (n := l.length) (by have := hO.out; rwa [List.take_length] at this)
      exact this


theorem told_any (w : World) (i pr : Int) (a : Option Addr) (n c : Nat) : Calls Tryz.prog 29 #[.agg #[.int .u64 i, .int .i64 pr, .slice a n c]] w fun e w' => e = .returned (.agg #[.int .u64 i, .int .i64 pr, .slice a n c]) ∧ RowKit.Below w.heap.size w w' := by
  go_enter Tryz.func29, Tryz.ntmps29
  go_wp2_with fail
  refine bodyPost_ret (v := .agg #[.int .u64 i, .int .i64 pr, .slice a n c]) ?_ rfl ?_
  · simp [results, Tryz.results29, go_sem]
  exact ⟨rfl, by (repeat (first | exact Below.refl _ _ | (with_reducible assumption) | (with_reducible refine bel_later ?_ _) | (with_reducible refine bel_alloc ?_ _) | (with_reducible refine bel_drew ?_) | (with_reducible refine bel_drewN ?_ _) | (with_reducible refine bel_set ?_ (by first | (simp; done) | (simp; omega) | (dsimp only; omega)) _)))⟩
theorem rsame_any (w : World) (i pr : Int) (l : List Int) (a b : Option Addr) (c d : Nat) (ha : SlAt 0 (fun i => .int .i64 (nth l i)) l.length w (.slice a l.length c)) (hb : SlAt 0 (fun i => .int .i64 (nth l i)) l.length w (.slice b l.length d)) (hl : l.length ≤ 1000) :
    Calls Tryz.prog 28 #[.agg #[.int .u64 i, .int .i64 pr, .slice a l.length c], .agg #[.int .u64 i, .int .i64 pr, .slice b l.length d]] w fun e w' => e = .returned (.bool true) ∧ RowKit.Below w.heap.size w w' := by
  have CC := Lib.hid fun (x : World) (h : RowKit.Below w.heap.size w x) => rints_any x _ _ l l (ha.below h) (hb.below h) (by omega)
  rw [show sameI l l = true by simp [sameI]] at CC
  clear ha hb hl
  go_enter Tryz.func28, Tryz.ntmps28
  go_wp2_with fail
  refine (CC.out _ (by (repeat (first | exact Below.refl _ _ | (with_reducible assumption) | (with_reducible refine bel_later ?_ _) | (with_reducible refine bel_alloc ?_ _) | (with_reducible refine bel_drew ?_) | (with_reducible refine bel_drewN ?_ _) | (with_reducible refine bel_set ?_ (by first | (simp; done) | (simp; omega) | (dsimp only; omega)) _))))).mono ?_
  rintro e w1 ⟨rfl, hB⟩
  have hB1 : RowKit.Below w.heap.size w w1 := bel_below (by (repeat (first | exact Below.refl _ _ | (with_reducible assumption) | (with_reducible refine bel_later ?_ _) | (with_reducible refine bel_alloc ?_ _) | (with_reducible refine bel_drew ?_) | (with_reducible refine bel_drewN ?_ _) | (with_reducible refine bel_set ?_ (by first | (simp; done) | (simp; omega) | (dsimp only; omega)) _)))) hB
  clear hB
  go_wp2_with fail
  go_ret
  exact ⟨rfl, hB1⟩

set_option maxRecDepth 100000 in
set_option maxHeartbeats 8000000 in
theorem shows_any {S Q : Nat → Prop} {W w : World} {rb mb : Nat} {f : RS} {p : Where} (h : Both S Q W w rb mb f p) : Calls Tryz.prog 14 #[.pointer (some ⟨rb, 0, none⟩), (.agg #[.slice (some ⟨(p).b1, (p).o1, none⟩) 32 (p).k1, .slice (some ⟨(p).b2, (p).o2, none⟩) 32 (p).k2, .slice (some ⟨(p).b3, (p).o3, none⟩) 32 (p).k3, .slice (some ⟨(p).b4, (p).o4, none⟩) 32 (p).k4])] w fun e w' => e = .returned (.int .i64 0) ∧ RowKit.Below w.heap.size w w' := by
  have H := Lib.hid h
  have hll := length_liveL f
  clear h
  go_enter Tryz.func14, Tryz.ntmps14
  go_upto_region 1 with (fail)
  obtain ⟨w1, hw1⟩ : ∃ z, z = w.alloc (.cells #[.slice (some ⟨p.b1, p.o1, none⟩) 32 p.k1, .slice (some ⟨p.b2, p.o2, none⟩) 32 p.k2, .slice (some ⟨p.b3, p.o3, none⟩) 32 p.k3, .slice (some ⟨p.b4, p.o4, none⟩) 32 p.k4] 35) := ⟨_, rfl⟩
  obtain ⟨T, hT⟩ : ∃ T, T = w.heap.size := ⟨_, rfl⟩
  have B1 : Hid (RowKit.Below w.heap.size w w1) := by rw [hw1]; exact bel_alloc (RowKit.Below.refl _ _) _
  have T1 : Hid (BoxOf w1 T p) := by rw [hw1, hT]; exact ⟨by simp [go_sem], by simp [go_sem], by simp [go_sem], by simp [go_sem], by simp [go_sem], by simp [go_sem], by simp [go_sem], by simp [go_sem], by simp⟩
  have O1 : Hid (Both S Q W w1 rb mb f p) := H.out.later B1.out
  rw [← hw1, ← hT]
  clear hw1 hT H
  obtain ⟨g, G⟩ := O1.out.ring
  obtain ⟨V, HV⟩ := O1.out.ref
  have CV := Lib.hid fun (x : World) (hb : RowKit.Below w1.heap.size w1 x) => live_at (G.below hb)
  have CRV := Lib.hid fun (x : World) (hb : RowKit.Below w1.heap.size w1 x) => rlive_any (HV.below hb).rows
  clear G HV
  have t0 := T1.out.c0
  have t1 := T1.out.c1
  have t2 := T1.out.c2
  have t3 := T1.out.c3
  have zT := T1.out.z
  refine wp_region_heads [0, 2] 5 (fun w' => ∃ x : Later w1, w' = x.world) (by kernel_rfl) (by kernel_rfl) ⟨⟨{ w1 with drawn := w1.drawn + 1 }, bel_drew (RowKit.Below.refl _ _)⟩, rfl⟩ ?_ ?_
  · intro d v c a w h
    cases d <;> exact h
  · simp only [headOps]
    repeat (refine wpTame_step (fun K hK => ?_); go_simp; refine hK _ ?_; clear hK K)
    refine wpTame_nil ?_
    clear t0 t1 t2 t3 zT
    refine wpAnyC_step (f := 3) [1] (by kernel_rfl) rfl rfl (fun i hi => ?_)
    simp only [List.mem_cons, List.not_mem_nil, or_false] at hi
    subst hi
    · refine ⟨_, rfl, fun R hR => ?_⟩
      go_wp2_with fail
      refine (CV.out _ (bel_drew (RowKit.Below.refl _ _))).mono ?_
      rintro e w2 ⟨v, rfl, hv, hb2⟩
      have B2 : Hid (RowKit.Below w1.heap.size w1 w2) := (bel_drew (RowKit.Below.refl _ _)).trans (hb2.mono (by simp))
      have SV := Lib.hid hv
      clear hb2 hv
      go_wp2_with fail
      refine hR _ _ ⟨⟨w2, B2.out⟩, rfl⟩ ?_
      clear hR R
      refine wpAnyC_step (f := 2) [3] (by kernel_rfl) rfl rfl (fun i hi => ?_)
      simp only [List.mem_cons, List.not_mem_nil, or_false] at hi
      subst hi
      refine ⟨_, rfl, fun R hR => ?_⟩
      go_wp2_with fail
      refine (CRV.out _ B2.out).mono ?_
      rintro e w3 ⟨v2, rfl, hv2, hb3⟩
      have B3 := Lib.hid (bel_below B2.out hb3)
      have SV3 : Hid (SlAt 0 (fun i => .int .i64 (nth (liveL f) i)) (liveL f).length w3 v) := (SV.out.base (Nat.zero_le _)).below hb3
      have SU3 : Hid (SlAt 0 (fun i => .int .i64 (nth (liveL f) i)) (liveL f).length w3 v2) := hv2.base (Nat.zero_le _)
      clear hb3 hv2 SV B2
      go_wp2_with fail
      refine hR _ _ ⟨⟨w3, B3.out⟩, rfl⟩ ?_
      clear hR R
      refine wpAnyC_step (f := 1) [4] (by kernel_rfl) rfl rfl (fun i hi => ?_)
      simp only [List.mem_cons, List.not_mem_nil, or_false] at hi
      subst hi
      refine ⟨_, rfl, fun R hR => ?_⟩
      go_wp2_with fail
      refine (rints_any _ _ _ (liveL f) (liveL f) SV3.out SU3.out (by omega)).mono ?_
      rw [show sameI (liveL f) (liveL f) = true by simp [sameI]]
      rintro e w4 ⟨rfl, hb4⟩
      have B4 := Lib.hid (bel_below B3.out hb4)
      clear hb4 SV3 SU3 B3
      go_wp2_with fail
      refine hR _ _ ⟨⟨w4, B4.out⟩, rfl⟩ ?_
      clear hR R CV CRV
      refine wpAnyC_end (k := 5) (by decide) rfl rfl (by kernel_rfl) ?_
      have T4 := Lib.hid (T1.out.later B4.out)
      have O4 := Lib.hid (O1.out.later B4.out)
      have BW := Lib.hid (B1.out.trans (B4.out.mono B1.out.size))
      clear T1 O1 B4 B1
      go_wp2_with fail
      go_loopw [5, 6, 7, 36] (fun i _ _ _ wr => ∃ (k : Nat) (n : Int), k ≤ 34 ∧ n = (k : Int) - 1 ∧ i = .int .i64 n ∧ Hid (RowKit.Below w4.heap.size w4 wr)) (fun i _ _ _ _ => (33 - intOf i).toNat)
      case atStart => exact ⟨0, -1, by omega, by omega, rfl, RowKit.Below.refl _ _⟩
      case round =>
        obtain ⟨k, n, hk, hn, rfl, hB⟩ := hrel
        have hn0 : -1 ≤ n := by omega
        have HN := Lib.hid hn
        have O5 := Lib.hid (O4.out.later hB.out)
        have T5 := Lib.hid (T4.out.later hB.out)
        by_cases hlt : k < 34
        · have hn1 : n < 33 := by omega
          have hnok : okInt n := okInt_33 hn0 hn1
          clear hn
          obtain ⟨g, G⟩ := O5.out.ring
          obtain ⟨V, HV⟩ := O5.out.ref
          have hdm := O5.out.inv.dom
          have CL := fun (x : World) (hb : RowKit.Below wr.heap.size wr x) => lives_at (G.below hb) n hnok
          have CRL := fun (x : World) (hb : RowKit.Below wr.heap.size wr x) => rlives_any (HV.below hb).rows hdm n
          have CI := Lib.hid fun (x : World) (hb : RowKit.Below wr.heap.size wr x) => id_at (G.below hb) n hnok
          have CRI := Lib.hid fun (x : World) (hb : RowKit.Below wr.heap.size wr x) => rid_any (HV.below hb).rows hdm n
          have CP := Lib.hid fun (x : World) (hb : RowKit.Below wr.heap.size wr x) => peer_at (G.below hb) n hnok
          have HVV := Lib.hid HV
          clear G HV
          have t0 := T5.out.c0
          have t1 := T5.out.c1
          have t2 := T5.out.c2
          have t3 := T5.out.c3
          have zT := T5.out.z
          cases hL : livesR f n
          · rw [hL] at CL CRL
            have CLL := Lib.hid CL
            have CRLL := Lib.hid CRL
            clear CL CRL HVV hdm hnok
            go_wp2_with fail
            refine wp_region_calm (by kernel_rfl) (by kernel_rfl) ?_
            repeat (first | (go_big_quiet_step ((first | (go_at_call 31; exact calls_calm_same (CLL.out _ (by (repeat (first | exact Below.refl _ _ | (with_reducible assumption) | (with_reducible refine bel_later ?_ _) | (with_reducible refine bel_alloc ?_ _) | (with_reducible refine bel_drew ?_) | (with_reducible refine bel_drewN ?_ _) | (with_reducible refine bel_set ?_ (by first | (simp; done) | (simp; omega) | (dsimp only; omega)) _)))))) | (go_at_call 25; exact calls_calm (CRLL.out _ (by (repeat (first | exact Below.refl _ _ | (with_reducible assumption) | (with_reducible refine bel_later ?_ _) | (with_reducible refine bel_alloc ?_ _) | (with_reducible refine bel_drew ?_) | (with_reducible refine bel_drewN ?_ _) | (with_reducible refine bel_set ?_ (by first | (simp; done) | (simp; omega) | (dsimp only; omega)) _)))))) | (go_at_call 46; exact calls_calm_same (CI.out _ (by (repeat (first | exact Below.refl _ _ | (with_reducible assumption) | (with_reducible refine bel_later ?_ _) | (with_reducible refine bel_alloc ?_ _) | (with_reducible refine bel_drew ?_) | (with_reducible refine bel_drewN ?_ _) | (with_reducible refine bel_set ?_ (by first | (simp; done) | (simp; omega) | (dsimp only; omega)) _)))))) | (go_at_call 53; exact calls_calm (CRI.out _ (by (repeat (first | exact Below.refl _ _ | (with_reducible assumption) | (with_reducible refine bel_later ?_ _) | (with_reducible refine bel_alloc ?_ _) | (with_reducible refine bel_drew ?_) | (with_reducible refine bel_drewN ?_ _) | (with_reducible refine bel_set ?_ (by first | (simp; done) | (simp; omega) | (dsimp only; omega)) _))))))))) | (refine wpQuiet_step (fun K hK => ?_); go_simp; first | (refine hK _ ?_; clear hK K) | (apply Exists.intro; refine ⟨fun _ => ?_, hK _ ?_⟩; (first | (go_at_call 31; exact calls_calm_same (CLL.out _ (by (repeat (first | exact Below.refl _ _ | (with_reducible assumption) | (with_reducible refine bel_later ?_ _) | (with_reducible refine bel_alloc ?_ _) | (with_reducible refine bel_drew ?_) | (with_reducible refine bel_drewN ?_ _) | (with_reducible refine bel_set ?_ (by first | (simp; done) | (simp; omega) | (dsimp only; omega)) _)))))) | (go_at_call 25; exact calls_calm (CRLL.out _ (by (repeat (first | exact Below.refl _ _ | (with_reducible assumption) | (with_reducible refine bel_later ?_ _) | (with_reducible refine bel_alloc ?_ _) | (with_reducible refine bel_drew ?_) | (with_reducible refine bel_drewN ?_ _) | (with_reducible refine bel_set ?_ (by first | (simp; done) | (simp; omega) | (dsimp only; omega)) _)))))) | (go_at_call 46; exact calls_calm_same (CI.out _ (by (repeat (first | exact Below.refl _ _ | (with_reducible assumption) | (with_reducible refine bel_later ?_ _) | (with_reducible refine bel_alloc ?_ _) | (with_reducible refine bel_drew ?_) | (with_reducible refine bel_drewN ?_ _) | (with_reducible refine bel_set ?_ (by first | (simp; done) | (simp; omega) | (dsimp only; omega)) _)))))) | (go_at_call 53; exact calls_calm (CRI.out _ (by (repeat (first | exact Below.refl _ _ | (with_reducible assumption) | (with_reducible refine bel_later ?_ _) | (with_reducible refine bel_alloc ?_ _) | (with_reducible refine bel_drew ?_) | (with_reducible refine bel_drewN ?_ _) | (with_reducible refine bel_set ?_ (by first | (simp; done) | (simp; omega) | (dsimp only; omega)) _))))))); clear hK K)))
            refine wpQuiet_nil ?_
            intro _ hw'
            obtain ⟨xq, hw''⟩ := hw'
            subst hw''
            have B6 := Lib.hid xq.below
            obtain ⟨w6, hB6⟩ := xq
            dsimp only at B6 ⊢
            clear t0 t1 t2 t3 zT hB6
            go_wp2_with fail
            refine (CP.out _ B6.out).mono ?_
            intro e w7 h7
            unfold TellPost at h7
            rw [if_neg (by simp [hL])] at h7
            obtain ⟨v, rfl, hv, hb7⟩ := h7
            have B7 := Lib.hid (bel_below B6.out hb7)
            have EC : Hid (CodeIs w6.heap.size w7 v 6) := Or.inr ⟨by decide, hv⟩
            clear hv hb7
            go_upto_region 9 with (fail)
            obtain ⟨w8, hw8⟩ : ∃ z, z = w7.alloc (.cells #[.int .u64 0, .int .i64 0, .slice none 0 0] 63) := ⟨_, rfl⟩
            have b78 : RowKit.Below w7.heap.size w7 w8 := by rw [hw8]; exact bel_alloc (RowKit.Below.refl _ _) _
            have B8 := Lib.hid (bel_below B7.out b78)
            have E8 := Lib.hid (EC.out.below b78)
            rw [← hw8]
            clear hw8 b78 EC
            have T8 := T5.out.later B8.out
            have t0 := T8.c0
            have t1 := T8.c1
            have t2 := T8.c2
            have t3 := T8.c3
            have zT := T8.z
            clear T8
            go_wp2_with fail
            refine (CRLL.out _ B8.out).mono ?_
            rintro e w9 ⟨rfl, hb9⟩
            have B9 := Lib.hid (bel_below B8.out hb9)
            have E9 := Lib.hid (E8.out.below hb9)
            have H9 := Lib.hid ((O5.out.later B9.out).handle)
            clear hb9 t0 t1 t2 t3 zT
            go_wp2_with fail
            refine (of_code E9.out H9.out).mono ?_
            rintro e w10 ⟨rfl, hb10⟩
            have B10 := Lib.hid (bel_below B9.out hb10)
            clear hb10
            go_wp2_with fail
            go_roundw
            case rel => go_light; exact ⟨k + 1, n + 1, by omega, by have := HN.out; omega, by go_num, bel_below hB.out B10.out⟩
            case measure => go_light; simp [intOf]; omega
          · obtain ⟨hm0, hm1⟩ := livesR_dom hdm hL
            obtain ⟨m, rfl⟩ : ∃ m : Nat, n = m := ⟨n.toNat, by omega⟩
            have hm32 : m < 32 := by omega
            rw [hL] at CL CRL
            have CLL := Lib.hid CL
            have CRLL := Lib.hid CRL
            obtain ⟨sl, hsl⟩ : ∃ sl, sl = succR f m := ⟨_, rfl⟩
            have hs3 := (dom_len hdm m).1
            have SVV : Hid (SlIn Q sl wr (V m)) := by rw [hsl]; exact HVV.out.list m hm32
            have hP : Hid (∀ x, RowKit.Below wr.heap.size wr x → x.cell? ⟨p.b4, p.o4 + m * 3, none⟩ = some (.int .u64 (idR f m)) ∧ x.cell? ⟨p.b4, p.o4 + m * 3 + 1, none⟩ = some (.int .i64 (predR f m)) ∧ x.cell? ⟨p.b4, p.o4 + m * 3 + 2, none⟩ = some (V m) ∧ p.b4 < x.heap.size) := fun x hb => by
              have := (HVV.out.below hb).rows
              exact ⟨(this.at_peer hm32).1, (this.at_peer hm32).2.1, (this.at_peer hm32).2.2, this.peers.z⟩
            have hk1 := HVV.out.rows.peers.c0
            have hk2 := HVV.out.rows.peers.c1
            clear CL CRL HVV hnok
            obtain ⟨ua, uc, hu⟩ := SVV.out.len
            rw [hu] at hP SVV
            clear hu
            rw [← hsl] at hs3
            have HSL := Lib.hid hsl
            clear hsl
            go_wp2_with fail
            refine wp_region_calm (by kernel_rfl) (by kernel_rfl) ?_
            repeat (first | (go_big_quiet_step ((first | (go_at_call 31; exact calls_calm_same (CLL.out _ (by (repeat (first | exact Below.refl _ _ | (with_reducible assumption) | (with_reducible refine bel_later ?_ _) | (with_reducible refine bel_alloc ?_ _) | (with_reducible refine bel_drew ?_) | (with_reducible refine bel_drewN ?_ _) | (with_reducible refine bel_set ?_ (by first | (simp; done) | (simp; omega) | (dsimp only; omega)) _)))))) | (go_at_call 25; exact calls_calm (CRLL.out _ (by (repeat (first | exact Below.refl _ _ | (with_reducible assumption) | (with_reducible refine bel_later ?_ _) | (with_reducible refine bel_alloc ?_ _) | (with_reducible refine bel_drew ?_) | (with_reducible refine bel_drewN ?_ _) | (with_reducible refine bel_set ?_ (by first | (simp; done) | (simp; omega) | (dsimp only; omega)) _)))))) | (go_at_call 46; exact calls_calm_same (CI.out _ (by (repeat (first | exact Below.refl _ _ | (with_reducible assumption) | (with_reducible refine bel_later ?_ _) | (with_reducible refine bel_alloc ?_ _) | (with_reducible refine bel_drew ?_) | (with_reducible refine bel_drewN ?_ _) | (with_reducible refine bel_set ?_ (by first | (simp; done) | (simp; omega) | (dsimp only; omega)) _)))))) | (go_at_call 53; exact calls_calm (CRI.out _ (by (repeat (first | exact Below.refl _ _ | (with_reducible assumption) | (with_reducible refine bel_later ?_ _) | (with_reducible refine bel_alloc ?_ _) | (with_reducible refine bel_drew ?_) | (with_reducible refine bel_drewN ?_ _) | (with_reducible refine bel_set ?_ (by first | (simp; done) | (simp; omega) | (dsimp only; omega)) _))))))))) | (refine wpQuiet_step (fun K hK => ?_); go_simp; first | (refine hK _ ?_; clear hK K) | (apply Exists.intro; refine ⟨fun _ => ?_, hK _ ?_⟩; (first | (go_at_call 31; exact calls_calm_same (CLL.out _ (by (repeat (first | exact Below.refl _ _ | (with_reducible assumption) | (with_reducible refine bel_later ?_ _) | (with_reducible refine bel_alloc ?_ _) | (with_reducible refine bel_drew ?_) | (with_reducible refine bel_drewN ?_ _) | (with_reducible refine bel_set ?_ (by first | (simp; done) | (simp; omega) | (dsimp only; omega)) _)))))) | (go_at_call 25; exact calls_calm (CRLL.out _ (by (repeat (first | exact Below.refl _ _ | (with_reducible assumption) | (with_reducible refine bel_later ?_ _) | (with_reducible refine bel_alloc ?_ _) | (with_reducible refine bel_drew ?_) | (with_reducible refine bel_drewN ?_ _) | (with_reducible refine bel_set ?_ (by first | (simp; done) | (simp; omega) | (dsimp only; omega)) _)))))) | (go_at_call 46; exact calls_calm_same (CI.out _ (by (repeat (first | exact Below.refl _ _ | (with_reducible assumption) | (with_reducible refine bel_later ?_ _) | (with_reducible refine bel_alloc ?_ _) | (with_reducible refine bel_drew ?_) | (with_reducible refine bel_drewN ?_ _) | (with_reducible refine bel_set ?_ (by first | (simp; done) | (simp; omega) | (dsimp only; omega)) _)))))) | (go_at_call 53; exact calls_calm (CRI.out _ (by (repeat (first | exact Below.refl _ _ | (with_reducible assumption) | (with_reducible refine bel_later ?_ _) | (with_reducible refine bel_alloc ?_ _) | (with_reducible refine bel_drew ?_) | (with_reducible refine bel_drewN ?_ _) | (with_reducible refine bel_set ?_ (by first | (simp; done) | (simp; omega) | (dsimp only; omega)) _))))))); clear hK K)))
            refine wpQuiet_nil ?_
            intro _ hw'
            obtain ⟨xq, hw''⟩ := hw'
            subst hw''
            have B6 := Lib.hid xq.below
            obtain ⟨w6, hB6⟩ := xq
            dsimp only at B6 ⊢
            clear t0 t1 t2 t3 zT hB6
            go_wp2_with fail
            refine (CP.out _ B6.out).mono ?_
            intro e w7 h7
            unfold TellPost at h7
            rw [if_pos hL, ← HSL.out] at h7
            obtain ⟨v, rfl, hv, hb7⟩ := h7
            obtain ⟨va, vc, rfl, _⟩ := hv.slice
            have B7 := Lib.hid (bel_below B6.out hb7)
            have SV7 : Hid (SlAt 0 (fun i => .int .i64 (nth sl i)) sl.length w7 (.slice va sl.length vc)) := hv.base (Nat.zero_le _)
            clear hv hb7
            have B7s := Lib.hid (SVV.out.slAt)
            obtain ⟨idn, hidn⟩ : ∃ x, x = idR f m := ⟨_, rfl⟩
            obtain ⟨prn, hprn⟩ : ∃ x, x = predR f m := ⟨_, rfl⟩
            rw [← hidn, ← hprn] at hP ⊢
            clear hidn hprn CI CRI CP
            go_upto_region 9 with (fail)
            obtain ⟨w8, hw8⟩ : ∃ z, z = w7.alloc (.cells #[.int .u64 idn, .int .i64 prn, .slice va sl.length vc] 63) := ⟨_, rfl⟩
            obtain ⟨Y, hY⟩ : ∃ Y, Y = w7.heap.size := ⟨_, rfl⟩
            have b78 : RowKit.Below w7.heap.size w7 w8 := by rw [hw8]; exact bel_alloc (RowKit.Below.refl _ _) _
            have Y8 : Hid (w8.cell? ⟨Y, 0, none⟩ = some (.int .u64 idn) ∧ w8.cell? ⟨Y, 1, none⟩ = some (.int .i64 prn) ∧ w8.cell? ⟨Y, 2, none⟩ = some (.slice va sl.length vc) ∧ Y < w8.heap.size) := by
              show _ ∧ _
              rw [hw8, hY]
              exact ⟨by simp [go_sem], by simp [go_sem], by simp [go_sem], by simp⟩
            have B8 := Lib.hid (bel_below B7.out b78)
            have S8 := Lib.hid (SV7.out.below b78)
            rw [← hw8, ← hY]
            clear hw8 hY b78 SV7
            have T8 := T5.out.later B8.out
            have t0 := T8.c0
            have t1 := T8.c1
            have t2 := T8.c2
            have t3 := T8.c3
            have zT := T8.z
            clear T8
            go_wp2_with fail
            refine (CRLL.out _ B8.out).mono ?_
            rintro e w9 ⟨rfl, hb9⟩
            have B9 := Lib.hid (bel_below B8.out hb9)
            have S9 := Lib.hid (S8.out.below hb9)
            have U9 := Lib.hid (B7s.out.below B9.out)
            have y0 := (hb9.cell (p := ⟨Y, 0, none⟩) Y8.out.2.2.2).trans Y8.out.1
            have y1 := (hb9.cell (p := ⟨Y, 1, none⟩) Y8.out.2.2.2).trans Y8.out.2.1
            have y2 := (hb9.cell (p := ⟨Y, 2, none⟩) Y8.out.2.2.2).trans Y8.out.2.2.1
            have zY := Nat.lt_of_lt_of_le Y8.out.2.2.2 hb9.size
            clear hb9 t0 t1 t2 t3 zT
            have T9 := T5.out.later B9.out
            have t0 := T9.c0
            have t1 := T9.c1
            have t2 := T9.c2
            have t3 := T9.c3
            have zT := T9.z
            clear T9
            obtain ⟨p0, p1, p2, zp⟩ := hP.out _ B9.out
            have hni : ((m : Nat) : Int) < 32 := by omega
            have CS := Lib.hid fun (x : World) (hb : RowKit.Below w9.heap.size w9 x) => rsame_any x idn prn sl va ua vc uc (S9.out.below hb) (U9.out.below hb) (by omega)
            have CT := Lib.hid fun (x : World) => told_any x idn prn va sl.length vc
            clear S8 S9 U9 B7s SVV Y8 CRLL CLL hP
            go_wp2_with fail
            refine wp_region_calm (by kernel_rfl) (by kernel_rfl) ?_
            repeat (first | (go_big_quiet_step ((first | (go_at_call 29; exact calls_calm (CT.out _)) | (go_at_call 28; exact calls_calm (CS.out _ (by (repeat (first | exact Below.refl _ _ | (with_reducible assumption) | (with_reducible refine bel_later ?_ _) | (with_reducible refine bel_alloc ?_ _) | (with_reducible refine bel_drew ?_) | (with_reducible refine bel_drewN ?_ _) | (with_reducible refine bel_set ?_ (by first | (simp; done) | (simp; omega) | (dsimp only; omega)) _))))))))) | (refine wpQuiet_step (fun K hK => ?_); go_simp; first | (refine hK _ ?_; clear hK K) | (apply Exists.intro; refine ⟨fun _ => ?_, hK _ ?_⟩; (first | (go_at_call 29; exact calls_calm (CT.out _)) | (go_at_call 28; exact calls_calm (CS.out _ (by (repeat (first | exact Below.refl _ _ | (with_reducible assumption) | (with_reducible refine bel_later ?_ _) | (with_reducible refine bel_alloc ?_ _) | (with_reducible refine bel_drew ?_) | (with_reducible refine bel_drewN ?_ _) | (with_reducible refine bel_set ?_ (by first | (simp; done) | (simp; omega) | (dsimp only; omega)) _))))))); clear hK K)))
            refine wpQuiet_nil ?_
            intro _ hw'
            obtain ⟨xq, hw''⟩ := hw'
            subst hw''
            have B10 := Lib.hid (bel_below B9.out xq.below)
            obtain ⟨w10, hB10⟩ := xq
            dsimp only at B10 ⊢
            clear t0 t1 t2 t3 zT y0 y1 y2 zY p0 p1 p2 zp hB10
            go_wp2_with fail
            go_roundw
            case rel => go_light; exact ⟨k + 1, (m : Int) + 1, by omega, by have := HN.out; omega, by go_num, bel_below hB.out B10.out⟩
            case measure => go_light; simp [intOf]; omega
        · have hn1 : ¬ n < 33 := by omega
          clear hn
          go_wp2_with fail
          go_ret
          exact ⟨rfl, bel_below BW.out hB.out⟩
set_option maxRecDepth 100000 in
set_option maxHeartbeats 8000000 in
theorem plays_no (W : World) (hH : HandleAt W) (v0 v1 : Value) (ids0 : List Int) (hi : SlAt 0 (fun i => .int .u64 (nth ids0 i)) ids0.length W v0) (hp : ∀ x ∈ ids0, isPlace x) (hf0 : fourB ids0 = false) : Calls Tryz.prog 3 #[v0, v1] W (OneYes W) := by
  obtain ⟨a0, c0, rfl, hc0, hm0⟩ := hi.slice
  have HH := Lib.hid hH
  clear hH
  by_cases h6 : 6 < ids0.length
  · have h6I : (6 : Int) < (ids0.length : Int) := by omega
    have hcI : (6 : Int) ≤ (c0 : Int) := by omega
    have hcN : 6 ≤ c0 := by omega
    obtain ⟨ids, hids⟩ : ∃ l, l = ids0.take 6 := ⟨_, rfl⟩
    have hl : ids.length = 6 := by rw [hids, List.length_take]; omega
    have hl6 : ids.length ≤ 6 := by omega
    have HI : Hid (SlAt 0 (fun i => .int .u64 (nth ids i)) ids.length W (.slice a0 6 c0)) := by
      rw [hl]; exact (hi.take (m := 6) (by omega)).congr fun i h => by rw [hids, nth_take h]
    have HPL : Hid (∀ x ∈ ids, isPlace x) := fun x hx => hp x (by rw [hids] at hx; exact List.mem_of_mem_take hx)
    have hf : fourB ids = false := by unfold fourB; rw [hl]; rfl
    clear hi hp hids hf0 hl
    go_enter Tryz.func3, Tryz.ntmps3
    go_wp2_with fail
    refine (new_any W _ ids (HI.out) HPL.out).mono ?_
    intro e w2 hp2
    unfold AskPost at hp2
    rw [if_neg (by simp [hf])] at hp2
    obtain ⟨v, rfl, her, hB2⟩ := hp2
    have hcc : (if ids.length = 4 then (8 : Int) else 1) = newC ids := by
      unfold fourB at hf
      unfold newC
      by_cases e4 : ids.length = 4
      · rw [if_pos e4, if_pos e4]
        by_cases e5 : (setI ids).length = 4
        · simp [e4, e5] at hf
        · rw [if_neg e5]
      · rw [if_neg e4, if_neg e4]
    rw [hcc] at her
    have hnc : newC ids ≠ 0 := by rw [← hcc]; split <;> decide
    have E2 : Hid (CodeIs W.heap.size w2 v (newC ids)) := Or.inr ⟨hnc, her⟩
    have B2 := Lib.hid hB2
    have HNC := Lib.hid hnc
    have hcb : (newC ids != 0) = true := by simpa using hnc
    have CN := Lib.hid fun x v hi => rnew_no x v ids hi (by omega) hnc
    have SN := Lib.hid ((HI.out).below hB2)
    clear her hB2 hcc hnc
    generalize newC ids = c at *
    go_wp2_with fail
    refine (nums_any _ _ ids 6 SN.out (by omega)).mono ?_
    rw [List.take_of_length_le hl6]
    rintro e w3 ⟨v3, rfl, hs3, hb3⟩
    have B3 := Lib.hid (bel_below B2.out hb3)
    have E3 := Lib.hid (E2.out.below hb3)
    have S3 : Hid (SlAt 0 (fun i => .int .u64 (nth ids i)) ids.length w3 v3) := hs3.base (Nat.zero_le _)
    clear hs3 hb3
    go_wp2_with fail
    refine (CN.out _ _ S3.out).mono ?_
    rintro e w4 ⟨rfl, hb4⟩
    have B4 := Lib.hid (bel_below B3.out hb4)
    have E4 := Lib.hid (E3.out.below hb4)
    clear hb4
    go_upto_region 5 with (fail)
    obtain ⟨w5, hw5⟩ : ∃ z, z = w4.alloc (.cells #[.slice none 0 0, .slice none 0 0, .slice none 0 0, .slice none 0 0] 35) := ⟨_, rfl⟩
    have b45 : RowKit.Below w4.heap.size w4 w5 := by rw [hw5]; exact bel_alloc (RowKit.Below.refl _ _) _
    have B5 := Lib.hid (bel_below B4.out b45)
    have E5 := Lib.hid (E4.out.below b45)
    rw [← hw5]
    clear hw5 b45
    go_wp2_with fail
    refine (awake_any _).mono ?_
    rintro e w6 ⟨rfl, hb6⟩
    have B6 := Lib.hid (bel_below B5.out hb6)
    have E6 := Lib.hid (E5.out.below hb6)
    clear hb6
    go_wp2_with fail
    refine (of_code E6.out (HH.out.below B6.out)).mono ?_
    rintro e w7 ⟨rfl, hb7⟩
    have B7 := Lib.hid (bel_below B6.out hb7)
    clear hb7
    go_wp2_with fail
    go_ret
    exact ⟨rfl, B7.out⟩
  · have h6I : ¬ (6 : Int) < (ids0.length : Int) := by omega
    obtain ⟨ids, hids⟩ : ∃ l, l = ids0 := ⟨_, rfl⟩
    rw [← hids] at hi hp hf0 h6I h6 ⊢
    have hl6 : ids.length ≤ 6 := by omega
    have HI := Lib.hid hi
    have HPL := Lib.hid hp
    have hf := hf0
    clear hi hp hids hf0 h6
    go_enter Tryz.func3, Tryz.ntmps3
    go_wp2_with fail
    refine (new_any W _ ids (HI.out) HPL.out).mono ?_
    intro e w2 hp2
    unfold AskPost at hp2
    rw [if_neg (by simp [hf])] at hp2
    obtain ⟨v, rfl, her, hB2⟩ := hp2
    have hcc : (if ids.length = 4 then (8 : Int) else 1) = newC ids := by
      unfold fourB at hf
      unfold newC
      by_cases e4 : ids.length = 4
      · rw [if_pos e4, if_pos e4]
        by_cases e5 : (setI ids).length = 4
        · simp [e4, e5] at hf
        · rw [if_neg e5]
      · rw [if_neg e4, if_neg e4]
    rw [hcc] at her
    have hnc : newC ids ≠ 0 := by rw [← hcc]; split <;> decide
    have E2 : Hid (CodeIs W.heap.size w2 v (newC ids)) := Or.inr ⟨hnc, her⟩
    have B2 := Lib.hid hB2
    have HNC := Lib.hid hnc
    have hcb : (newC ids != 0) = true := by simpa using hnc
    have CN := Lib.hid fun x v hi => rnew_no x v ids hi (by omega) hnc
    have SN := Lib.hid ((HI.out).below hB2)
    clear her hB2 hcc hnc
    generalize newC ids = c at *
    go_wp2_with fail
    refine (nums_any _ _ ids 6 SN.out (by omega)).mono ?_
    rw [List.take_of_length_le hl6]
    rintro e w3 ⟨v3, rfl, hs3, hb3⟩
    have B3 := Lib.hid (bel_below B2.out hb3)
    have E3 := Lib.hid (E2.out.below hb3)
    have S3 : Hid (SlAt 0 (fun i => .int .u64 (nth ids i)) ids.length w3 v3) := hs3.base (Nat.zero_le _)
    clear hs3 hb3
    go_wp2_with fail
    refine (CN.out _ _ S3.out).mono ?_
    rintro e w4 ⟨rfl, hb4⟩
    have B4 := Lib.hid (bel_below B3.out hb4)
    have E4 := Lib.hid (E3.out.below hb4)
    clear hb4
    go_upto_region 5 with (fail)
    obtain ⟨w5, hw5⟩ : ∃ z, z = w4.alloc (.cells #[.slice none 0 0, .slice none 0 0, .slice none 0 0, .slice none 0 0] 35) := ⟨_, rfl⟩
    have b45 : RowKit.Below w4.heap.size w4 w5 := by rw [hw5]; exact bel_alloc (RowKit.Below.refl _ _) _
    have B5 := Lib.hid (bel_below B4.out b45)
    have E5 := Lib.hid (E4.out.below b45)
    rw [← hw5]
    clear hw5 b45
    go_wp2_with fail
    refine (awake_any _).mono ?_
    rintro e w6 ⟨rfl, hb6⟩
    have B6 := Lib.hid (bel_below B5.out hb6)
    have E6 := Lib.hid (E5.out.below hb6)
    clear hb6
    go_wp2_with fail
    refine (of_code E6.out (HH.out.below B6.out)).mono ?_
    rintro e w7 ⟨rfl, hb7⟩
    have B7 := Lib.hid (bel_below B6.out hb7)
    clear hb7
    go_wp2_with fail
    go_ret
    exact ⟨rfl, B7.out⟩
set_option maxRecDepth 100000 in
set_option maxHeartbeats 8000000 in
theorem plays_yes (W : World) (hH : HandleAt W) (v0 v1 : Value) (ids : List Int) (acts : List ActD) (hi : SlAt 0 (fun i => .int .u64 (nth ids i)) ids.length W v0) (hp : ∀ x ∈ ids, isPlace x)
    (ha : ActsAt acts W v1) (hao : ∀ k, k < acts.length → (actAt acts k).ok) (hf : fourB ids = true) : Calls Tryz.prog 3 #[v0, v1] W (OneYes W) := by
  have hF := fourB_four hf hp
  have h44 : ids.length = 4 ∧ (setI ids).length = 4 := by unfold fourB at hf; simpa using hf
  obtain ⟨a0, c0, rfl, _⟩ := hi.slice
  obtain ⟨a1, q1, rfl, _, hm1⟩ := ha.slice
  have ham : acts.length ≤ 9223372036854775807 := by unfold maxLen at hm1; omega
  have HI := Lib.hid hi
  have HPL := Lib.hid hp
  have HA := Lib.hid ha
  have HAO := Lib.hid hao
  have HH := Lib.hid hH
  have H44 := Lib.hid h44
  have HF4 := Lib.hid hF
  have HFB := Lib.hid hf
  have h6I : ¬ (6 : Int) < (ids.length : Int) := by omega
  have hl6 : ids.length ≤ 6 := by omega
  clear hi hp ha hao hH hf hF h44
  go_enter Tryz.func3, Tryz.ntmps3
  go_wp2_with fail
  refine (new_any W _ ids HI.out HPL.out).mono ?_
  intro e w1 hp2
  unfold AskPost at hp2
  rw [if_pos HFB.out] at hp2
  obtain ⟨rb, mb, g, rfl, hg, hB1⟩ := hp2
  have G1 := Lib.hid hg
  have B1 := Lib.hid hB1
  have S1 := Lib.hid (HI.out.below hB1)
  clear hg hB1
  go_wp2_with fail
  refine (nums_any _ _ ids 6 S1.out (by omega)).mono ?_
  rw [List.take_of_length_le hl6]
  rintro e w2 ⟨v3, rfl, hs3, hb3⟩
  have B2 := Lib.hid (bel_below B1.out hb3)
  have b12 := Lib.hid hb3
  have S2 : Hid (SlAt 0 (fun i => .int .u64 (nth ids i)) ids.length w2 v3) := hs3.base (Nat.zero_le _)
  clear hs3 hb3
  go_wp2_with fail
  refine (rnew_yes w2 _ ids S2.out H44.out.1 H44.out.2 HF4.out).mono ?_
  rintro e w3 ⟨x, rfl, p, V, rfl, hR3, hB3⟩
  simp only [Where.val, Where.used, Where.live, Where.ids, Where.peers]
  have b13 : RowKit.Below w1.heap.size w1 w3 := bel_below b12.out hB3
  have z13 := b13.size
  have z12 := b12.out.size
  have z01 := B1.out.size
  have z23 := hB3.size
  have BO3 : Both (Now (fun b => W.heap.size ≤ b) w1 w3) (fun b => w2.heap.size ≤ b ∧ b < w3.heap.size) W w3 rb mb (newF ids (setI ids) 4) p := by
    refine ⟨⟨g, G1.out.now b13⟩, ⟨V, hR3.same (fun b hb hq => by rcases hq with hq | hq <;> first | exact hq.1.elim | exact ⟨hq, hb⟩) (Nat.le_refl _) fun _ _ _ => rfl⟩, fun b hq hS => ?_, fun b hS => ?_, inv_new HF4.out, bel_below B2.out hB3, HH.out⟩
    · rcases hS with hS | hS <;> omega
    · rcases hS with hS | hS <;> omega
  have HB3 := Lib.hid BO3
  clear hB3 hR3 BO3 b13
  go_upto_region 5 with (fail)
  obtain ⟨w4, hw4⟩ : ∃ z, z = w3.alloc (.cells #[.slice (some ⟨p.b1, p.o1, none⟩) 32 p.k1, .slice (some ⟨p.b2, p.o2, none⟩) 32 p.k2, .slice (some ⟨p.b3, p.o3, none⟩) 32 p.k3, .slice (some ⟨p.b4, p.o4, none⟩) 32 p.k4] 35) := ⟨_, rfl⟩
  obtain ⟨T, hT⟩ : ∃ T, T = w3.heap.size := ⟨_, rfl⟩
  have b34 : RowKit.Below w3.heap.size w3 w4 := by rw [hw4]; exact bel_alloc (RowKit.Below.refl _ _) _
  have U4 : Hid (BoxOf w4 T p) := by rw [hw4, hT]; exact ⟨by simp [go_sem], by simp [go_sem], by simp [go_sem], by simp [go_sem], by simp [go_sem], by simp [go_sem], by simp [go_sem], by simp [go_sem], by simp⟩
  have hz4 : w3.heap.size < w4.heap.size := by rw [hw4]; simp
  have P4 := Lib.hid (HB3.out.now b34)
  have hT0 : Hid (¬ Now (Now (fun b => W.heap.size ≤ b) w1 w3) w3 w4 T ∧ ¬ ((w2.heap.size ≤ T ∧ T < w3.heap.size) ∧ T < w3.heap.size) ∧ W.heap.size ≤ T) := by
    refine ⟨fun h => ?_, fun h => ?_, by omega⟩
    · rcases h with h | h <;> omega
    · omega
  rw [← hw4, ← hT]
  clear hw4 b34 hT HB3 z13 z12 z01 z23 hz4
  go_wp2_with fail
  refine (awake_any _).mono ?_
  rintro e w5 ⟨rfl, hb5⟩
  have U5 := Lib.hid (U4.out.later hb5)
  have P5 := Lib.hid (P4.out.later hb5)
  clear hb5 U4 P4
  go_wp2_with fail
  refine (of_code (B := 0) (c := 0) (Or.inl ⟨rfl, rfl⟩) P5.out.handle).mono ?_
  rintro e w6 ⟨rfl, hb6⟩
  have T4 := Lib.hid (U5.out.later hb6)
  have BO4 := Lib.hid (P5.out.later hb6)
  clear hb6 U5 P5
  clear B1 B2 S1 S2 G1 b12 HI
  go_wp2_with fail
  go_loopw [9, 10, 11, 55] (fun i _ _ _ wr => ∃ (k : Nat) (f : RS) (p : Where) (S Q : Nat → Prop), k ≤ acts.length ∧ i = .int .i64 k ∧ Hid (Both S Q W wr rb mb f p) ∧ Hid (BoxOf wr T p) ∧ Hid (¬ S T ∧ ¬ Q T ∧ W.heap.size ≤ T)) (fun i _ _ _ _ => acts.length - (intOf i).toNat)
  case atStart => exact ⟨0, _, p, _, _, Nat.zero_le _, rfl, BO4.out, T4.out, hT0.out⟩
  case round =>
    obtain ⟨k, f, p, S, Q, hk, rfl, hO, hT, hX⟩ := hrel
    have t0 := hT.out.c0
    have t1 := hT.out.c1
    have t2 := hT.out.c2
    have t3 := hT.out.c3
    have zT := hT.out.z
    have hST := hX.out.1
    by_cases hlt : k < acts.length
    · by_cases hlt2 : k < 60
      · have hkn : ((k : Nat) : Int) < 60 := by omega
        obtain ⟨b, off, rfl, hbW, d0, d1, d2, d3⟩ := HA.out.at k hlt W (RowKit.Below.refl _ _)
        have hok := HAO.out k hlt
        generalize hAk : actAt acts k = A at d0 d1 d2 d3 hok
        obtain ⟨kd, an, av, ai⟩ := A
        dsimp only at d0 d1 d2 d3
        have HOK := Lib.hid hok
        have d0 := (hO.out.below.cell (p := ⟨b, off + k * 4, none⟩) hbW).trans d0
        have d1 := (hO.out.below.cell (p := ⟨b, off + k * 4 + 1, none⟩) hbW).trans d1
        have d2 := (hO.out.below.cell (p := ⟨b, off + k * 4 + 2, none⟩) hbW).trans d2
        have d3 := (hO.out.below.cell (p := ⟨b, off + k * 4 + 3, none⟩) hbW).trans d3
        have hbw : b < wr.heap.size := Nat.lt_of_lt_of_le hbW hO.out.below.size
        have hSb : ¬ S b := fun h => by have := hO.out.low b h; omega
        have hup := Lib.hid hO.out.up
        clear hok hAk
        go_wp2_with fail
        refine wp_region_heads [0, 1, 2, 3, 4, 5] 12 (fun w' => ∃ x : KeptW S wr, w' = x.world) (by kernel_rfl) (by kernel_rfl) ⟨⟨{ wr with drawn := wr.drawn + 1 }, (Kept.refl S wr).drew⟩, rfl⟩ ?_ ?_
        · intro d v c a w h
          cases d <;> exact h
        · simp only [headOps]
          repeat (refine wpTame_step (fun K hK => ?_); go_simp; refine hK _ ?_; clear hK K)
          refine wpTame_nil ?_
          clear t0 t1 t2 t3 d0 d1 d2 d3 hkn
          refine wpAnyC_step (f := 6) [6, 10] (by kernel_rfl) rfl rfl (fun i hi => ?_)
          simp only [List.mem_cons, List.not_mem_nil, or_false] at hi
          rcases hi with rfl | rfl
          · refine ⟨_, rfl, fun R hR' => ?_⟩
            go_wp2_with fail
            refine (does_any (hO.out.later (bel_drew (RowKit.Below.refl _ _))) kd an av ai HOK.out.n HOK.out.via HOK.out.id).mono ?_
            rintro e w5 ⟨p', S', Q', rfl, hs1, hs0, hBo, hk5⟩
            have K5 : Hid (Kept S wr w5) := ((Kept.refl S wr).drew).trans hk5
            have hz5 := K5.out.size
            have O5 := Lib.hid hBo
            have NX : Hid (¬ S' T ∧ ¬ Q' T ∧ W.heap.size ≤ T) := ⟨fun h => hX.out.1 (hs1 _ h), fun h => by rcases hs0 _ h with h | h <;> first | exact hX.out.2.1 h | (simp at h; omega), hX.out.2.2⟩
            have T5 : Hid (BoxOf w5 T p) := hT.out.block hz5 (K5.out.block _ zT hST)
            clear hs1 hs0 hBo hk5
            go_wp2_with fail
            refine hR' _ _ ⟨⟨w5, K5.out⟩, rfl⟩ ?_
            clear hR' R
            refine wpAnyC_mid (f := 3) [7, 8, 9] ⟨⟨w5, K5.out⟩, rfl⟩ (by kernel_rfl) (fun d v c a w h => by cases d <;> exact h) ?_
            simp only [headOps]
            repeat (refine wpTame_step (fun K hK => ?_); go_simp; refine hK _ ?_; clear hK K)
            refine wpTame_nil ?_
            refine wpAnyC_step (f := 2) [10] (by kernel_rfl) rfl rfl (fun i hi => ?_)
            simp only [List.mem_cons, List.not_mem_nil, or_false] at hi
            subst hi
            refine ⟨_, rfl, fun R hR' => ?_⟩
            go_wp2_with fail
            refine hR' _ _ ⟨⟨_, K5.out.alloc _⟩, rfl⟩ ?_
            clear hR' R
            refine wpAnyC_step (f := 1) [11] (by kernel_rfl) rfl rfl (fun i hi => ?_)
            simp only [List.mem_cons, List.not_mem_nil, or_false] at hi
            subst hi
            refine ⟨_, rfl, fun R hR' => ?_⟩
            go_wp2_with fail
            obtain ⟨w6, hw6⟩ : ∃ z, z = w5.alloc (.cells #[.slice (some ⟨p'.b1, p'.o1, none⟩) 32 p'.k1, .slice (some ⟨p'.b2, p'.o2, none⟩) 32 p'.k2, .slice (some ⟨p'.b3, p'.o3, none⟩) 32 p'.k3, .slice (some ⟨p'.b4, p'.o4, none⟩) 32 p'.k4] 35) := ⟨_, rfl⟩
            obtain ⟨X, hXX⟩ : ∃ X, X = w5.heap.size := ⟨_, rfl⟩
            have b56 : RowKit.Below w5.heap.size w5 w6 := by rw [hw6]; exact bel_alloc (RowKit.Below.refl _ _) _
            have X6 : Hid (BoxOf w6 X p') := by rw [hw6, hXX]; exact ⟨by simp [go_sem], by simp [go_sem], by simp [go_sem], by simp [go_sem], by simp [go_sem], by simp [go_sem], by simp [go_sem], by simp [go_sem], by simp⟩
            have T6 := Lib.hid (T5.out.later b56)
            have O6 := Lib.hid (O5.out.later b56)
            have K6 := Lib.hid (K5.out.below b56)
            rw [← hw6, ← hXX]
            refine hR' _ _ ⟨⟨w6, K6.out⟩, rfl⟩ ?_
            clear hR' R hw6 hXX b56 T5 O5 K5
            refine wpAnyC_end (k := 12) (by decide) rfl rfl (by kernel_rfl) ?_
            have c0 := X6.out.c0
            have c1 := X6.out.c1
            have c2 := X6.out.c2
            have c3 := X6.out.c3
            have zx := X6.out.z
            have d0 := T6.out.c0
            have d1 := T6.out.c1
            have d2 := T6.out.c2
            have d3 := T6.out.c3
            have f0 := T6.out.f0
            have f1 := T6.out.f1
            have f2 := T6.out.f2
            have f3 := T6.out.f3
            have zT := T6.out.z
            go_upto_region 14 with (fail)
            obtain ⟨w7, hw7⟩ : ∃ z, z = (((w6.setCell ⟨T, 0, none⟩ (.slice (some ⟨p'.b1, p'.o1, none⟩) 32 p'.k1)).setCell ⟨T, 1, none⟩ (.slice (some ⟨p'.b2, p'.o2, none⟩) 32 p'.k2)).setCell ⟨T, 2, none⟩ (.slice (some ⟨p'.b3, p'.o3, none⟩) 32 p'.k3)).setCell ⟨T, 3, none⟩ (.slice (some ⟨p'.b4, p'.o4, none⟩) 32 p'.k4) := ⟨_, rfl⟩
            obtain ⟨hz7, hk7⟩ := block_set4 hw7
            have T7 : Hid (BoxOf w7 T p') := T6.out.store _ _ _ _ hw7
            have O7 : Hid (Both S' Q' W w7 rb mb (actR [1, 2, 3, 4] f ⟨kd, an, av, ai⟩) p') := O6.out.aside NX.out.1 NX.out.2.1 NX.out.2.2 (by rw [hw7]; rfl) (by rw [hw7]; rfl) (by rw [hw7]; rfl) hz7 hk7
            rw [← hw7]
            clear hw7 hz7 hk7 c0 c1 c2 c3 zx d0 d1 d2 d3 f0 f1 f2 f3 zT X6 T6 O6
            have d0 := T7.out.c0
            have d1 := T7.out.c1
            have d2 := T7.out.c2
            have d3 := T7.out.c3
            have zT := T7.out.z
            go_wp2_with fail
            refine (shows_any O7.out).mono ?_
            rintro e w8 ⟨rfl, hb8⟩
            have T8 := Lib.hid (T7.out.later hb8)
            have O8 := Lib.hid (O7.out.later hb8)
            clear hb8 T7 O7 d0 d1 d2 d3 zT
            go_wp2_with fail
            go_roundw
            case rel => go_light; exact ⟨k + 1, _, p', S', Q', by omega, by go_num, O8.out, T8.out, NX.out⟩
            case measure => go_light; simp [intOf]; omega
          · refine ⟨_, rfl, fun R hR' => ?_⟩
            go_wp2_with fail
            obtain ⟨wa, hwa⟩ : ∃ z, z = (wr.alloc (.cells #[.slice none 0 0, .slice none 0 0, .slice none 0 0, .slice none 0 0] 35)).drew := ⟨_, rfl⟩
            obtain ⟨X, hXX⟩ : ∃ X, X = wr.heap.size := ⟨_, rfl⟩
            have bra : RowKit.Below wr.heap.size wr wa := by rw [hwa]; exact bel_drew (bel_alloc (RowKit.Below.refl _ _) _)
            have Xa : Hid (BoxNil wa X) := by rw [hwa, hXX]; exact ⟨by simp [go_sem], by simp [go_sem], by simp [go_sem], by simp [go_sem], by simp [go_sem], by simp [go_sem], by simp [go_sem], by simp [go_sem], by simp⟩
            have Oa := Lib.hid (hO.out.now bra)
            have Ta := Lib.hid (hT.out.later bra)
            have Ka : Hid (Kept S wr wa) := (Kept.refl S wr).below bra
            have hza := bra.size
            have hTX : T < X := by omega
            have hXa : X < wa.heap.size := Xa.out.z
            have HXX := Lib.hid hXX
            rw [← hwa, ← hXX]
            refine hR' _ _ ⟨⟨wa, Ka.out⟩, rfl⟩ ?_
            clear hR' R hwa hXX bra
            refine wpAnyC_step (f := 5) [6] (by kernel_rfl) rfl rfl (fun i hi => ?_)
            simp only [List.mem_cons, List.not_mem_nil, or_false] at hi
            subst hi
            refine ⟨_, rfl, fun R hR' => ?_⟩
            go_wp2_with fail
            refine (does_any Oa.out kd an av ai HOK.out.n HOK.out.via HOK.out.id).mono ?_
            rintro e w5 ⟨p', S', Q', rfl, hs1, hs0, hBo, hk5⟩
            have hz5 := hk5.size
            have K5 : Hid (Kept S wr w5) := Ka.out.trans ⟨hk5.os, hk5.tape, hk5.output, hk5.size, fun b hb hS => hk5.block b hb fun hN => by
              rcases hN with h | h
              · exact hS h.1
              · omega⟩
            have O5 := Lib.hid hBo
            have hNo : ∀ b, b < wa.heap.size → ¬ (S b ∧ b < wr.heap.size) → ¬ Now S wr wa b := fun b hb h hN => by rcases hN with hN | hN <;> first | exact h hN | omega
            have nT := hNo T (by omega) fun h => hX.out.1 h.1
            have nX := hNo X (by omega) fun h => by have := HXX.out; omega
            have NX : Hid (¬ S' T ∧ ¬ Q' T ∧ W.heap.size ≤ T) := ⟨fun h => nT (hs1 _ h), fun h => by rcases hs0 _ h with h | h <;> first | exact hX.out.2.1 h.1 | omega, hX.out.2.2⟩
            have qX : Hid (¬ S' X ∧ ¬ Q' X) := ⟨fun h => nX (hs1 _ h), fun h => by
              have := HXX.out
              rcases hs0 _ h with h | h
              · have := h.2; omega
              · omega⟩
            have T5 : Hid (BoxOf w5 T p) := Ta.out.block hz5 (hk5.block _ Ta.out.z nT)
            have X5 : Hid (BoxNil w5 X) := Xa.out.block hz5 (hk5.block _ Xa.out.z nX)
            clear hs1 hs0 hBo hk5 nT nX hNo Oa Ta Ka Xa
            go_wp2_with fail
            refine hR' _ _ ⟨⟨w5, K5.out⟩, rfl⟩ ?_
            clear hR' R
            refine wpAnyC_mid (f := 2) [7, 8, 9] ⟨⟨w5, K5.out⟩, rfl⟩ (by kernel_rfl) (fun d v c a w h => by cases d <;> exact h) ?_
            simp only [headOps]
            repeat (refine wpTame_step (fun K hK => ?_); go_simp; refine hK _ ?_; clear hK K)
            refine wpTame_nil ?_
            refine wpAnyC_step (f := 1) [11] (by kernel_rfl) rfl rfl (fun i hi => ?_)
            simp only [List.mem_cons, List.not_mem_nil, or_false] at hi
            subst hi
            refine ⟨_, rfl, fun R hR' => ?_⟩
            have r0 := (X5.out).c0
            have r1 := (X5.out).c1
            have r2 := (X5.out).c2
            have r3 := (X5.out).c3
            have rf0 := (X5.out).f0
            have rf1 := (X5.out).f1
            have rf2 := (X5.out).f2
            have rf3 := (X5.out).f3
            have zr := (X5.out).z
            go_wp2_with fail
            clear r0 r1 r2 r3 rf0 rf1 rf2 rf3 zr
            obtain ⟨w6, hw6⟩ : ∃ z, z = (((w5.setCell ⟨X, 0, none⟩ (.slice (some ⟨p'.b1, p'.o1, none⟩) 32 p'.k1)).setCell ⟨X, 1, none⟩ (.slice (some ⟨p'.b2, p'.o2, none⟩) 32 p'.k2)).setCell ⟨X, 2, none⟩ (.slice (some ⟨p'.b3, p'.o3, none⟩) 32 p'.k3)).setCell ⟨X, 3, none⟩ (.slice (some ⟨p'.b4, p'.o4, none⟩) 32 p'.k4) := ⟨_, rfl⟩
            obtain ⟨hz6, hk6⟩ := block_set4 hw6
            have X6 : Hid (BoxOf w6 X p') := X5.out.store _ _ _ _ hw6
            have T6 : Hid (BoxOf w6 T p) := T5.out.block (by omega) (hk6 _ (by omega))
            have O6 : Hid (Both S' Q' W w6 rb mb (actR [1, 2, 3, 4] f ⟨kd, an, av, ai⟩) p') := O5.out.aside qX.out.1 qX.out.2 (by have := hX.out.2.2; omega) (by rw [hw6]; rfl) (by rw [hw6]; rfl) (by rw [hw6]; rfl) hz6 hk6
            have K6 : Hid (Kept S wr w6) := ⟨by rw [hw6]; exact K5.out.os, by rw [hw6]; exact K5.out.tape, by rw [hw6]; exact K5.out.output, by rw [hz6]; exact K5.out.size, fun b hb hS => (hk6 b (by have := HXX.out; omega)).trans (K5.out.block b hb hS)⟩
            rw [← hw6]
            refine hR' _ _ ⟨⟨w6, K6.out⟩, rfl⟩ ?_
            clear hR' R hw6 hz6 hk6 T5 O5 K5 X5
            refine wpAnyC_end (k := 12) (by decide) rfl rfl (by kernel_rfl) ?_
            have c0 := X6.out.c0
            have c1 := X6.out.c1
            have c2 := X6.out.c2
            have c3 := X6.out.c3
            have zx := X6.out.z
            have d0 := T6.out.c0
            have d1 := T6.out.c1
            have d2 := T6.out.c2
            have d3 := T6.out.c3
            have f0 := T6.out.f0
            have f1 := T6.out.f1
            have f2 := T6.out.f2
            have f3 := T6.out.f3
            have zT := T6.out.z
            go_upto_region 14 with (fail)
            obtain ⟨w7, hw7⟩ : ∃ z, z = (((w6.setCell ⟨T, 0, none⟩ (.slice (some ⟨p'.b1, p'.o1, none⟩) 32 p'.k1)).setCell ⟨T, 1, none⟩ (.slice (some ⟨p'.b2, p'.o2, none⟩) 32 p'.k2)).setCell ⟨T, 2, none⟩ (.slice (some ⟨p'.b3, p'.o3, none⟩) 32 p'.k3)).setCell ⟨T, 3, none⟩ (.slice (some ⟨p'.b4, p'.o4, none⟩) 32 p'.k4) := ⟨_, rfl⟩
            obtain ⟨hz7, hk7⟩ := block_set4 hw7
            have T7 : Hid (BoxOf w7 T p') := T6.out.store _ _ _ _ hw7
            have O7 : Hid (Both S' Q' W w7 rb mb (actR [1, 2, 3, 4] f ⟨kd, an, av, ai⟩) p') := O6.out.aside NX.out.1 NX.out.2.1 NX.out.2.2 (by rw [hw7]; rfl) (by rw [hw7]; rfl) (by rw [hw7]; rfl) hz7 hk7
            rw [← hw7]
            clear hw7 hz7 hk7 c0 c1 c2 c3 zx d0 d1 d2 d3 f0 f1 f2 f3 zT X6 T6 O6
            have d0 := T7.out.c0
            have d1 := T7.out.c1
            have d2 := T7.out.c2
            have d3 := T7.out.c3
            have zT := T7.out.z
            go_wp2_with fail
            refine (shows_any O7.out).mono ?_
            rintro e w8 ⟨rfl, hb8⟩
            have T8 := Lib.hid (T7.out.later hb8)
            have O8 := Lib.hid (O7.out.later hb8)
            clear hb8 T7 O7 d0 d1 d2 d3 zT
            go_wp2_with fail
            go_roundw
            case rel => go_light; exact ⟨k + 1, _, p', S', Q', by omega, by go_num, O8.out, T8.out, NX.out⟩
            case measure => go_light; simp [intOf]; omega
      · have hkn : ¬ ((k : Nat) : Int) < 60 := by omega
        go_wp2_with fail
        go_ret
        exact ⟨rfl, hO.out.below⟩
    · have hkl : ¬ ((k : Nat) : Int) < (acts.length : Int) := by omega
      go_wp2_with fail
      go_ret
      exact ⟨rfl, hO.out.below⟩

theorem chordPlays_main (W : World) (hH : HandleAt W) (v0 v1 : Value) (ids : List Int) (acts : List ActD) (hi : SlAt 0 (fun i => .int .u64 (nth ids i)) ids.length W v0) (hp : ∀ x ∈ ids, isPlace x)
    (ha : ActsAt acts W v1) (hao : ∀ k, k < acts.length → (actAt acts k).ok) : Calls Tryz.prog 3 #[v0, v1] W (OneYes W) := by
  cases hf : fourB ids
  · exact plays_no W hH v0 v1 ids hi hp hf
  · exact plays_yes W hH v0 v1 ids acts hi hp ha hao hf
set_option maxRecDepth 100000 in
theorem chordPlays_walk {H : Type} (enc : TypeId × Value → H) (W : World) (v0 : Value) (d0 : DataW H) (p0 : List MemPlace) {r0 : Reach} {b0 : Nat} (ok0 : Value.okWide Tryz.prog W r0 b0 22 v0) (h0 : DataW.Trod enc Tryz.prog W 0 (fun _ => true) true 22 v0 d0 p0)
    (hlt0 : ∀ x ∈ p0, x.block < W.heap.size) (sz0 : ∀ n ∈ d0.weights Tryz.prog 22, n ≤ reachBytes) (v1 : Value) (d1 : DataW H) (p1 : List MemPlace) {r1 : Reach} {b1 : Nat} (ok1 : Value.okWide Tryz.prog W r1 b1 23 v1) (h1 : DataW.Trod enc Tryz.prog W 0 (fun _ => true) true 23 v1 d1 p1)
    (hlt1 : ∀ x ∈ p1, x.block < W.heap.size) (sz1 : ∀ n ∈ d1.weights Tryz.prog 23, n ≤ reachBytes) (hg : HandleAt W) :
    Calls Tryz.prog 3 #[v0, v1] W fun e W' => e = .returned (.bool true) ∧ RowKit.Below W.heap.size W W' := by
  obtain ⟨ids, hi, hp⟩ := ids_open ok0 h0
  obtain ⟨acts, ha, hao⟩ := acts_open ok1 h1
  exact chordPlays_main W hg v0 v1 ids acts hi hp ha hao
end Go.Proofs.YthbijjpaljjapaaGreatDoor
