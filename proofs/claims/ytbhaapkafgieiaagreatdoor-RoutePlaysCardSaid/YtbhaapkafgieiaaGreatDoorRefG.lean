

/-
  The document's Fail.
-/
import Derived.Test.YtbhaapkafgieiaaGreatDoorRefF
namespace Go.Proofs.YtbhaapkafgieiaaGreatDoor
open Go.RowKit Go.Maps Go.Sort
set_option linter.unusedVariables false
set_option linter.unusedSimpArgs false
attribute [local go_sem] later_cell later_frozen later_lt cell_set_off cell_set_block

variable {Q : Nat → Prop} {w w' : World} {p : Where} {f : RS} {V : Nat → Value}
theorem RefRows.putLive {m : Nat} {u : World} (h : RefRows Q u p f V) {b : Nat} (F : FreshRows b u p) (hm : m < 32) (c : Bool) (f' : RS) (h1 : ∀ k, (f' k).isSome = (f k).isSome) (h2 : ∀ k, livesR f' k = if k = m then c else livesR f k) (h3 : ∀ k, idR f' k = idR f k) (h4 : ∀ k, predR f' k = predR f k) :
    RefRows Q (u.setCell ⟨p.b2, p.o2 + m, none⟩ (.bool c)) p f' V where
  used := (h.used.other _ _ F.n12.symm _).congr fun j _ => by rw [h1]
  live := (h.live.set (by omega) _).congr fun j _ => by
    rw [h2]
    by_cases e : j = m
    · rw [if_pos e, if_pos (by omega)]
    · rw [if_neg e, if_neg (by omega)]
  ids := (h.ids.other _ _ F.n23 _).congr fun j _ => by rw [h3]
  peers := (h.peers.other _ _ F.n24 _).congr fun j _ => peerC_eq (h3 _) (h4 _) rfl
theorem pred_dies (f : RS) (n j : Int) : predR (diesR f n) j = predR f j := by
  unfold diesR; rw [predR_set]; split
  · rename_i e; rw [e]
  · rfl
theorem some_dies {f : RS} {n : Int} (h : (f n).isSome = true) (j : Int) : (diesR f n j).isSome = (f j).isSome := by
  unfold diesR; rw [isSome_set]; split
  · rename_i e; rw [e, h]
  · rfl
set_option maxRecDepth 100000 in
set_option maxHeartbeats 8000000 in
theorem rfail_any (h : RefIs Q w p f V) (I : Inv f) (n : Int) : Calls Tryz.prog 60 #[(.agg #[.slice (some ⟨(p).b1, (p).o1, none⟩) 32 (p).k1, .slice (some ⟨(p).b2, (p).o2, none⟩) 32 (p).k2, .slice (some ⟨(p).b3, (p).o3, none⟩) 32 (p).k3, .slice (some ⟨(p).b4, (p).o4, none⟩) 32 (p).k4]), .int .i64 n] w (RefAns Q w (failR f n) (failC f n)) := by
  have HNo : Hid (∀ (c : Int) w', failC f n = c → c ≠ 0 → RowKit.Below w.heap.size w w' → RefAns Q w (failR f n) (failC f n) (.returned (.tuple #[(.agg #[.slice (some ⟨(p).b1, (p).o1, none⟩) 32 (p).k1, .slice (some ⟨(p).b2, (p).o2, none⟩) 32 (p).k2, .slice (some ⟨(p).b3, (p).o3, none⟩) 32 (p).k3, .slice (some ⟨(p).b4, (p).o4, none⟩) 32 (p).k4]), .int .i64 c])) w') := fun c w' h1 h2 h3 => by
    have e : failR f n = f := by unfold failR; rw [h1, if_neg h2]
    rw [e, h1]; exact RefAns.same h rfl h3
  have HYes : Hid (∀ (p' : Where) w', failC f n = 0 → RefNew Q w (diesR f n) (.agg #[.slice (some ⟨(p').b1, (p').o1, none⟩) 32 (p').k1, .slice (some ⟨(p').b2, (p').o2, none⟩) 32 (p').k2, .slice (some ⟨(p').b3, (p').o3, none⟩) 32 (p').k3, .slice (some ⟨(p').b4, (p').o4, none⟩) 32 (p').k4]) w' → RefAns Q w (failR f n) (failC f n) (.returned (.tuple #[(.agg #[.slice (some ⟨(p').b1, (p').o1, none⟩) 32 (p').k1, .slice (some ⟨(p').b2, (p').o2, none⟩) 32 (p').k2, .slice (some ⟨(p').b3, (p').o3, none⟩) 32 (p').k3, .slice (some ⟨(p').b4, (p').o4, none⟩) 32 (p').k4]), .int .i64 0])) w') := fun p' w' h1 h2 => by
    have e : failR f n = diesR f n := by unfold failR; rw [if_pos h1]
    rw [e, h1]; exact ⟨_, rfl, h2⟩
  have cl := Lib.hid fun (wr : World) (hb : RowKit.Below w.heap.size w wr) => rlives_any (h.rows.below hb) I.dom n
  cases hlv : livesR f n with
  | false =>
    have hc : Hid (failC f n = 6) := show failC f n = 6 by unfold failC; rw [if_pos hlv]
    rw [hlv] at cl
    clear h I hlv
    go_enter Tryz.func60, Tryz.ntmps60
    go_upto_region 1 with (fail)
    obtain ⟨w0, hw0⟩ : ∃ z, z = (w.alloc (.cells #[.slice (some ⟨p.b1, p.o1, none⟩) 32 p.k1, .slice (some ⟨p.b2, p.o2, none⟩) 32 p.k2, .slice (some ⟨p.b3, p.o3, none⟩) 32 p.k3, .slice (some ⟨p.b4, p.o4, none⟩) 32 p.k4] 33)).alloc (.cells #[.slice none 0 0, .slice none 0 0, .slice none 0 0, .slice none 0 0] 33) := ⟨_, rfl⟩
    have B0 : Hid (RowKit.Below w.heap.size w w0) := by rw [hw0]; exact bel_alloc (bel_alloc (RowKit.Below.refl _ _) _) _
    have P0 : Hid (BoxOf w0 w.heap.size p) := by rw [hw0]; exact ⟨by simp [go_sem], by simp [go_sem], by simp [go_sem], by simp [go_sem], by simp [go_sem], by simp [go_sem], by simp [go_sem], by simp [go_sem], by simp; omega⟩
    have R0 : Hid (BoxNil w0 (w.heap.size + 1)) := by rw [hw0]; exact ⟨by simp [go_sem], by simp [go_sem], by simp [go_sem], by simp [go_sem], by simp [go_sem], by simp [go_sem], by simp [go_sem], by simp [go_sem], by simp⟩
    rw [← hw0]
    clear hw0
    have c0 := (P0).out.c0
    have c1 := (P0).out.c1
    have c2 := (P0).out.c2
    have c3 := (P0).out.c3
    have pf0 := (P0).out.f0
    have pf1 := (P0).out.f1
    have pf2 := (P0).out.f2
    have pf3 := (P0).out.f3
    have zp := (P0).out.z
    have r0 := (R0).out.c0
    have r1 := (R0).out.c1
    have r2 := (R0).out.c2
    have r3 := (R0).out.c3
    have rf0 := (R0).out.f0
    have rf1 := (R0).out.f1
    have rf2 := (R0).out.f2
    have rf3 := (R0).out.f3
    have zr := (R0).out.z
    go_wp2_with fail
    refine (cl.out _ B0.out).mono ?_
    rintro e w1 ⟨rfl, hb⟩
    have P1 := Lib.hid (P0.out.later hb)
    have R1 := Lib.hid (R0.out.later hb)
    have hB := bel_below B0.out hb
    clear c0 c1 c2 c3 pf0 pf1 pf2 pf3 zp r0 r1 r2 r3 rf0 rf1 rf2 rf3 zr
    have c0 := (P1).out.c0
    have c1 := (P1).out.c1
    have c2 := (P1).out.c2
    have c3 := (P1).out.c3
    have pf0 := (P1).out.f0
    have pf1 := (P1).out.f1
    have pf2 := (P1).out.f2
    have pf3 := (P1).out.f3
    have zp := (P1).out.z
    have r0 := (R1).out.c0
    have r1 := (R1).out.c1
    have r2 := (R1).out.c2
    have r3 := (R1).out.c3
    have rf0 := (R1).out.f0
    have rf1 := (R1).out.f1
    have rf2 := (R1).out.f2
    have rf3 := (R1).out.f3
    have zr := (R1).out.z
    go_wp2_with fail
    refine bodyPost_ret (v := .tuple #[(.agg #[.slice (some ⟨(p).b1, (p).o1, none⟩) 32 (p).k1, .slice (some ⟨(p).b2, (p).o2, none⟩) 32 (p).k2, .slice (some ⟨(p).b3, (p).o3, none⟩) 32 (p).k3, .slice (some ⟨(p).b4, (p).o4, none⟩) 32 (p).k4]), .int .i64 6]) ?_ rfl ?_
    · simp [results, Tryz.results60, go_sem, r0, r1, r2, r3]
    exact HNo.out 6 _ hc.out (by decide) (by (repeat (first | exact Below.refl _ _ | (with_reducible assumption) | (with_reducible refine bel_later ?_ _) | (with_reducible refine bel_alloc ?_ _) | (with_reducible refine bel_drew ?_) | (with_reducible refine bel_drewN ?_ _) | (with_reducible refine bel_set ?_ (by first | (simp; done) | (simp; omega) | (dsimp only; omega)) _))))
  | true =>
    rw [hlv] at cl
    by_cases h4 : n < 4
    · have hc : Hid (failC f n = 5) := show failC f n = 5 by unfold failC; rw [if_neg (by simp [hlv]), if_pos h4]
      clear h I hlv
      go_enter Tryz.func60, Tryz.ntmps60
      go_upto_region 1 with (fail)
      obtain ⟨w0, hw0⟩ : ∃ z, z = (w.alloc (.cells #[.slice (some ⟨p.b1, p.o1, none⟩) 32 p.k1, .slice (some ⟨p.b2, p.o2, none⟩) 32 p.k2, .slice (some ⟨p.b3, p.o3, none⟩) 32 p.k3, .slice (some ⟨p.b4, p.o4, none⟩) 32 p.k4] 33)).alloc (.cells #[.slice none 0 0, .slice none 0 0, .slice none 0 0, .slice none 0 0] 33) := ⟨_, rfl⟩
      have B0 : Hid (RowKit.Below w.heap.size w w0) := by rw [hw0]; exact bel_alloc (bel_alloc (RowKit.Below.refl _ _) _) _
      have P0 : Hid (BoxOf w0 w.heap.size p) := by rw [hw0]; exact ⟨by simp [go_sem], by simp [go_sem], by simp [go_sem], by simp [go_sem], by simp [go_sem], by simp [go_sem], by simp [go_sem], by simp [go_sem], by simp; omega⟩
      have R0 : Hid (BoxNil w0 (w.heap.size + 1)) := by rw [hw0]; exact ⟨by simp [go_sem], by simp [go_sem], by simp [go_sem], by simp [go_sem], by simp [go_sem], by simp [go_sem], by simp [go_sem], by simp [go_sem], by simp⟩
      rw [← hw0]
      clear hw0
      have c0 := (P0).out.c0
      have c1 := (P0).out.c1
      have c2 := (P0).out.c2
      have c3 := (P0).out.c3
      have pf0 := (P0).out.f0
      have pf1 := (P0).out.f1
      have pf2 := (P0).out.f2
      have pf3 := (P0).out.f3
      have zp := (P0).out.z
      have r0 := (R0).out.c0
      have r1 := (R0).out.c1
      have r2 := (R0).out.c2
      have r3 := (R0).out.c3
      have rf0 := (R0).out.f0
      have rf1 := (R0).out.f1
      have rf2 := (R0).out.f2
      have rf3 := (R0).out.f3
      have zr := (R0).out.z
      go_wp2_with fail
      refine (cl.out _ B0.out).mono ?_
      rintro e w1 ⟨rfl, hb⟩
      have P1 := Lib.hid (P0.out.later hb)
      have R1 := Lib.hid (R0.out.later hb)
      have hB := bel_below B0.out hb
      clear c0 c1 c2 c3 pf0 pf1 pf2 pf3 zp r0 r1 r2 r3 rf0 rf1 rf2 rf3 zr
      have c0 := (P1).out.c0
      have c1 := (P1).out.c1
      have c2 := (P1).out.c2
      have c3 := (P1).out.c3
      have pf0 := (P1).out.f0
      have pf1 := (P1).out.f1
      have pf2 := (P1).out.f2
      have pf3 := (P1).out.f3
      have zp := (P1).out.z
      have r0 := (R1).out.c0
      have r1 := (R1).out.c1
      have r2 := (R1).out.c2
      have r3 := (R1).out.c3
      have rf0 := (R1).out.f0
      have rf1 := (R1).out.f1
      have rf2 := (R1).out.f2
      have rf3 := (R1).out.f3
      have zr := (R1).out.z
      go_wp2_with fail
      refine bodyPost_ret (v := .tuple #[(.agg #[.slice (some ⟨(p).b1, (p).o1, none⟩) 32 (p).k1, .slice (some ⟨(p).b2, (p).o2, none⟩) 32 (p).k2, .slice (some ⟨(p).b3, (p).o3, none⟩) 32 (p).k3, .slice (some ⟨(p).b4, (p).o4, none⟩) 32 (p).k4]), .int .i64 5]) ?_ rfl ?_
      · simp [results, Tryz.results60, go_sem, r0, r1, r2, r3]
      exact HNo.out 5 _ hc.out (by decide) (by (repeat (first | exact Below.refl _ _ | (with_reducible assumption) | (with_reducible refine bel_later ?_ _) | (with_reducible refine bel_alloc ?_ _) | (with_reducible refine bel_drew ?_) | (with_reducible refine bel_drewN ?_ _) | (with_reducible refine bel_set ?_ (by first | (simp; done) | (simp; omega) | (dsimp only; omega)) _))))
    · have hn := livesR_dom I.dom hlv
      obtain ⟨m, rfl⟩ : ∃ m : Nat, n = m := ⟨n.toNat, by omega⟩
      have hm1 : m < 32 := by omega
      have hmI : ((m : Nat) : Int) < 32 := by omega
      have CC := Lib.hid fun (wr : World) (hb : RowKit.Below w.heap.size w wr) => rcopy_any (h.rows.below hb) fun k hk => h.list.one k hk
      have H := Lib.hid h
      have hsn : (f m).isSome = true := live_isSome hlv
      have HSO := Lib.hid (fun k => some_dies hsn k)
      have HD2 := Lib.hid (dom_dies I.dom hlv)
      have hlen := length_liveL (diesR f m)
      have hmem := Lib.hid (fun x (hx : x ∈ liveL (diesR f m)) => (mem_liveL HD2.out).1 hx)
      have hC4 : Hid (failC f m = if (liveL (diesR f m)).any (fun k => headR (diesR f m) k == -1) then 5 else 0) := show failC f m = _ by unfold failC; rw [if_neg (by simp [hlv]), if_neg h4]
      have HLV : Hid (∀ k, livesR (diesR f m) k = if k = m then false else livesR f k) := lives_dies f m
      have HID : Hid (∀ k, idR (diesR f m) k = idR f k) := id_dies f m
      have HPR : Hid (∀ k, predR (diesR f m) k = predR f k) := pred_dies f m
      have HSU : Hid (∀ k, succR (diesR f m) k = succR f k) := succ_dies f m
      obtain ⟨f2, hf2⟩ : ∃ f2, f2 = diesR f m := ⟨_, rfl⟩
      rw [← hf2] at HSO HD2 hlen hmem hC4 HLV HID HPR HSU HYes
      obtain ⟨L, hL⟩ : ∃ L, L = liveL f2 := ⟨_, rfl⟩
      have HL := Lib.hid hL
      rw [← hL] at hlen hmem hC4
      clear h I hlv hsn hf2 hL hn
      go_enter Tryz.func60, Tryz.ntmps60
      go_upto_region 1 with (fail)
      obtain ⟨w0, hw0⟩ : ∃ z, z = (w.alloc (.cells #[.slice (some ⟨p.b1, p.o1, none⟩) 32 p.k1, .slice (some ⟨p.b2, p.o2, none⟩) 32 p.k2, .slice (some ⟨p.b3, p.o3, none⟩) 32 p.k3, .slice (some ⟨p.b4, p.o4, none⟩) 32 p.k4] 33)).alloc (.cells #[.slice none 0 0, .slice none 0 0, .slice none 0 0, .slice none 0 0] 33) := ⟨_, rfl⟩
      have B0 : Hid (RowKit.Below w.heap.size w w0) := by rw [hw0]; exact bel_alloc (bel_alloc (RowKit.Below.refl _ _) _) _
      have P0 : Hid (BoxOf w0 w.heap.size p) := by rw [hw0]; exact ⟨by simp [go_sem], by simp [go_sem], by simp [go_sem], by simp [go_sem], by simp [go_sem], by simp [go_sem], by simp [go_sem], by simp [go_sem], by simp; omega⟩
      have R0 : Hid (BoxNil w0 (w.heap.size + 1)) := by rw [hw0]; exact ⟨by simp [go_sem], by simp [go_sem], by simp [go_sem], by simp [go_sem], by simp [go_sem], by simp [go_sem], by simp [go_sem], by simp [go_sem], by simp⟩
      rw [← hw0]
      clear hw0
      have c0 := (P0).out.c0
      have c1 := (P0).out.c1
      have c2 := (P0).out.c2
      have c3 := (P0).out.c3
      have pf0 := (P0).out.f0
      have pf1 := (P0).out.f1
      have pf2 := (P0).out.f2
      have pf3 := (P0).out.f3
      have zp := (P0).out.z
      have r0 := (R0).out.c0
      have r1 := (R0).out.c1
      have r2 := (R0).out.c2
      have r3 := (R0).out.c3
      have rf0 := (R0).out.f0
      have rf1 := (R0).out.f1
      have rf2 := (R0).out.f2
      have rf3 := (R0).out.f3
      have zr := (R0).out.z
      go_wp2_with fail
      refine (cl.out _ B0.out).mono ?_
      rintro e w1 ⟨rfl, hb⟩
      have P1 := Lib.hid (P0.out.later hb)
      have R1 := Lib.hid (R0.out.later hb)
      have B1 := Lib.hid (bel_below B0.out hb)
      clear hb P0 R0
      clear c0 c1 c2 c3 pf0 pf1 pf2 pf3 zp r0 r1 r2 r3 rf0 rf1 rf2 rf3 zr
      have c0 := (P1).out.c0
      have c1 := (P1).out.c1
      have c2 := (P1).out.c2
      have c3 := (P1).out.c3
      have pf0 := (P1).out.f0
      have pf1 := (P1).out.f1
      have pf2 := (P1).out.f2
      have pf3 := (P1).out.f3
      have zp := (P1).out.z
      have r0 := (R1).out.c0
      have r1 := (R1).out.c1
      have r2 := (R1).out.c2
      have r3 := (R1).out.c3
      have rf0 := (R1).out.f0
      have rf1 := (R1).out.f1
      have rf2 := (R1).out.f2
      have rf3 := (R1).out.f3
      have zr := (R1).out.z
      go_wp2_with fail
      refine (CC.out _ B1.out).mono ?_
      rintro e w2 ⟨p', rfl, hrows, hfr, hb⟩
      have P2 := Lib.hid (P1.out.later hb)
      have R2 := Lib.hid (R1.out.later hb)
      have B2 := Lib.hid (bel_below B1.out hb)
      have hz1 : w.heap.size + 1 < w1.heap.size := R1.out.z
      have ROW2 := Lib.hid hrows
      have FR2 := Lib.hid hfr
      clear c0 c1 c2 c3 pf0 pf1 pf2 pf3 zp r0 r1 r2 r3 rf0 rf1 rf2 rf3 zr
      clear hb P1 R1 hrows hfr
      go_upto_region 6 with (fail)
      obtain ⟨w3, hw3⟩ : ∃ z, z = w2.alloc (.cells #[.slice (some ⟨p'.b1, p'.o1, none⟩) 32 p'.k1, .slice (some ⟨p'.b2, p'.o2, none⟩) 32 p'.k2, .slice (some ⟨p'.b3, p'.o3, none⟩) 32 p'.k3, .slice (some ⟨p'.b4, p'.o4, none⟩) 32 p'.k4] 33) := ⟨_, rfl⟩
      obtain ⟨T, hT⟩ : ∃ T, T = w2.heap.size := ⟨_, rfl⟩
      have hb3 : RowKit.Below w2.heap.size w2 w3 := by rw [hw3]; exact bel_alloc (RowKit.Below.refl _ _) _
      have T3 : Hid (BoxOf w3 T p') := by rw [hw3, hT]; exact ⟨by simp [go_sem], by simp [go_sem], by simp [go_sem], by simp [go_sem], by simp [go_sem], by simp [go_sem], by simp [go_sem], by simp [go_sem], by simp⟩
      have P3 := Lib.hid (P2.out.later hb3)
      have R3 := Lib.hid (R2.out.later hb3)
      have B3 := Lib.hid (bel_below B2.out hb3)
      have ROW3 := Lib.hid (ROW2.out.below hb3)
      have FR3 := Lib.hid (FR2.out.below ROW2.out hb3)
      have hbT : p'.b2 < T := by rw [hT]; exact ROW2.out.live.z
      have hb2 := FR2.out.m2
      rw [← hw3, ← hT]
      clear hw3 hT hb3 P2 R2 B2 ROW2 FR2 B1 CC
      obtain ⟨t0, t1, t2, t3, _, _, _, _, tz⟩ := T3.out
      have u0 := ROW3.out.at_live hm1
      have uf := FR3.out.f2 (p'.o2 + m)
      have uz := ROW3.out.live.z
      go_upto_region 7 with (fail)
      obtain ⟨w4, hw4⟩ : ∃ z, z = w3.setCell ⟨p'.b2, p'.o2 + m, none⟩ (.bool false) := ⟨_, rfl⟩
      have K4 : ∀ b, b ≠ p'.b2 → w4.heap[b]? = w3.heap[b]? := fun b hb => by rw [hw4]; exact Below.heap_setCell _ _ _ _ hb
      have Z4 : w4.heap.size = w3.heap.size := by rw [hw4]; exact size_set _ _ _
      have T4 : Hid (BoxOf w4 T p') := T3.out.block (by omega) (K4 _ (by omega))
      have P4 : Hid (BoxOf w4 w.heap.size p) := P3.out.block (by omega) (K4 _ (by omega))
      have R4 : Hid (BoxNil w4 (w.heap.size + 1)) := R3.out.block (by omega) (K4 _ (by omega))
      have ROW4 : Hid (RefRows (fun b => w1.heap.size ≤ b) w4 p' f2 V) := by
        rw [hw4]
        exact ROW3.out.putLive FR3.out hm1 false f2 HSO.out HLV.out HID.out HPR.out
      have B4 : Hid (RowKit.Below w.heap.size w w4) := by rw [hw4]; exact bel_set B3.out (by show w.heap.size ≤ p'.b2; omega) _
      have LO4 : Hid (RefLists (fun b => Q b ∧ b < w.heap.size) w4 f2 V) := fun k hk => by
        rw [HSU.out]
        exact (H.out.list k hk).imp (fun b hb hq => ⟨hq, hb⟩) B4.out.size (fun b hb _ => B4.out.block b hb)
      rw [← hw4]
      clear hw4 K4 Z4 t0 t1 t2 t3 tz u0 uf uz T3 P3 R3 ROW3 FR3 B3
      have CL := Lib.hid fun (wr : World) (hb : RowKit.Below w4.heap.size w4 wr) => rlive_any (ROW4.out.below hb)
      rw [← HL.out] at CL
      obtain ⟨t0, t1, t2, t3, _, _, _, _, tz⟩ := T4.out
      go_wp2_with fail
      refine (CL.out _ (RowKit.Below.refl _ _)).mono ?_
      rintro e w5 ⟨v5, rfl, hs5, hb⟩
      obtain ⟨a5, q5, rfl, _⟩ := hs5.slice
      have S5 := Lib.hid hs5
      have HB5 := Lib.hid hb
      clear hs5 hb t0 t1 t2 t3 tz CL
      go_wp2_with fail
      go_loopw [8, 28] (fun _ i wr => ∃ k : Nat, k ≤ L.length ∧ i = .int .i64 k ∧ Hid (RowKit.Below w5.heap.size w5 wr) ∧ Hid (∀ j, j < k → headR f2 (nth L j) ≠ -1)) (fun _ i _ => L.length - (intOf i).toNat)
      case atStart => exact ⟨0, Nat.zero_le _, rfl, RowKit.Below.refl _ _, fun j hj => absurd hj (by omega)⟩
      case round =>
        obtain ⟨k, hk, rfl, hB5, hno⟩ := hrel
        have BR := Lib.hid (bel_below HB5.out hB5.out)
        by_cases hlt : k < L.length
        · obtain ⟨b, off, rfl, _, hb, hc⟩ := S5.out.at k hlt wr hB5.out
          have hin : nth L k ∈ L := nth_mem.2 ⟨k, hlt, rfl⟩
          have hlx := hmem.out _ hin
          have hxd := livesR_dom HD2.out hlx
          obtain ⟨x, hx⟩ : ∃ x : Nat, nth L k = x := ⟨(nth L k).toNat, by omega⟩
          rw [hx] at hc hxd
          have hx1 : x < 32 := by omega
          have hxI : ((x : Nat) : Int) < 32 := by omega
          have ROWR := Lib.hid (ROW4.out.below BR.out)
          obtain ⟨cid, cpr, cls⟩ := ROWR.out.at_peer hx1
          have zb := ROWR.out.peers.z
          obtain ⟨t0, t1, t2, t3, _, _, _, _, tz⟩ := T4.out.later BR.out
          have CH := Lib.hid fun (wq : World) (hb : RowKit.Below wr.heap.size wr wq) => rhead_any (ROWR.out.below hb) HD2.out (succR f2 x) (by have := (dom_len HD2.out x).1; omega) (V x) (((LO4.out x hx1).slAt.below BR.out).below hb) (idR f2 x) (predR f2 x)
          have hhx : headL f2 (succR f2 x) = headR f2 (nth L k) := by rw [hx]; rfl
          by_cases he : headR f2 (nth L k) = -1
          · have hC : Hid (failC f m = 5) := show failC f m = 5 by rw [hC4.out, if_pos (List.any_eq_true.2 ⟨_, hin, by simp [he]⟩)]
            rw [hhx, he] at CH
            clear hhx he hin hlx hxd hx
            go_wp2_with fail
            refine wp_region_calm (by kernel_rfl) (by kernel_rfl) ?_
            repeat (first | (go_big_quiet_step ((go_at_call 64; exact calls_calm (CH.out _ (by (repeat (first | exact Below.refl _ _ | (with_reducible assumption) | (with_reducible refine bel_later ?_ _) | (with_reducible refine bel_alloc ?_ _) | (with_reducible refine bel_drew ?_) | (with_reducible refine bel_drewN ?_ _) | (with_reducible refine bel_set ?_ (by first | (simp; done) | (simp; omega) | (dsimp only; omega)) _)))))))) | (refine wpQuiet_step (fun K hK => ?_); go_simp; first | (refine hK _ ?_; clear hK K) | (apply Exists.intro; refine ⟨fun _ => ?_, hK _ ?_⟩; (go_at_call 64; exact calls_calm (CH.out _ (by (repeat (first | exact Below.refl _ _ | (with_reducible assumption) | (with_reducible refine bel_later ?_ _) | (with_reducible refine bel_alloc ?_ _) | (with_reducible refine bel_drew ?_) | (with_reducible refine bel_drewN ?_ _) | (with_reducible refine bel_set ?_ (by first | (simp; done) | (simp; omega) | (dsimp only; omega)) _)))))); clear hK K)))
            refine wpQuiet_nil ?_
            intro _ hw'
            obtain ⟨xq, hw''⟩ := hw'
            subst hw''
            have P6 := Lib.hid ((P4.out.later BR.out).later xq.below)
            have R6 := Lib.hid ((R4.out.later BR.out).later xq.below)
            have hB := bel_below (bel_below B4.out BR.out) xq.below
            clear cid cpr cls zb t0 t1 t2 t3 tz hc hb CH ROWR
            obtain ⟨w6, hw6⟩ : ∃ z, z = xq.world := ⟨_, rfl⟩
            rw [← hw6] at P6 R6 hB ⊢
            clear hw6 xq
            have c0 := (P6).out.c0
            have c1 := (P6).out.c1
            have c2 := (P6).out.c2
            have c3 := (P6).out.c3
            have pf0 := (P6).out.f0
            have pf1 := (P6).out.f1
            have pf2 := (P6).out.f2
            have pf3 := (P6).out.f3
            have zp := (P6).out.z
            have r0 := (R6).out.c0
            have r1 := (R6).out.c1
            have r2 := (R6).out.c2
            have r3 := (R6).out.c3
            have rf0 := (R6).out.f0
            have rf1 := (R6).out.f1
            have rf2 := (R6).out.f2
            have rf3 := (R6).out.f3
            have zr := (R6).out.z
            go_wp2_with fail
            refine bodyPost_ret (v := .tuple #[(.agg #[.slice (some ⟨(p).b1, (p).o1, none⟩) 32 (p).k1, .slice (some ⟨(p).b2, (p).o2, none⟩) 32 (p).k2, .slice (some ⟨(p).b3, (p).o3, none⟩) 32 (p).k3, .slice (some ⟨(p).b4, (p).o4, none⟩) 32 (p).k4]), .int .i64 5]) ?_ rfl ?_
            · simp [results, Tryz.results60, go_sem, r0, r1, r2, r3]
            exact HNo.out 5 _ hC.out (by decide) (by (repeat (first | exact Below.refl _ _ | (with_reducible assumption) | (with_reducible refine bel_later ?_ _) | (with_reducible refine bel_alloc ?_ _) | (with_reducible refine bel_drew ?_) | (with_reducible refine bel_drewN ?_ _) | (with_reducible refine bel_set ?_ (by first | (simp; done) | (simp; omega) | (dsimp only; omega)) _))))
          · have hge : ¬ headR f2 (nth L k) < 0 := by
              rcases headL_or f2 (succR f2 x) with ⟨h1, _⟩ | ⟨h1, _⟩
              · rw [hhx] at h1; have := livesR_dom HD2.out h1; omega
              · rw [hhx] at h1; exact absurd h1 he
            have HE := Lib.hid he
            rw [hhx] at CH
            clear hhx he hin hlx hxd hx
            obtain ⟨hd, hhd⟩ : ∃ hd, hd = headR f2 (nth L k) := ⟨_, rfl⟩
            rw [← hhd] at CH hge HE
            have HHD := Lib.hid hhd
            clear hhd
            go_wp2_with fail
            refine wp_region_calm (by kernel_rfl) (by kernel_rfl) ?_
            repeat (first | (go_big_quiet_step ((go_at_call 64; exact calls_calm (CH.out _ (by (repeat (first | exact Below.refl _ _ | (with_reducible assumption) | (with_reducible refine bel_later ?_ _) | (with_reducible refine bel_alloc ?_ _) | (with_reducible refine bel_drew ?_) | (with_reducible refine bel_drewN ?_ _) | (with_reducible refine bel_set ?_ (by first | (simp; done) | (simp; omega) | (dsimp only; omega)) _)))))))) | (refine wpQuiet_step (fun K hK => ?_); go_simp; first | (refine hK _ ?_; clear hK K) | (apply Exists.intro; refine ⟨fun _ => ?_, hK _ ?_⟩; (go_at_call 64; exact calls_calm (CH.out _ (by (repeat (first | exact Below.refl _ _ | (with_reducible assumption) | (with_reducible refine bel_later ?_ _) | (with_reducible refine bel_alloc ?_ _) | (with_reducible refine bel_drew ?_) | (with_reducible refine bel_drewN ?_ _) | (with_reducible refine bel_set ?_ (by first | (simp; done) | (simp; omega) | (dsimp only; omega)) _)))))); clear hK K)))
            refine wpQuiet_nil ?_
            intro _ hw'
            obtain ⟨xq, hw''⟩ := hw'
            subst hw''
            have B6 := Lib.hid (bel_below hB5.out xq.below)
            clear cid cpr cls zb t0 t1 t2 t3 tz hc hb CH ROWR
            go_wp2_with fail
            go_roundw
            case rel =>
              go_light
              refine ⟨k + 1, by omega, by go_num, B6.out, fun j hj => ?_⟩
              by_cases e : j = k
              · subst e; rw [← HHD.out]; exact HE.out
              · exact hno.out j (by omega)
            case measure => go_light; simp [intOf]; omega
        · obtain rfl : k = L.length := by omega
          have hC : Hid (failC f m = 0) := show failC f m = _ by
            rw [hC4.out, if_neg]
            intro h
            obtain ⟨x, hx, e⟩ := List.any_eq_true.1 h
            obtain ⟨j, hj, rfl⟩ := nth_mem.1 hx
            exact hno.out j hj (by simpa using e)
          have P6 := Lib.hid (T4.out.later BR.out)
          have R6 := Lib.hid (R4.out.later BR.out)
          have B6 := Lib.hid (bel_below B4.out BR.out)
          have ROW6 := Lib.hid (ROW4.out.below BR.out)
          have LO6 := Lib.hid (LO4.out.below BR.out)
          clear hlt
          have c0 := (P6).out.c0
          have c1 := (P6).out.c1
          have c2 := (P6).out.c2
          have c3 := (P6).out.c3
          have pf0 := (P6).out.f0
          have pf1 := (P6).out.f1
          have pf2 := (P6).out.f2
          have pf3 := (P6).out.f3
          have zp := (P6).out.z
          have r0 := (R6).out.c0
          have r1 := (R6).out.c1
          have r2 := (R6).out.c2
          have r3 := (R6).out.c3
          have rf0 := (R6).out.f0
          have rf1 := (R6).out.f1
          have rf2 := (R6).out.f2
          have rf3 := (R6).out.f3
          have zr := (R6).out.z
          go_wp2_with fail
          refine bodyPost_ret (v := .tuple #[(.agg #[.slice (some ⟨(p').b1, (p').o1, none⟩) 32 (p').k1, .slice (some ⟨(p').b2, (p').o2, none⟩) 32 (p').k2, .slice (some ⟨(p').b3, (p').o3, none⟩) 32 (p').k3, .slice (some ⟨(p').b4, (p').o4, none⟩) 32 (p').k4]), .int .i64 0]) ?_ rfl ?_
          · simp [results, Tryz.results60, go_sem, r0, r1, r2, r3]
          obtain ⟨w10, hw10⟩ : ∃ z, z = (((wr.setCell ⟨w.heap.size + 1, 0, none⟩ (.slice (some ⟨p'.b1, p'.o1, none⟩) 32 p'.k1)).setCell ⟨w.heap.size + 1, 1, none⟩ (.slice (some ⟨p'.b2, p'.o2, none⟩) 32 p'.k2)).setCell ⟨w.heap.size + 1, 2, none⟩ (.slice (some ⟨p'.b3, p'.o3, none⟩) 32 p'.k3)).setCell ⟨w.heap.size + 1, 3, none⟩ (.slice (some ⟨p'.b4, p'.o4, none⟩) 32 p'.k4) := ⟨_, rfl⟩
          obtain ⟨hz10, hk10⟩ := block_set4 hw10
          have hB := B6.out
          have B10 : RowKit.Below w.heap.size w w10 := by rw [hw10]; (repeat (first | exact Below.refl _ _ | (with_reducible assumption) | (with_reducible refine bel_later ?_ _) | (with_reducible refine bel_alloc ?_ _) | (with_reducible refine bel_drew ?_) | (with_reducible refine bel_drewN ?_ _) | (with_reducible refine bel_set ?_ (by first | (simp; done) | (simp; omega) | (dsimp only; omega)) _)))
          rw [← hw10]
          exact HYes.out _ _ hC.out ⟨p', V, rfl, ⟨ROW6.out.same (fun b _ h => Or.inr (by omega)) (by omega) (fun b _ h => hk10 b (by omega)), LO6.out.same (fun b _ h => Or.inl h) (by omega) (fun b _ h => hk10 b (by have := h.2; omega))⟩, B10⟩
end Go.Proofs.YtbhaapkafgieiaaGreatDoor
