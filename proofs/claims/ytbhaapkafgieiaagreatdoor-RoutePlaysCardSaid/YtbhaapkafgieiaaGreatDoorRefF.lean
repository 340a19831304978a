

/-
  The document's Round.
-/
import Derived.Test.YtbhaapkafgieiaaGreatDoorRefE
import Derived.Test.YtbhaapkafgieiaaGreatDoorChordN
namespace Go.Proofs.YtbhaapkafgieiaaGreatDoor
open Go.RowKit Go.Maps Go.Sort
set_option linter.unusedVariables false
set_option linter.unusedSimpArgs false
attribute [local go_sem] later_cell later_frozen later_lt cell_set_off cell_set_block

variable {Q : Nat → Prop} {w w' : World} {p : Where} {f : RS} {V : Nat → Value}
/-- The blocks that a function's ring may lie in. -/
abbrev InQ (Q : Nat → Prop) (w : World) (b : Nat) : Prop := (Q b ∧ b < w.heap.size) ∨ w.heap.size + 1 < b
theorem RefIs.inQ (h : RefIs Q w p f V) (hb : RowKit.Below w.heap.size w w') : RefIs (InQ Q w) w' p f V := h.same (fun b hb' hq => Or.inl ⟨hq, hb'⟩) hb.size fun b hb' _ => hb.block b hb'
/-- What a call leaves, met in a function. -/
theorem refNew_inQ {wr w2 : World} {x : Value} (h : RefNew (InQ Q w) wr f x w2) (hz : w.heap.size + 1 < wr.heap.size) : ∃ p' V', x = p'.val ∧ RefIs (InQ Q w) w2 p' f V' ∧ RowKit.Below wr.heap.size wr w2 := by
  obtain ⟨p', V', rfl, hi, hb⟩ := h
  refine ⟨p', V', rfl, hi.same (fun b _ hq => ?_) (Nat.le_refl _) (fun _ _ _ => rfl), hb⟩
  rcases hq with ⟨hq, _⟩ | hq
  · exact hq
  · exact Or.inr (by omega)
theorem RefIs.away (h : RefIs (InQ Q w) w' p f V) {w2 : World} (hs : w'.heap.size ≤ w2.heap.size) (hk : ∀ b, b ≠ w.heap.size → b ≠ w.heap.size + 1 → b < w'.heap.size → w2.heap[b]? = w'.heap[b]?) : RefIs (InQ Q w) w2 p f V :=
  h.same (fun _ _ h => h) hs fun b hb hq => hk b (by rcases hq with hq | hq <;> omega) (by rcases hq with hq | hq <;> omega) hb
theorem RefIs.new (h : RefIs (InQ Q w) w' p f V) (hb : RowKit.Below w.heap.size w w') : RefNew Q w f p.val w' :=
  ⟨p, V, rfl, h.same (fun b _ hq => by rcases hq with hq | hq <;> first | exact Or.inl hq | exact Or.inr (by omega)) (Nat.le_refl _) (fun _ _ _ => rfl), hb⟩
set_option maxRecDepth 100000 in
set_option maxHeartbeats 8000000 in
theorem rround_any (h : RefIs Q w p f V) (I : Inv f) : Calls Tryz.prog 62 #[(.agg #[.slice (some ⟨(p).b1, (p).o1, none⟩) 32 (p).k1, .slice (some ⟨(p).b2, (p).o2, none⟩) 32 (p).k2, .slice (some ⟨(p).b3, (p).o3, none⟩) 32 (p).k3, .slice (some ⟨(p).b4, (p).o4, none⟩) 32 (p).k4])] w fun e w' => ∃ x, e = .returned x ∧ RefNew Q w (roundR f) x w' := by
  have cl := Lib.hid fun (wr : World) (hb : RowKit.Below w.heap.size w wr) => rlive_any (h.rows.below hb)
  have H := Lib.hid h
  have HI := Lib.hid I
  have hlen := length_liveL f
  have hmem := Lib.hid (fun x (hx : x ∈ liveL f) => (mem_liveL I.dom).1 hx)
  have hfin : ∀ k, k = (liveL f).length → looksR f ((liveL f).take k) = roundR f := fun k e => by rw [e, List.take_length]; rfl
  have HF := Lib.hid hfin
  obtain ⟨L, hL⟩ : ∃ L, L = liveL f := ⟨_, rfl⟩
  rw [← hL] at cl hlen hmem HF
  clear h I hL hfin
  go_enter Tryz.func62, Tryz.ntmps62
  go_upto_region 1 with (fail)
  obtain ⟨w0, hw0⟩ : ∃ z, z = (w.alloc (.cells #[.slice (some ⟨p.b1, p.o1, none⟩) 32 p.k1, .slice (some ⟨p.b2, p.o2, none⟩) 32 p.k2, .slice (some ⟨p.b3, p.o3, none⟩) 32 p.k3, .slice (some ⟨p.b4, p.o4, none⟩) 32 p.k4] 33)).alloc (.cells #[.slice none 0 0, .slice none 0 0, .slice none 0 0, .slice none 0 0] 33) := ⟨_, rfl⟩
  have B0 : Hid (RowKit.Below w.heap.size w w0) := by rw [hw0]; exact bel_alloc (bel_alloc (RowKit.Below.refl _ _) _) _
  have P0 : Hid (BoxOf w0 w.heap.size p) := by rw [hw0]; exact ⟨by simp [go_sem], by simp [go_sem], by simp [go_sem], by simp [go_sem], by simp [go_sem], by simp [go_sem], by simp [go_sem], by simp [go_sem], by simp; omega⟩
  have R0 : Hid (BoxNil w0 (w.heap.size + 1)) := by rw [hw0]; exact ⟨by simp [go_sem], by simp [go_sem], by simp [go_sem], by simp [go_sem], by simp [go_sem], by simp [go_sem], by simp [go_sem], by simp [go_sem], by simp⟩
  rw [← hw0]
  clear hw0
  have c0 := (P0).out.c0
  have c1 := (P0).out.c1
  have c2 := (P0).out.c2
  have c3 := (P0).out.c3
  have pf0 := (P0).out.f0
  have pf1 := (P0).out.f1
  have pf2 := (P0).out.f2
  have pf3 := (P0).out.f3
  have zp := (P0).out.z
  have r0 := (R0).out.c0
  have r1 := (R0).out.c1
  have r2 := (R0).out.c2
  have r3 := (R0).out.c3
  have rf0 := (R0).out.f0
  have rf1 := (R0).out.f1
  have rf2 := (R0).out.f2
  have rf3 := (R0).out.f3
  have zr := (R0).out.z
  go_wp2_with fail
  refine (cl.out _ B0.out).mono ?_
  rintro e w1 ⟨v1, rfl, hs1, hb⟩
  obtain ⟨a1, q1, rfl, _⟩ := hs1.slice
  have S1 := Lib.hid hs1
  have P1 := Lib.hid (P0.out.later hb)
  have R1 := Lib.hid (R0.out.later hb)
  have B1 := Lib.hid (bel_below B0.out hb)
  have I1 := Lib.hid (H.out.inQ B1.out)
  have hz1 : w.heap.size + 1 < w1.heap.size := R1.out.z
  have hz01 := hb.size
  have hz0 := R0.out.z
  clear c0 c1 c2 c3 pf0 pf1 pf2 pf3 zp r0 r1 r2 r3 rf0 rf1 rf2 rf3 zr
  clear hb hs1 P0 R0 cl
  go_wp2_with fail
  go_loopw [4, 5, 6, 10, 14] (fun _ _ _ i _ wr => ∃ (k : Nat) (pk : Where) (Vk : Nat → Value), k ≤ L.length ∧ i = .int .i64 k ∧ Hid (BoxOf wr w.heap.size pk) ∧ Hid (BoxNil wr (w.heap.size + 1)) ∧ Hid (RefIs (InQ Q w) wr pk (looksR f (L.take k)) Vk) ∧ Hid (RowKit.Below w.heap.size w wr) ∧ Hid (w1.heap.size ≤ wr.heap.size ∧ ∀ b, w0.heap.size ≤ b → b < w1.heap.size → wr.heap[b]? = w1.heap[b]?)) (fun _ _ _ i _ _ => L.length - (intOf i).toNat)
  case atStart => exact ⟨0, p, V, Nat.zero_le _, rfl, P1.out, R1.out, I1.out, B1.out, Nat.le_refl _, fun _ _ _ => rfl⟩
  case round =>
    obtain ⟨k, pk, Vk, hk, rfl, hP, hR, hI, hB, hX⟩ := hrel
    have hz := hR.out.z
    by_cases hlt : k < L.length
    · have hck : ∃ b off : Nat, a1 = some ⟨b, off, none⟩ ∧ b < wr.heap.size ∧ wr.cell? ⟨b, off + k, none⟩ = some (.int .i64 (nth L k)) := by
        obtain ⟨b, off, e, hb0, hb1, hc⟩ := S1.out.at k hlt w1 (RowKit.Below.refl _ _)
        refine ⟨b, off, e, Nat.lt_of_lt_of_le hb1 hX.out.1, ?_⟩
        rw [← hc]
        exact World.cell?_of_block (hX.out.2 b hb0 hb1)
      obtain ⟨b, off, rfl, hb, hc⟩ := hck
      have hin : nth L k ∈ L := nth_mem.2 ⟨k, hlt, rfl⟩
      have hIk : Inv (looksR f (L.take k)) := inv_looks HI.out fun x hx => hmem.out x (List.mem_of_mem_take hx)
      have hlk : livesR (looksR f (L.take k)) (nth L k) = true := by rw [lives_looks]; exact hmem.out _ hin
      have CS := Lib.hid (rstab_yes hI.out hIk.dom hIk.heads (nth L k) hlk)
      have hsn : Hid (looksR f (L.take (k + 1)) = stabR (looksR f (L.take k)) (nth L k)) := show _ = _ by rw [List.take_succ_eq_append_getElem hlt, looks_snoc, nth_eq hlt]
      clear hIk hlk hin
      have c0 := (hP).out.c0
      have c1 := (hP).out.c1
      have c2 := (hP).out.c2
      have c3 := (hP).out.c3
      have pf0 := (hP).out.f0
      have pf1 := (hP).out.f1
      have pf2 := (hP).out.f2
      have pf3 := (hP).out.f3
      have zp := (hP).out.z
      have r0 := (hR).out.c0
      have r1 := (hR).out.c1
      have r2 := (hR).out.c2
      have r3 := (hR).out.c3
      have rf0 := (hR).out.f0
      have rf1 := (hR).out.f1
      have rf2 := (hR).out.f2
      have rf3 := (hR).out.f3
      have zr := (hR).out.z
      go_wp2_with fail
      refine CS.out.mono ?_
      rintro e w2 ⟨x, rfl, hn⟩
      obtain ⟨p', V', rfl, hI2, hb2⟩ := refNew_inQ hn hz
      have P2 := Lib.hid (hP.out.later hb2)
      have R2 := Lib.hid (hR.out.later hb2)
      have B2 := Lib.hid (bel_below hB.out hb2)
      have I2 := Lib.hid hI2
      have hz2 := hb2.size
      have X2 : Hid (w1.heap.size ≤ w2.heap.size ∧ ∀ b, w0.heap.size ≤ b → b < w1.heap.size → w2.heap[b]? = w1.heap[b]?) := ⟨Nat.le_trans hX.out.1 hz2, fun b h0 h1 => (hb2.block b (Nat.lt_of_lt_of_le h1 hX.out.1)).trans (hX.out.2 b h0 h1)⟩
      simp only [Where.val, Where.used, Where.live, Where.ids, Where.peers]
      clear c0 c1 c2 c3 pf0 pf1 pf2 pf3 zp r0 r1 r2 r3 rf0 rf1 rf2 rf3 zr
      clear hn hI2 hb2 CS hc hb hP hR hB hX hI
      have c0 := P2.out.c0
      have c1 := P2.out.c1
      have c2 := P2.out.c2
      have c3 := P2.out.c3
      have pf0 := P2.out.f0
      have pf1 := P2.out.f1
      have pf2 := P2.out.f2
      have pf3 := P2.out.f3
      have zp := P2.out.z
      go_upto_region 6 with (fail)
      obtain ⟨w3, hw3⟩ : ∃ z, z = (((w2.setCell ⟨w.heap.size, 0, none⟩ (.slice (some ⟨p'.b1, p'.o1, none⟩) 32 p'.k1)).setCell ⟨w.heap.size, 1, none⟩ (.slice (some ⟨p'.b2, p'.o2, none⟩) 32 p'.k2)).setCell ⟨w.heap.size, 2, none⟩ (.slice (some ⟨p'.b3, p'.o3, none⟩) 32 p'.k3)).setCell ⟨w.heap.size, 3, none⟩ (.slice (some ⟨p'.b4, p'.o4, none⟩) 32 p'.k4) := ⟨_, rfl⟩
      obtain ⟨hz3, hk3⟩ := block_set4 hw3
      have P3 : BoxOf w3 w.heap.size p' := P2.out.store _ _ _ _ hw3
      have R3 : BoxNil w3 (w.heap.size + 1) := R2.out.block (by omega) (hk3 _ (by omega))
      have I3 : RefIs (InQ Q w) w3 p' (stabR (looksR f (L.take k)) (nth L k)) V' := I2.out.away (by omega) fun b h1 _ _ => hk3 b h1
      have B3 : RowKit.Below w.heap.size w w3 := by
        have hB := B2.out
        rw [hw3]
        (repeat (first | exact Below.refl _ _ | (with_reducible assumption) | (with_reducible refine bel_later ?_ _) | (with_reducible refine bel_alloc ?_ _) | (with_reducible refine bel_drew ?_) | (with_reducible refine bel_drewN ?_ _) | (with_reducible refine bel_set ?_ (by first | (simp; done) | (simp; omega) | (dsimp only; omega)) _)))
      rw [← hw3]
      clear hw3
      obtain ⟨w4, hw4⟩ : ∃ z, z = w3.alloc (.cells #[.slice (some ⟨p'.b1, p'.o1, none⟩) 32 p'.k1, .slice (some ⟨p'.b2, p'.o2, none⟩) 32 p'.k2, .slice (some ⟨p'.b3, p'.o3, none⟩) 32 p'.k3, .slice (some ⟨p'.b4, p'.o4, none⟩) 32 p'.k4] 33) := ⟨_, rfl⟩
      have hb4 : RowKit.Below w3.heap.size w3 w4 := by rw [hw4]; exact bel_alloc (RowKit.Below.refl _ _) _
      have P4 := Lib.hid (P3.later hb4)
      have R4 := Lib.hid (R3.later hb4)
      have I4 := Lib.hid (I3.below hb4)
      have B4 := Lib.hid (bel_below B3 hb4)
      have X4 : Hid (w1.heap.size ≤ w4.heap.size ∧ ∀ b, w0.heap.size ≤ b → b < w1.heap.size → w4.heap[b]? = w1.heap[b]?) := ⟨by have := hb4.size; have := X2.out.1; omega, fun b h0 h1 => (hb4.block b (by have := X2.out.1; omega)).trans ((hk3 b (by omega)).trans (X2.out.2 b h0 h1))⟩
      rw [← hw4]
      clear hw4 hb4 P3 R3 I3 B3 hz3 hk3 c0 c1 c2 c3 pf0 pf1 pf2 pf3 zp P2 R2 I2 B2 X2
      go_wp2_with fail
      go_roundw
      case rel => go_light; exact ⟨k + 1, p', V', by omega, by go_num, P4.out, R4.out, by rw [hsn.out]; exact I4.out, B4.out, X4.out⟩
      case measure => go_light; simp [intOf]; omega
    · obtain rfl : k = L.length := by omega
      have e := HF.out _ rfl
      rw [e] at hI
      have c0 := (hP).out.c0
      have c1 := (hP).out.c1
      have c2 := (hP).out.c2
      have c3 := (hP).out.c3
      have pf0 := (hP).out.f0
      have pf1 := (hP).out.f1
      have pf2 := (hP).out.f2
      have pf3 := (hP).out.f3
      have zp := (hP).out.z
      have r0 := (hR).out.c0
      have r1 := (hR).out.c1
      have r2 := (hR).out.c2
      have r3 := (hR).out.c3
      have rf0 := (hR).out.f0
      have rf1 := (hR).out.f1
      have rf2 := (hR).out.f2
      have rf3 := (hR).out.f3
      have zr := (hR).out.z
      go_wp2_with fail
      refine bodyPost_ret (v := (.agg #[.slice (some ⟨(pk).b1, (pk).o1, none⟩) 32 (pk).k1, .slice (some ⟨(pk).b2, (pk).o2, none⟩) 32 (pk).k2, .slice (some ⟨(pk).b3, (pk).o3, none⟩) 32 (pk).k3, .slice (some ⟨(pk).b4, (pk).o4, none⟩) 32 (pk).k4])) ?_ rfl ?_
      · simp [results, Tryz.results62, go_sem, r0, r1, r2, r3]
      · obtain ⟨w10, hw10⟩ : ∃ z, z = (((wr.setCell ⟨w.heap.size + 1, 0, none⟩ (.slice (some ⟨pk.b1, pk.o1, none⟩) 32 pk.k1)).setCell ⟨w.heap.size + 1, 1, none⟩ (.slice (some ⟨pk.b2, pk.o2, none⟩) 32 pk.k2)).setCell ⟨w.heap.size + 1, 2, none⟩ (.slice (some ⟨pk.b3, pk.o3, none⟩) 32 pk.k3)).setCell ⟨w.heap.size + 1, 3, none⟩ (.slice (some ⟨pk.b4, pk.o4, none⟩) 32 pk.k4) := ⟨_, rfl⟩
        obtain ⟨hz10, hk10⟩ := block_set4 hw10
        have hB' := hB.out
        have B10 : RowKit.Below w.heap.size w w10 := by rw [hw10]; (repeat (first | exact Below.refl _ _ | (with_reducible assumption) | (with_reducible refine bel_later ?_ _) | (with_reducible refine bel_alloc ?_ _) | (with_reducible refine bel_drew ?_) | (with_reducible refine bel_drewN ?_ _) | (with_reducible refine bel_set ?_ (by first | (simp; done) | (simp; omega) | (dsimp only; omega)) _)))
        rw [← hw10]
        exact ⟨_, rfl, (hI.out.away (by omega) fun b _ h2 _ => hk10 b h2).new B10⟩
end Go.Proofs.YtbhaapkafgieiaaGreatDoor
