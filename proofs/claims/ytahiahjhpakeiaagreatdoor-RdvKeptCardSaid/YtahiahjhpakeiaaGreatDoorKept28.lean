/-
  RdvKept walked: each wish that was put is at all keepers of its group.
-/
import Derived.Test.YtahiahjhpakeiaaGreatDoorKept16
import Derived.Test.YtahiahjhpakeiaaGreatDoorKept21
import Derived.Test.YtahiahjhpakeiaaGreatDoorKept23
import Derived.Test.YtahiahjhpakeiaaGreatDoorKept25
import Derived.Test.YtahiahjhpakeiaaGreatDoorKept27
import Derived.Deep.DeepCutAuto
import Derived.Deep.Cut
import Derived.Deep.CutBlock
section
namespace Go.Proofs.YtahiahjhpakeiaaGreatDoor
open Go.RowKit Go.Maps Go.Sort Go.WideShapes Go.ChangeShapes Go.Deep
set_option linter.unusedVariables false
set_option linter.unusedSimpArgs false
attribute [local go_sem] later_cell later_frozen later_lt cell_set_off cell_set_block

/-- All that holds behind a call, ahead of a plan. -/
def KSt (W wx : World) (rb mbr sb mbs X7 X12 : Nat) (kd : Int) (f0 : RS) (s8 s9 : Value) (n : Nat) : Prop :=
  ∃ (f : RS) (T : TT) (rs : List Row) (C : Nat → Prop) (Dd : List Int), Dd.length = n ∧ n ≤ 2 ∧ KW C W wx rb mbr sb mbs f T ∧ KC C W.heap.size wx X7 f0 s8 s9 rs (rs.map fun r => r.e.g) ∧ KM (fun g => keyH (bs g)) f0 f T rs Dd ∧ C X12 ∧ wx.cell? ⟨X12, 4, none⟩ = some (.int .i64 kd)
theorem mvSl_own {B : Nat} {L : List Mv} {w : World} {v : Value} (h : MvSl B L w v) : ∀ q, v.ownBlock = some q → B ≤ q ∧ q < w.heap.size := fun q hq => by
  rcases h with ⟨_, rfl⟩ | ⟨q', cap, rfl, h1, _, _, h2⟩
  · cases hq
  · cases hq; exact ⟨h1, h2.lt⟩
/-- All that holds behind a plan; the blocks of P are the statement's own. -/
def KRt (P : Nat → Prop) (W wr : World) (rb mbr sb mbs X7 X14 : Nat) (f : RS) (bv jv s8 s9 : Value) (rs : List Row) : Prop :=
  ∃ (C : Nat → Prop) (T : TT), KW C W wr rb mbr sb mbs f T ∧ KC C W.heap.size wr X7 f s8 s9 rs (rs.map fun r => r.e.g) ∧ KM (fun g => keyH (bs g)) f f T rs [] ∧ C X14 ∧ BoxC wr X14 bv jv ∧ Circ C wr f bv jv ∧ ∀ b, P b → C b
section
variable {P P' : Nat → Prop} {W w w' : World} {rb mbr sb mbs X7 X14 : Nat} {f : RS} {bv jv s8 s9 : Value} {rs : List Row}
theorem KRt.less (h : KRt P W w rb mbr sb mbs X7 X14 f bv jv s8 s9 rs) (hP : ∀ b, P' b → P b) : KRt P' W w rb mbr sb mbs X7 X14 f bv jv s8 s9 rs := by
  obtain ⟨C, T, h1, h2, h3, h4, h5, h6, h7⟩ := h
  exact ⟨C, T, h1, h2, h3, h4, h5, h6, fun b hb => h7 b (hP b hb)⟩
theorem KRt.later (h : KRt P W w rb mbr sb mbs X7 X14 f bv jv s8 s9 rs) (hb : Below w.heap.size w w') : KRt (fun b => P b ∨ (w.heap.size ≤ b ∧ b < w'.heap.size)) W w' rb mbr sb mbs X7 X14 f bv jv s8 s9 rs := by
  obtain ⟨C, T, h1, h2, h3, h4, h5, h6, h7⟩ := h
  obtain ⟨a1, a2⟩ := h1.later hb
  refine ⟨_, T, a1, h2.calm a2 fun b hb => Or.inl hb, h3, Or.inl h4, h5.same a2.size (a2.block X14 h4), h6.calm a2 fun b hb => Or.inl hb, fun b hb => ?_⟩
  rcases hb with hb | hb
  · exact Or.inl (h7 b hb)
  · exact Or.inr hb
theorem KRt.has (h : KRt P W w rb mbr sb mbs X7 X14 f bv jv s8 s9 rs) {r : Row} (hr : r ∈ rs) {n : Int} (hn : n ∈ keepK f (keyH (bs r.e.g))) (fa : Option Addr) (fn fc : Nat) (an : Bool) (t : Int) :
    Calls Tryz.prog 37 #[.pointer (some ⟨sb, 0, none⟩), .int .i64 n, .agg #[.string (bs r.e.g), .int .i64 r.e.c, .slice fa fn fc, .bool an, .int .i64 t]] w fun e w' => e = .returned (.bool true) ∧ KRt P W w' rb mbr sb mbs X7 X14 f bv jv s8 s9 rs ∧ Calm P w w' := by
  obtain ⟨C, T, h1, h2, h3, h4, h5, h6, h7⟩ := h
  obtain ⟨hd0, hd1⟩ := livesR_dom h3.inv.dom (keepK_lives h3.inv _ n hn)
  refine (h1.scall (T' := setT T n (tabs T n)) (Q := fun e w' => e = .returned (.bool true)) fun R tb D hS hD => has_any hS n hd0 hd1 r.e.g r.e.c fa fn fc an t (km_has h3 hr hn)).mono ?_
  rintro e w' ⟨he, hK, hCa⟩
  exact ⟨he, ⟨C, _, hK, h2.calm hCa fun b hb => hb, km_self h3 n, h4, h5.same hCa.size (hCa.block X14 h4), h6.calm hCa fun b hb => hb, h7⟩, hCa.size, fun b hb => hCa.block b (h7 b hb)⟩
end
set_option maxRecDepth 100000 in
set_option maxHeartbeats 16000000 in
theorem rdvKept_main (W : World) (v0 : Value) (acts : List ActK) (ha : ActsK acts W v0) :
    Calls Tryz.prog 7 #[v0] W fun e w' => e = .returned (.bool true) ∧ Below W.heap.size W w' := by
  have HA := Lib.hid ha
  obtain ⟨a0, q0, rfl, ham⟩ := ha.slice
  clear ha
  go_enter Tryz.func7, Tryz.ntmps7
  go_wp2_with fail
  refine (base_any _).mono ?_
  rintro e w1 ⟨vb, rfl, hs1, hB1⟩
  have CB := Lib.hid (base_made W w1 hB1 vb (hs1.base (Nat.zero_le _)))
  clear hs1 hB1
  go_wp2_with fail
  refine CB.out.mono ?_
  rintro e w2 ⟨rb, mbr, fb, p, rfl, hR⟩
  have R2 := Lib.hid hR
  clear hR CB
  go_upto_region 2 with (fail)
  obtain ⟨w3, hw3⟩ : ∃ z, z = w2.alloc (.cells #[.slice (some ⟨p.b1, p.o1, none⟩) 32 p.k1, .slice (some ⟨p.b2, p.o2, none⟩) 32 p.k2, .slice (some ⟨p.b3, p.o3, none⟩) 32 p.k3, .slice (some ⟨p.b4, p.o4, none⟩) 32 p.k4] 32) := ⟨_, rfl⟩
  have R3 : Hid (RingOk W.heap.size W w3 rb mbr fb) := by rw [hw3]; exact R2.out.later (bel_alloc (RowKit.Below.refl _ _) _)
  rw [← hw3]
  clear hw3 R2
  go_wp2_with fail
  refine (snew_any w3).mono ?_
  rintro e w4 ⟨sb, mbs, rfl, hs4, hb4⟩
  have K4 := Lib.hid (kw_new R3.out hs4 hb4)
  have HINV := Lib.hid R3.out.inv
  clear hs4 hb4 R3
  go_wp2_with fail
  refine (awake21_any w4).mono ?_
  rintro e w5 ⟨rfl, hb5⟩
  have K5 := Lib.hid (K4.out.later hb5).1
  clear hb5 K4
  have CC : Hid (Calls Tryz.prog 10 #[.pointer (some ⟨rb, 0, none⟩)] w5 (CircPost w5 fb (circ fb))) := by
    obtain ⟨S, D, g, hR, _⟩ := K5.out
    exact of_at hR HINV.out
  unfold CircPost at CC
  go_wp2_with fail
  refine CC.out.mono ?_
  rintro e w6 ⟨av, iv, rfl, hav, hiv, hb6⟩
  obtain ⟨aa, ac, rfl, _⟩ := hav.slice
  obtain ⟨ia, ic, rfl, _⟩ := hiv.slice
  have HAV := Lib.hid hav
  have HIV := Lib.hid hiv
  have B6 := Lib.hid hb6
  clear hav hiv hb6 CC
  go_upto_region 8 with (fail)
  obtain ⟨X7, hX7⟩ : ∃ z, z = w6.heap.size := ⟨_, rfl⟩
  obtain ⟨w7, hw7⟩ : ∃ z, z = w6.alloc (.cells #[.slice aa (circ fb).length ac, .slice ia (circ fb).length ic] 38) := ⟨_, rfl⟩
  obtain ⟨w8, hw8⟩ : ∃ z, z = w7.alloc (.cells #[] 79) := ⟨_, rfl⟩
  obtain ⟨w9, hw9⟩ : ∃ z, z = w8.alloc (.cells #[] 9) := ⟨_, rfl⟩
  have z7 : w7.heap.size = w6.heap.size + 1 := by rw [hw7]; simp
  have z8 : w8.heap.size = w6.heap.size + 1 + 1 := by rw [hw8]; simp [z7]
  have z9 : w9.heap.size = w6.heap.size + 1 + 1 + 1 := by rw [hw9]; simp [z8]
  have b67 : Below w6.heap.size w6 w7 := by rw [hw7]; exact bel_alloc (Below.refl _ _) _
  have b78 : Below w7.heap.size w7 w8 := by rw [hw8]; exact bel_alloc (Below.refl _ _) _
  have b89 : Below w8.heap.size w8 w9 := by rw [hw9]; exact bel_alloc (Below.refl _ _) _
  have hW5 := K5.out.bel.size
  have hz56 := B6.out.size
  have h4 : 0 < (circ fb).length := by have := live4 HINV.out; rw [circ_len]; omega
  have K9 : Hid (KW (fun b => w5.heap.size ≤ b ∧ b < w9.heap.size) W w9 rb mbr sb mbs fb (fun _ => none)) := by
    have h1 := (K5.out.later B6.out).1
    have h2 := (h1.later (bel_below (bel_below b67 b78) b89)).1
    exact h2.less fun b hb => by omega
  have KC9 : Hid (KC (fun b => w5.heap.size ≤ b ∧ b < w9.heap.size) W.heap.size w9 X7 fb (.slice (some ⟨w6.heap.size + 1, 0, none⟩) 0 0) (.slice (some ⟨w6.heap.size + 1 + 1, 0, none⟩) 0 0) [] []) := by
    have ha := slAt_own HAV.out h4
    have hi := slAt_own HIV.out h4
    refine ⟨by omega, ⟨.slice aa (circ fb).length ac, .slice ia (circ fb).length ic, ?_, ⟨?_, ?_, fun b hb => ?_, fun b hb => ?_⟩, fun b hb => ?_⟩, ⟨?_, ?_, fun r hr => by simp at hr, fun b hb => ?_, fun b hb => ?_, fun b hb => ?_⟩⟩
    · have c0 : w7.cell? ⟨X7, 0, none⟩ = some (.slice aa (circ fb).length ac) := by rw [hw7, hX7]; simp [go_sem]
      have c1 : w7.cell? ⟨X7, 1, none⟩ = some (.slice ia (circ fb).length ic) := by rw [hw7, hX7]; simp [go_sem]
      have f0 : w7.frozen? ⟨X7, 0, none⟩ = false := by rw [hw7, hX7]; simp [go_sem]
      have f1 : w7.frozen? ⟨X7, 1, none⟩ = false := by rw [hw7, hX7]; simp [go_sem]
      have h : BoxC w7 X7 _ _ := ⟨c0, c1, f0, f1, by omega⟩
      exact (h.same b78.size (b78.block _ (by omega))).same b89.size (b89.block _ (by omega))
    · exact (((HAV.out.base (Nat.zero_le _)).below b67).below b78).below b89
    · exact (((HIV.out.base (Nat.zero_le _)).below b67).below b78).below b89
    · have := ha b hb; omega
    · have := hi b hb; omega
    · have hb' : b = w6.heap.size + 1 ∨ b = w6.heap.size + 1 + 1 := by
        rcases hb with hb | hb <;> cases hb
        · exact Or.inl rfl
        · exact Or.inr rfl
      exact ⟨fun h => by have := ha b h; omega, fun h => by have := hi b h; omega⟩
    · have h : w8.ownsRow W.heap.size 79 5 (.slice (some ⟨w6.heap.size + 1, 0, none⟩) 0 0) 0 [] := by
        rw [← z7, hw8]; exact own_empty w7 79 5 _ (by omega)
      exact ownsRow_same h fun q hq => b89.block q (by cases hq; show w6.heap.size + 1 < _; omega)
    · show w9.ownsRow _ _ _ _ _ _
      rw [← z8, hw9]; exact own_empty w8 9 1 _ (by omega)
    · cases hb; exact ⟨by show _ ≤ w6.heap.size + 1 ∧ w6.heap.size + 1 < _; omega, by show w6.heap.size + 1 ≠ _; omega⟩
    · cases hb; exact ⟨by show _ ≤ w6.heap.size + 1 + 1 ∧ w6.heap.size + 1 + 1 < _; omega, by show w6.heap.size + 1 + 1 ≠ _; omega⟩
    · cases hb; intro h; injection h with h; have h : w6.heap.size + 1 + 1 = w6.heap.size + 1 := h; omega
  obtain ⟨C0, hC0⟩ : ∃ z : Nat → Prop, z = fun b => w5.heap.size ≤ b ∧ b < w9.heap.size := ⟨_, rfl⟩
  rw [← hC0] at K9 KC9
  have KM9 := Lib.hid (km_new (fun g => keyH (bs g)) HINV.out)
  obtain ⟨s8, hs8⟩ : ∃ z, z = Value.slice (some ⟨w6.heap.size + 1, 0, none⟩) 0 0 := ⟨_, rfl⟩
  obtain ⟨s9, hs9⟩ : ∃ z, z = Value.slice (some ⟨w6.heap.size + 1 + 1, 0, none⟩) 0 0 := ⟨_, rfl⟩
  rw [← hs8, ← hs9, ← hw7, ← hw8, ← hw9, ← hX7]
  rw [← hs8, ← hs9] at KC9
  clear hw7 hw8 hw9 hX7 hs8 hs9 hC0 z7 z8 z9 b67 b78 b89 HAV HIV B6 K5 HINV hW5 hz56 h4
  go_wp2_with fail
  go_loopw [8, 9, 10, 11] (fun s8 s9 s10 s11 wr => ∃ (k : Nat) (f f0 : RS) (T : TT) (rs : List Row) (C : Nat → Prop) (Dd : List Int) (dn : Nat), k ≤ acts.length ∧ k ≤ 30 ∧ s11 = .int .i64 k ∧ s10 = .int .i64 dn ∧ Hid (Dd.length = dn) ∧ dn ≤ 1 ∧ Hid (KW C W wr rb mbr sb mbs f T) ∧ Hid (KC C W.heap.size wr X7 f0 s8 s9 rs (rs.map fun r => r.e.g)) ∧ Hid (KM (fun g => keyH (bs g)) f0 f T rs Dd)) (fun _ _ _ i _ => 30 - (intOf i).toNat)
  case atStart => exact ⟨0, fb, fb, fun _ => none, [], C0, [], 0, Nat.zero_le _, by omega, rfl, rfl, rfl, by omega, K9.out, KC9.out, KM9.out⟩
  case round =>
    obtain ⟨k, f, f0, T, rs, C, Dd, dn, hk, hk30, rfl, rfl, HDN, hDd, hW, hC, hM⟩ := hrel
    obtain ⟨wo, rfl⟩ : ∃ z, z = wr := ⟨wr, rfl⟩
    by_cases hltb : k < acts.length ∧ k < 30
    · obtain ⟨hlt, hlt30⟩ := hltb
      have hkI : (k : Int) < (acts.length : Int) := by omega
      have hkI30 : (k : Int) < 30 := by omega
      obtain ⟨ba, oa, rfl, hbz, hA⟩ := HA.out.at k hlt
      have hA2 := hA.below hW.out.bel hbz
      obtain ⟨A, hAe⟩ : ∃ z, z = actK acts k := ⟨_, rfl⟩
      rw [← hAe] at hA2
      have hbw := Nat.lt_of_lt_of_le hbz hW.out.bel.size
      obtain ⟨d0, d1, d2, d3, d4, ⟨d5, d6, d7, d8, d9⟩, dS, hok⟩ := hA2
      have HOK := Lib.hid hok
      obtain ⟨⟨rk, rn, rv, ri⟩, kd, ⟨⟨xg, xc, xfs, xa, xt⟩, xv⟩⟩ := A
      dsimp only at d0 d1 d2 d3 d4 d5 d6 d7 d8 d9 dS
      rw [show sV xg = .string (bs xg) from rfl] at d5
      obtain ⟨xfa, xfc, rfl, _⟩ := dS.slice
      have DS := Lib.hid dS
      clear hA hAe hok dS
      go_upto_block 2 with (fail)
      obtain ⟨X12, hX12⟩ : ∃ z, z = wo.heap.size := ⟨_, rfl⟩
      obtain ⟨w12, hw12⟩ : ∃ z, z = wo.alloc (.cells #[.int .i64 rk, .int .i64 rn, .int .i64 rv, .int .u64 ri, .int .i64 kd, .string (bs xg), .int .i64 xc, .slice xfa xfs.length xfc, .bool xa, .int .i64 xt] 81) := ⟨_, rfl⟩
      have b12 : Below wo.heap.size wo w12 := by rw [hw12]; exact bel_alloc (Below.refl _ _) _
      have e1 : w12.cell? ⟨X12, 1, none⟩ = some (.int .i64 rn) := by rw [hw12, hX12]; simp [go_sem]
      have e2 : w12.cell? ⟨X12, 2, none⟩ = some (.int .i64 rv) := by rw [hw12, hX12]; simp [go_sem]
      have e3 : w12.cell? ⟨X12, 3, none⟩ = some (.int .u64 ri) := by rw [hw12, hX12]; simp [go_sem]
      have e4 : w12.cell? ⟨X12, 4, none⟩ = some (.int .i64 kd) := by rw [hw12, hX12]; simp [go_sem]
      have e5 : w12.cell? ⟨X12, 5, none⟩ = some (.string (bs xg)) := by rw [hw12, hX12]; simp [go_sem]
      have e6 : w12.cell? ⟨X12, 6, none⟩ = some (.int .i64 xc) := by rw [hw12, hX12]; simp [go_sem]
      have e7 : w12.cell? ⟨X12, 7, none⟩ = some (.slice xfa xfs.length xfc) := by rw [hw12, hX12]; simp [go_sem]
      have e8 : w12.cell? ⟨X12, 8, none⟩ = some (.bool xa) := by rw [hw12, hX12]; simp [go_sem]
      have e9 : w12.cell? ⟨X12, 9, none⟩ = some (.int .i64 xt) := by rw [hw12, hX12]; simp [go_sem]
      have ez : X12 < w12.heap.size := by rw [hw12, hX12]; simp
      have hX0 : wo.heap.size ≤ X12 := by omega
      obtain ⟨hKl, hCl⟩ := hW.out.later b12
      have hCl2 := hC.out.calm hCl (C' := fun b => C b ∨ (wo.heap.size ≤ b ∧ b < w12.heap.size)) fun b hb => Or.inl hb
      have hCX : C X12 ∨ (wo.heap.size ≤ X12 ∧ X12 < w12.heap.size) := Or.inr ⟨hX0, ez⟩
      obtain ⟨C1, hC1⟩ : ∃ z : Nat → Prop, z = fun b => C b ∨ (wo.heap.size ≤ b ∧ b < w12.heap.size) := ⟨_, rfl⟩
      have HNB : Hid (∀ b, (u8.ownBlock = some b ∨ u9.ownBlock = some b) → b < X12) := fun b hb => by
        rw [hX12]
        rcases hb with hb | hb
        · exact (hW.out.lt b (hC.out.rows.c8 b hb).1).1
        · exact (hW.out.lt b (hC.out.rows.c9 b hb).1).1
      have HCX : Hid (C1 X12) := show C1 X12 by rw [hC1]; exact hCX
      rw [← hC1] at hKl hCl2
      have K12 := Lib.hid hKl
      have C12 := Lib.hid hCl2
      have DS12 := Lib.hid ((DS.out.below b12))
      have E4 := Lib.hid e4
      try rw [← hw12]
      try rw [← hX12]
      clear hw12 hX12 b12 hX0 hKl hCl hCl2 hCX hC1 hW hC d0 d1 d2 d3 d4 d5 d6 d7 d8 d9 hbw DS
      go_cut [8, 9, 10] (fun s8 s9 s10 wx => ∃ n : Nat, s10 = .int .i64 n ∧ Hid (KSt W wx rb mbr sb mbs X7 X12 kd f0 s8 s9 n))
      case first =>
        --DEV{
        by_cases hk1 : kd = 1
        · subst hk1
          have hc := K12.out.rcall (f' := joinR f rn ri rv) (Q := fun e w' => ∃ v, e = .returned v) fun S g hR => (join_act hR hM.out.inv.heads rn ri rv HOK.out.1.n HOK.out.1.via HOK.out.1.id).mono fun e w' ⟨v, h1, _, h3, h4⟩ => ⟨⟨v, h1⟩, h3, h4⟩
          have HCJ := Lib.hid hc
          clear hc
          go_wp2_with fail
          refine HCJ.out.mono ?_
          rintro e w13 ⟨⟨v, rfl⟩, hK, hCa⟩
          have KS13 : Hid (KSt W w13 rb mbr sb mbs X7 X12 1 f0 u8 u9 dn) := ⟨joinR f rn ri rv, T, rs, C1, Dd, HDN.out, by omega, hK, C12.out.calm hCa fun b hb => hb, ⟨inv_joinR hM.out.inv HOK.out.1.id, hM.out.inv0, hM.out.since.join hM.out.inv HOK.out.1.id, hM.out.fine, hM.out.kept, hM.out.few, hM.out.short⟩, HCX.out, (World.cell?_of_block (hCa.block _ HCX.out)).trans E4.out⟩
          clear hK hCa HCJ
          go_wp2_with fail
          go_meet
          case rel => exact ⟨dn, rfl, KS13⟩
        have hb1 : (kd == 1) = false := by simpa using hk1
        by_cases hk2 : kd = 2
        · subst hk2
          have hc := K12.out.rcall (f' := failR f rn) (Q := fun e w' => ∃ v, e = .returned v ∧ CodeIs w12.heap.size w' v (failC f rn)) fun S g hR => (fail_act hR rn HOK.out.1.n).mono fun e w' ⟨v, h1, h2, h3, h4⟩ => ⟨⟨v, h1, h2⟩, h3, h4⟩
          have HCJ := Lib.hid hc
          clear hc
          go_wp2_with fail
          refine HCJ.out.mono ?_
          rintro e w13 ⟨⟨v, rfl, hv⟩, hK, hCa⟩
          have e1 := (World.cell?_of_block (hCa.block _ HCX.out)).trans e1
          have ez := Nat.lt_of_lt_of_le ez hCa.size
          have C13 := Lib.hid (C12.out.calm hCa fun b hb => hb)
          have E13 : Hid (w13.cell? ⟨X12, 4, none⟩ = some (.int .i64 2)) := (World.cell?_of_block (hCa.block _ HCX.out)).trans E4.out
          have K13 := Lib.hid hK
          clear HCJ hK hCa
          rcases hv with ⟨hc0, rfl⟩ | ⟨hc0, bE, rfl, _⟩
          · have HC0 := Lib.hid hc0
            have HGO := Lib.hid (K13.out.scall (T' := delT T rn) (Q := fun e w' => e = .returned (.tuple #[])) fun R tb D hS hD => sgone_any hS rn HOK.out.1.n)
            clear hc0
            go_wp2_with fail
            refine HGO.out.mono ?_
            rintro e w14 ⟨rfl, hK, hCa⟩
            have KS14 : Hid (KSt W w14 rb mbr sb mbs X7 X12 2 f0 u8 u9 (dn + 1)) := ⟨failR f rn, delT T rn, rs, C1, rn :: Dd, by rw [List.length_cons, HDN.out], by omega, hK, C13.out.calm hCa fun b hb => hb, ⟨inv_failR hM.out.inv rn, hM.out.inv0, hM.out.since.fail hM.out.inv HC0.out, hM.out.fine.del rn, kept_gone hM.out.kept rn, hM.out.few, hM.out.short⟩, HCX.out, (World.cell?_of_block (hCa.block _ HCX.out)).trans E13.out⟩
            clear hK hCa HGO
            go_wp2_with fail
            go_meet
            case rel => exact ⟨dn + 1, by go_num, KS14⟩
          · have KS14 : Hid (KSt W w13 rb mbr sb mbs X7 X12 2 f0 u8 u9 dn) := ⟨f, T, rs, C1, Dd, HDN.out, by omega, by have := K13.out; rw [failR_no hc0] at this; exact this, C13.out, hM.out, HCX.out, E13.out⟩
            clear hc0
            go_wp2_with fail
            go_meet
            case rel => exact ⟨dn, rfl, KS14⟩
        have hb2 : (kd == 2) = false := by simpa using hk2
        by_cases hk4 : kd = 4
        · subst hk4
          have hc := K12.out.rcall (f' := roundR f) (Q := fun e w' => e = .returned (.tuple #[])) fun S g hR => (round_at hR hM.out.inv.heads).mono fun e w' ⟨h1, h2, h3⟩ => ⟨h1, ⟨g, h2⟩, h3⟩
          have HCJ := Lib.hid hc
          clear hc
          go_wp2_with fail
          refine HCJ.out.mono ?_
          rintro e w13 ⟨rfl, hK, hCa⟩
          have KS13 : Hid (KSt W w13 rb mbr sb mbs X7 X12 4 f0 u8 u9 dn) := ⟨roundR f, T, rs, C1, Dd, HDN.out, by omega, hK, C12.out.calm hCa fun b hb => hb, ⟨inv_round hM.out.inv, hM.out.inv0, hM.out.since.round, hM.out.fine, hM.out.kept, hM.out.few, hM.out.short⟩, HCX.out, (World.cell?_of_block (hCa.block _ HCX.out)).trans E4.out⟩
          clear hK hCa HCJ
          go_wp2_with fail
          go_meet
          case rel => exact ⟨dn, rfl, KS13⟩
        have hb4 : (kd == 4) = false := by simpa using hk4
        by_cases hk5 : kd = 5
        · subst hk5
          clear hk1 hk2 hk4
          have CU := Lib.hid (cut_any w12 ⟨xg, xc, xfs, xa, xt⟩ (.slice xfa xfs.length xfc) DS12.out.sls)
          have hEg : (cutE ⟨xg, xc, xfs, xa, xt⟩).g.length ≤ 30 := cutT_len xg
          have hEf : (cutE ⟨xg, xc, xfs, xa, xt⟩).fs.length ≤ 20 := by show ((xfs.take 20).map cutT).length ≤ 20; rw [List.length_map, List.length_take]; omega
          obtain ⟨E, hE⟩ : ∃ z, z = cutE ⟨xg, xc, xfs, xa, xt⟩ := ⟨_, rfl⟩
          rw [← hE] at CU hEg hEf
          clear hE
          obtain ⟨eg, ec, efs, ea, et⟩ := E
          unfold EntV at CU
          dsimp only at CU hEg hEf
          rw [show sV xg = .string (bs xg) from rfl, show sV eg = .string (bs eg) from rfl] at CU
          have CU := Lib.hid CU.out
          obtain ⟨a8, c8, hu8⟩ := own_shape C12.out.rows.p
          subst hu8
          go_wp2_with fail
          refine CU.out.mono ?_
          rintro e w13 ⟨v13, rfl, hs13, hb13⟩
          obtain ⟨a13, c13, rfl, _⟩ := SlAt.slice hs13
          have S13 := Lib.hid hs13
          have B13 := Lib.hid hb13
          clear hs13 hb13 CU
          go_upto_region 25 with (fail)
          obtain ⟨X13, hX13⟩ : ∃ z, z = w13.heap.size := ⟨_, rfl⟩
          obtain ⟨w14, hw14⟩ : ∃ z, z = w13.alloc (.cells #[.string (bs eg), .int .i64 ec, .slice a13 efs.length c13, .bool true, .int .i64 et] 79) := ⟨_, rfl⟩
          have b14 : Below w13.heap.size w13 w14 := by rw [hw14]; exact bel_alloc (Below.refl _ _) _
          have YS : Hid (Box5 w14 X13 (.string (bs eg)) (.int .i64 ec) (.slice a13 efs.length c13) (.bool true) (.int .i64 et)) := by rw [hw14, hX13]; exact box5_new w13 _ _ _ _ _ _
          have hb1214 := bel_below B13.out b14
          obtain ⟨hK14, hCa14⟩ := K12.out.later hb1214
          have hC14 := C12.out.calm hCa14 (C' := fun b => C1 b ∨ (w12.heap.size ≤ b ∧ b < w14.heap.size)) fun b hb => Or.inl hb
          have hX13z : w12.heap.size ≤ X13 ∧ X13 < w14.heap.size := ⟨by rw [hX13]; exact B13.out.size, YS.out.z⟩
          obtain ⟨C2, hC2⟩ : ∃ z : Nat → Prop, z = fun b => C1 b ∨ (w12.heap.size ≤ b ∧ b < w14.heap.size) := ⟨_, rfl⟩
          have HC2 : Hid ((∀ b, C1 b → C2 b) ∧ C2 X13 ∧ ∀ b, w12.heap.size ≤ b → b < w14.heap.size → C2 b) := ⟨fun b hb => by rw [hC2]; exact Or.inl hb, by rw [hC2]; exact Or.inr hX13z, fun b h1 h2 => by rw [hC2]; exact Or.inr ⟨h1, h2⟩⟩
          rw [← hC2] at hK14 hC14
          have K14 := Lib.hid hK14
          have C14 := Lib.hid hC14
          have S14 := Lib.hid (SlAt.below S13.out b14)
          have E14 : Hid (w14.cell? ⟨X12, 4, none⟩ = some (.int .i64 5)) := (World.cell?_of_block (hCa14.block _ HCX.out)).trans E4.out
          have HX123 : Hid (X12 < X13) := show X12 < X13 by omega
          try rw [← hw14]
          try rw [← hX13]
          clear hX13 hw14 b14 hb1214 hK14 hCa14 hC14 hC2 S13 B13
          by_cases hgo : dn = 0 ∧ rs.length ≤ 20
          · obtain ⟨hD0, hr20⟩ := hgo
            subst hD0
            have hrI : ¬ (20 : Int) < (rs.length : Int) := by omega
            obtain ⟨av, iv, hbx, hcc, hbd⟩ := C14.out.box
            obtain ⟨ga, gc, rfl, _⟩ := hcc.a.slice
            obtain ⟨gi, gd, rfl, _⟩ := hcc.i.slice
            have p0 := hbx.c0
            have p1 := hbx.c1
            have pz := hbx.z
            have HP := K14.out.scall (T' := putsT ⟨eg, ec, efs, true, et⟩ T (keepK f0 (keyH (bs eg)))) (Q := fun e w' => e = .returned .nilIface) fun R tb D hS hD =>
              sput_any hS (fun n l hn => by have := hM.out.fine.few.len n; have h2 := hM.out.few; unfold keysE at this; rw [List.length_map, entsOf_len] at this; unfold tabs at this; rw [hn] at this; simp at this; omega) f0 hM.out.inv0 _ _ hcc.a hcc.i ⟨eg, ec, efs, true, et⟩ (by show (bs eg).size ≤ _; rw [bs_size]; omega) (.slice a13 efs.length c13)
                (SlT.of_slAt S14.out fun b h1 h2 => hD b (HC2.out.2.2 b h1 h2)) (by show efs.length ≤ _; omega)
            have HPP : Hid (Calls Tryz.prog 26 #[.pointer (some ⟨sb, 0, none⟩), .agg #[.slice ga (circ f0).length gc, .slice gi (circ f0).length gd], .agg #[.string (bs eg), .int .i64 ec, .slice a13 efs.length c13, .bool true, .int .i64 et]] w14 fun e w' => e = .returned .nilIface ∧ KW C2 W w' rb mbr sb mbs f (putsT ⟨eg, ec, efs, true, et⟩ T (keepK f0 (keyH (bs eg)))) ∧ Calm C2 w14 w') := HP
            obtain ⟨y0, y1, y2, y3, y4, -, -, -, -, -, yz⟩ := YS.out
            clear HP hbx hcc hbd
            go_wp2_with fail
            refine HPP.out.mono ?_
            rintro e w15 ⟨rfl, hK15, hCa15⟩
            have K15 := Lib.hid hK15
            have C15 := Lib.hid (C14.out.calm hCa15 fun b hb => hb)
            have hb13 := hCa15.block X13 HC2.out.2.1
            have y0 := (World.cell?_of_block hb13).trans y0
            have y1 := (World.cell?_of_block hb13).trans y1
            have y2 := (World.cell?_of_block hb13).trans y2
            have y3 := (World.cell?_of_block hb13).trans y3
            have y4 := (World.cell?_of_block hb13).trans y4
            have yz := Nat.lt_of_lt_of_le yz hCa15.size
            have E15 : Hid (w15.cell? ⟨X12, 4, none⟩ = some (.int .i64 5)) := (World.cell?_of_block (hCa15.block _ (HC2.out.1 _ HCX.out))).trans E14.out
            clear hK15 hCa15 hb13 HPP p0 p1 pz
            have b16 : ∀ o : Obj, Below w15.heap.size w15 (w15.alloc o) := fun o => bel_alloc (Below.refl _ _) _
            have B16 := Lib.hid b16
            have hWz := K15.out.bel.size
            clear b16
            go_wp2_with (at_builtin; refine wpList_app_kp rfl _ _ rfl W.heap.size rs _ rfl (ownsRow_same C15.out.rows.p fun q hq => (B16.out _).block q (K15.out.lt q (C15.out.rows.c8 q hq).1).1) w15.heap.size ⟨⟨eg, ec, efs, true, et⟩, .slice a13 efs.length c13⟩ rfl (rowAt_box (box5_new w15 _ _ _ _ _ _)) rfl (by omega) (by simp; omega) ?_)
            intro v8 w17 ho8 hg8 hob8
            obtain ⟨w16, hw16⟩ : ∃ z, z = w15.alloc (.cells #[.string (bs eg), .int .i64 ec, .slice a13 efs.length c13, .bool true, .int .i64 et] 79) := ⟨_, rfl⟩
            have hb16 : Below w15.heap.size w15 w16 := by rw [hw16]; exact B16.out _
            have hz16 : w16.heap.size = w15.heap.size + 1 := by rw [hw16]; simp
            rw [← hw16] at hg8
            have hob8' : v8.ownBlock = Value.ownBlock (.slice a8 rs.length c8) ∨ v8.ownBlock = some w16.heap.size := by rw [hz16]; have := hob8.out; first | exact this | simpa using this
            obtain ⟨hK16, hCa16⟩ := K15.out.later hb16
            have hC16 := C15.out.calm hCa16 (C' := fun b => C2 b ∨ (w15.heap.size ≤ b ∧ b < w16.heap.size)) fun b hb => Or.inl hb
            obtain ⟨hK17, hCa17⟩ := hK16.grow hg8.out fun q hq => (hC16.rows.c8 q hq).1
            have hC17 := hC16.app8 (r := ⟨⟨eg, ec, efs, true, et⟩, .slice a13 efs.length c13⟩) ⟨_, _, _, rfl⟩ ho8.out hg8.out hob8' (fun b hb => (hK16.lt b hb).1) fun b hb => (World.ownsRow.lt ho8.out b hb).2
            have hn17 : ∀ b, C2 b → X12 ≤ b → w17.heap[b]? = w15.heap[b]? := fun b hb h => (hCa17.block b ⟨Or.inl hb, fun e => by have := HNB.out b (Or.inl e); omega⟩).trans (hCa16.block b hb)
            have y0 := (World.cell?_of_block (hn17 X13 HC2.out.2.1 (by have := HX123.out; omega))).trans y0
            have yz17 : X13 < w17.heap.size := by have := hCa16.size; have := hCa17.size; omega
            have E17 : Hid (w17.cell? ⟨X12, 4, none⟩ = some (.int .i64 5)) := (World.cell?_of_block (hn17 X12 (HC2.out.1 _ HCX.out) (Nat.le_refl _))).trans E15.out
            obtain ⟨C3, hC3⟩ : ∃ z : Nat → Prop, z = fun b => (C2 b ∨ (w15.heap.size ≤ b ∧ b < w16.heap.size)) ∨ (w16.heap.size ≤ b ∧ b < w17.heap.size) := ⟨_, rfl⟩
            have HC3 : Hid (∀ b, C2 b → C3 b) := fun b hb => by rw [hC3]; exact Or.inl (Or.inl hb)
            rw [← hC3] at hK17 hC17
            have K17 := Lib.hid hK17
            have C17 := Lib.hid hC17
            clear hw16 hb16 hK16 hCa16 hC16 hK17 hCa17 hC17 hn17 hC3 ho8 hg8 hob8 hob8' hz16 K15 C15 E15 B16 y1 y2 y3 y4 yz
            have B18 : Hid (∀ o : Obj, Below w17.heap.size w17 (w17.alloc o)) := fun o => bel_alloc (Below.refl _ _) _
            have hWz := K17.out.bel.size
            obtain ⟨i0, hi0, hz0, hz1, hz2⟩ : ∃ i0, Tryz.prog.info? 9 = some i0 ∧ i0.zero = some (Value.string ByteArray.empty) ∧ i0.size = 1 ∧ i0.bytes = 16 := ⟨strI, strI_at, by kernel_rfl, by kernel_rfl, by kernel_rfl⟩
            have hgl : (rs.map fun r => r.e.g).length = rs.length := List.length_map _
            have hown9 : Hid (w17.ownsRow W.heap.size 9 1 u9 rs.length ((rs.map fun r => r.e.g).map sV)) := by have := C17.out.rows.g; rw [hgl] at this; exact this
            go_wp2_with (at_builtin; refine wpList_app_row rfl _ _ 24 rfl W.heap.size 9 i0 (.string ByteArray.empty) 16 Tryz.underlying24 hi0 hz0 hz1 hz2 rfl _ rs.length _ rfl (ownsRow_same hown9.out fun q hq => (B18.out _).block q (K17.out.lt q (C17.out.rows.c9 q hq).1).1) 0 (fun _ => sV eg) 1 _ rfl (slS_one _ eg 9 _ ?c4) (by decide) (fun _ => rfl) ?c1 ?c2 ?c3 ?_)
            case c4 => first | rfl | simp
            case c1 => simp only [maxLen]; omega
            case c2 => omega
            case c3 => simp; omega
            intro v9 w19 ho9 hg9 hob9
            have KS19 : Hid (KSt W w19 rb mbr sb mbs X7 X12 5 f0 v8 v9 0) := by
              obtain ⟨w18, hw18⟩ : ∃ z, z = w17.alloc (.cells #[.string (bs eg)] 9) := ⟨_, rfl⟩
              have hb18 : Below w17.heap.size w17 w18 := by rw [hw18]; exact B18.out _
              have hz18 : w18.heap.size = w17.heap.size + 1 := by rw [hw18]; simp
              have hg9' : w18.grownBy w19 u9.ownBlock := by rw [hw18]; exact hg9
              have hob9' : v9.ownBlock = u9.ownBlock ∨ v9.ownBlock = some w18.heap.size := by rw [hz18]; first | exact hob9 | simpa using hob9
              obtain ⟨hK18, hCa18⟩ := K17.out.later hb18
              have hC18 := C17.out.calm hCa18 (C' := fun b => C3 b ∨ (w17.heap.size ≤ b ∧ b < w18.heap.size)) fun b hb => Or.inl hb
              obtain ⟨hK19, hCa19⟩ := hK18.grow hg9' fun q hq => (hC18.rows.c9 q hq).1
              have ho9' : w19.ownsRow W.heap.size 9 1 v9 ((rs.map fun r => r.e.g).length + 1) (((rs.map fun r => r.e.g) ++ [eg]).map sV) := by rw [hgl, List.map_append, List.map_map]; exact ho9
              have hC19 := hC18.app9 ho9' hg9' hob9' (fun b hb => (hK18.lt b hb).1) fun b hb => (World.ownsRow.lt ho9 b hb).2
              have hE19 : w19.cell? ⟨X12, 4, none⟩ = some (.int .i64 5) := by
                have hX := HC3.out _ (HC2.out.1 _ HCX.out)
                exact (World.cell?_of_block ((hCa19.block X12 ⟨Or.inl hX, fun e => by have := HNB.out X12 (Or.inr e); omega⟩).trans (hCa18.block X12 hX))).trans E17.out
              have hD : Dd = [] := List.length_eq_zero_iff.1 HDN.out
              have hMM := hM.out
              rw [hD] at hMM
              have hM2 := km_put (r := ⟨⟨eg, ec, efs, true, et⟩, .slice a13 efs.length c13⟩) hMM rfl hr20 hEg
              refine ⟨f, _, _, _, [], rfl, by omega, hK19, ?_, hM2, Or.inl (Or.inl (HC3.out _ (HC2.out.1 _ HCX.out))), hE19⟩
              rw [List.map_append]
              exact hC19
            clear ho9 hg9 hob9 hown9 hgl K17 C17 E17 B18
            go_wp2_with fail
            go_meet
            case rel => exact ⟨0, rfl, KS19⟩
          · by_cases hD0 : dn = 0
            · subst hD0
              have hrI : (20 : Int) < (rs.length : Int) := by omega
              clear hgo
              go_wp2_with fail
              go_roundw
              case rel => go_light; exact ⟨k + 1, f, f0, T, rs, C2, Dd, 0, by omega, by omega, by go_num, rfl, HDN.out, by omega, K14.out, C14.out, hM.out⟩
              case measure => go_light; simp [intOf]; omega
            · have hDI : (0 : Int) < (dn : Int) := by omega
              clear hgo hD0
              go_wp2_with fail
              go_roundw
              case rel => go_light; exact ⟨k + 1, f, f0, T, rs, C2, Dd, dn, by omega, by omega, by go_num, rfl, HDN.out, by omega, K14.out, C14.out, hM.out⟩
              case measure => go_light; simp [intOf]; omega
        have hb5 : (kd == 5) = false := by simpa using hk5
        have KS13 : Hid (KSt W w12 rb mbr sb mbs X7 X12 kd f0 u8 u9 dn) := ⟨f, T, rs, C1, Dd, HDN.out, by omega, K12.out, C12.out, hM.out, HCX.out, E4.out⟩
        clear hk1 hk2 hk4 hk5
        go_wp2_with fail
        go_meet
        case rel => exact ⟨dn, rfl, KS13⟩
        --DEV}
      case rest =>
        obtain ⟨n, rfl, hS⟩ := hcut
        clear e1 e2 e3 e4 e5 e6 e7 e8 e9 ez hM HNB HCX K12 C12 DS12 E4 HDN hDd HOK
        obtain ⟨f', T', rs', C', Dd', hnl, hn2, hK, hC, hM, hX, hE⟩ := hS.out
        have K1 := Lib.hid hK
        have C1' := Lib.hid hC
        have M1 := Lib.hid hM
        have HN := Lib.hid hnl
        have HX12 := Lib.hid hX
        have xz := (hK.lt X12 hX).1
        clear hS hK hC hM hnl hX
        obtain ⟨wa, rfl⟩ : ∃ z, z = wc := ⟨wc, rfl⟩
        go_upto_region 30 with (fail)
        go_cut [121] (fun s121 wx => s121 = .bool (decide (kd = 6 ∨ n = 2)) ∧ Hid (wx = wa))
        case first =>
          by_cases hk6 : kd = 6
          · subst hk6
            go_wp2_with fail
            go_meet
            case rel => exact ⟨by simp, rfl⟩
          · have hb6 : (kd == 6) = false := by simpa using hk6
            by_cases hn : n = 2
            · subst hn
              go_wp2_with fail
              go_meet
              case rel => exact ⟨by simp, rfl⟩
            · have hnb : ((n : Int) == 2) = false := by simp; omega
              have HH : Hid (decide (kd = 6 ∨ n = 2) = false) := show _ = _ from decide_eq_false fun h => h.elim hk6 hn
              clear hk6 hn
              go_wp2_with fail
              go_meet
              case rel => exact ⟨by rw [HH.out], rfl⟩
        case rest =>
          obtain ⟨rfl, hwc⟩ := hcut
          have hwc := hwc.out.symm
          subst hwc
          by_cases hpl : kd = 6 ∨ n = 2
          · rw [show decide (kd = 6 ∨ n = 2) = true from decide_eq_true hpl]
            clear hpl hE xz
            have HD2 : Hid (Dd'.length ≤ 2) := show _ ≤ _ by rw [HN.out]; exact hn2
            have CO : Hid (Calls Tryz.prog 10 #[.pointer (some ⟨rb, 0, none⟩)] wa (CircPost wa f' (circ f'))) := by
              obtain ⟨S, D, g, hR, _⟩ := K1.out
              exact of_at hR M1.out.inv
            unfold CircPost at CO
            go_wp2_with fail
            refine CO.out.mono ?_
            rintro e wb ⟨bv, jv, rfl, hbv, hjv, hbb⟩
            obtain ⟨xa1, xc1, rfl, _⟩ := hbv.slice
            obtain ⟨xa2, xc2, rfl, _⟩ := hjv.slice
            have HBV := Lib.hid hbv
            have HJV := Lib.hid hjv
            have BB := Lib.hid hbb
            clear hbv hjv hbb CO
            go_upto_region 32 with (fail)
            obtain ⟨X14, hX14⟩ : ∃ z, z = wb.heap.size := ⟨_, rfl⟩
            obtain ⟨wd, hwd⟩ : ∃ z, z = wb.alloc (.cells #[.slice xa1 (circ f').length xc1, .slice xa2 (circ f').length xc2] 38) := ⟨_, rfl⟩
            have hbd : Below wb.heap.size wb wd := by rw [hwd]; exact bel_alloc (Below.refl _ _) _
            have q0 : wd.cell? ⟨X14, 0, none⟩ = some (.slice xa1 (circ f').length xc1) := by rw [hwd, hX14]; simp [go_sem]
            have q1 : wd.cell? ⟨X14, 1, none⟩ = some (.slice xa2 (circ f').length xc2) := by rw [hwd, hX14]; simp [go_sem]
            have qf0 : wd.frozen? ⟨X14, 0, none⟩ = false := by rw [hwd, hX14]; simp [go_sem]
            have qf1 : wd.frozen? ⟨X14, 1, none⟩ = false := by rw [hwd, hX14]; simp [go_sem]
            have qz : X14 < wd.heap.size := by rw [hwd, hX14]; simp
            have hbad : Below wa.heap.size wa wd := bel_below BB.out hbd
            obtain ⟨hKd, hCad⟩ := K1.out.later hbad
            have hCd := C1'.out.calm hCad (C' := fun b => C' b ∨ (wa.heap.size ≤ b ∧ b < wd.heap.size)) fun b hb => Or.inl hb
            have h4 : 0 < (circ f').length := by have := live4 M1.out.inv; rw [circ_len]; omega
            have hob := slAt_own HBV.out h4
            have hoj := slAt_own HJV.out h4
            have hzb := BB.out.size
            have hzd := hbd.size
            have hlowA : ∀ b, C' b → b < wa.heap.size := fun b hb => (K1.out.lt b hb).1
            have HCI : Hid (Circ (fun b => C' b ∨ (wa.heap.size ≤ b ∧ b < wd.heap.size)) wd f' (.slice xa1 (circ f').length xc1) (.slice xa2 (circ f').length xc2)) :=
              ⟨(HBV.out.base (Nat.zero_le _)).below hbd, (HJV.out.base (Nat.zero_le _)).below hbd, fun b hb => Or.inr (by have := hob b hb; omega), fun b hb => Or.inr (by have := hoj b hb; omega)⟩
            have HNEW : Hid (∀ b, u8.ownBlock = some b ∨ u9.ownBlock = some b ∨ b = X7 → (Value.slice xa1 (circ f').length xc1).ownBlock ≠ some b ∧ (Value.slice xa2 (circ f').length xc2).ownBlock ≠ some b) := fun b hb => by
              have h : b < wa.heap.size := by
                rcases hb with hb | hb | hb
                · exact hlowA b (C1'.out.rows.c8 b hb).1
                · exact hlowA b (C1'.out.rows.c9 b hb).1
                · rw [hb]; exact hlowA X7 C1'.out.x
              exact ⟨fun e => by have := hob b e; omega, fun e => by have := hoj b e; omega⟩
            obtain ⟨C2, hC2⟩ : ∃ z : Nat → Prop, z = fun b => C' b ∨ (wa.heap.size ≤ b ∧ b < wd.heap.size) := ⟨_, rfl⟩
            have HX14 : Hid (C2 X14 ∧ X14 ≠ X7) := ⟨by rw [hC2]; exact Or.inr ⟨by omega, qz⟩, by have := hlowA X7 C1'.out.x; omega⟩
            rw [← hC2] at hKd hCd HCI
            have KD := Lib.hid hKd
            have CD := Lib.hid hCd
            have BX14 : Hid (BoxC wd X14 (.slice xa1 (circ f').length xc1) (.slice xa2 (circ f').length xc2)) := ⟨q0, q1, qf0, qf1, qz⟩
            try rw [← hwd]
            try rw [← hX14]
            clear hwd hX14 hbd hbad hKd hCad hCd hob hoj hlowA hC2 HBV HJV BB K1 C1' qf0 qf1 h4
            -- the plan
            obtain ⟨av, iv, hbx, hcc, hbdd⟩ := CD.out.box
            obtain ⟨ga, gc, rfl, _⟩ := hcc.a.slice
            obtain ⟨gi, gd, rfl, _⟩ := hcc.i.slice
            have p0 := hbx.c0
            have p1 := hbx.c1
            have pz := hbx.z
            obtain ⟨a9, c9, hu9⟩ := own_shape CD.out.rows.g
            subst hu9
            have hS9 : SlS 0 (rs'.map fun r : Row => r.e.g) wd (.slice a9 (rs'.map fun r : Row => r.e.g).length c9) := SlAt.base (show SlAt _ _ _ _ _ from (OwnS.of_row (l := rs'.map fun r : Row => r.e.g) CD.out.rows.g).slAt) (Nat.zero_le _)
            have CPL := plan_any wd f0 f' M1.out.inv0 M1.out.inv _ _ _ _ hcc.a hcc.i HCI.out.a HCI.out.i _ _ hS9 (by rw [List.length_map]; have := M1.out.few; omega) (fun s hs => by
              obtain ⟨r, hr, rfl⟩ := List.mem_map.1 hs
              rw [bs_size]
              exact Nat.le_trans (M1.out.short r hr) (by omega))
            unfold PlanPost at CPL
            obtain ⟨gl, hgl⟩ : ∃ z, z = (rs'.map fun r => r.e.g) := ⟨_, rfl⟩
            have HGL := Lib.hid hgl
            rw [← hgl] at CPL CD ⊢
            have CPLL := Lib.hid CPL
            clear hbx hcc hbdd hS9 CPL hgl
            go_wp2_with fail
            refine CPLL.out.mono ?_
            rintro e we ⟨v, L, rfl, hmv, hord, hperm, hbe⟩
            obtain ⟨lv, lc, rfl⟩ := hmv.slice
            obtain ⟨hKe, hCae⟩ := KD.out.later hbe
            have hCe := CD.out.calm hCae (C' := fun b => C2 b ∨ (wd.heap.size ≤ b ∧ b < we.heap.size)) fun b hb => Or.inl hb
            have HCE := Lib.hid (HCI.out.calm hCae (C' := fun b => C2 b ∨ (wd.heap.size ≤ b ∧ b < we.heap.size)) fun b hb => Or.inl hb)
            have hown := mvSl_own hmv
            obtain ⟨C3, hC3⟩ : ∃ z : Nat → Prop, z = fun b => C2 b ∨ (wd.heap.size ≤ b ∧ b < we.heap.size) := ⟨_, rfl⟩
            have HX3 : Hid (C3 X14) := show C3 X14 by rw [hC3]; exact Or.inl HX14.out.1
            rw [← hC3] at hKe hCe HCE
            have BXE := Lib.hid (BX14.out.same hCae.size (hCae.block X14 HX14.out.1))
            have HLM : Hid (∀ m ∈ planU (fun g => keyH (bs g)) f0 f' (setS gl), m ∈ L) := fun m hm => (hperm.mem_iff).2 hm
            have hlen : L.length ≤ 100000 := by
              rw [hperm.length_eq]
              have h1 := planU_len (fun g => keyH (bs g)) f0 f' (setS gl)
              have h2 := setS_len gl
              have h3 : gl.length ≤ 21 := by rw [HGL.out, List.length_map]; exact M1.out.few
              omega
            have HDO := Lib.hid (hKe.scall (T' := doL T' L) (Q := fun e w' => e = .returned .nilIface) fun R tb D hS hD => sdo_any hS (ks := keysE (entsOf rs')) (by unfold keysE; rw [List.length_map, entsOf_len]; have := M1.out.few; omega) M1.out.fine.few _ L (hmv.imp id fun ⟨q, cap, h1, _, h3⟩ => ⟨q, cap, h1, Nat.zero_le _, h3⟩) (fun q hq => hD q (by rw [hC3]; exact Or.inr (hown q hq))) (fun m hm => plan_dom M1.out.inv0 M1.out.inv (hperm.mem_iff.1 hm)) hlen)
            have CE := Lib.hid hCe
            clear hmv hord hperm hbe hKe hCae hCe hown hC3 hlen CPLL KD CD HCI BX14 p0 p1 pz q0 q1 qz
            go_wp2_with fail
            refine HDO.out.mono ?_
            rintro e wf ⟨rfl, hKf, hCaf⟩
            have BXF := Lib.hid (BXE.out.same hCaf.size (hCaf.block X14 HX3.out))
            have HCF := Lib.hid (HCE.out.calm hCaf fun b hb => hb)
            have CF := Lib.hid (CE.out.calm hCaf fun b hb => hb)
            have HTR := Lib.hid (hKf.scall (T' := trimT (fun g => keepK f' (keyH (bs g))) (doL T' L)) (Q := fun e w' => e = .returned (.tuple #[])) fun R tb D hS hD => strim_any hS (km_short M1.out L) f' M1.out.inv _ _ HCF.out.a HCF.out.i (fun b hb => hD b (HCF.out.ca b hb)) (fun b hb => hD b (HCF.out.ci b hb)))
            have q0 := BXF.out.c0
            have q1 := BXF.out.c1
            have qz := BXF.out.z
            clear hKf hCaf HDO BXE HCE CE
            go_wp2_with fail
            refine HTR.out.mono ?_
            rintro e wg ⟨rfl, hKg, hCag⟩
            have BXG := Lib.hid (BXF.out.same hCag.size (hCag.block X14 HX3.out))
            have HCG := Lib.hid (HCF.out.calm hCag fun b hb => hb)
            have CG := Lib.hid (CF.out.calm hCag fun b hb => hb)
            have KG := Lib.hid hKg
            have MG := Lib.hid (km_plan M1.out HD2.out (fun m hm => HLM.out m (by rw [HGL.out]; exact hm)))
            have q0 := BXG.out.c0
            have q1 := BXG.out.c1
            have qz := BXG.out.z
            obtain ⟨av, iv, hbx, _, _⟩ := CG.out.box
            have p0 := hbx.c0
            have p1 := hbx.c1
            have pf0 := hbx.f0
            have pf1 := hbx.f1
            have pz := hbx.z
            clear hKg hCag HTR BXF HCF CF hbx
            go_upto_region 36 with (fail)
            have hKR0 : KRt (fun _ => False) W ((wg.setCell ⟨X7, 0, none⟩ (.slice xa1 (circ f').length xc1)).setCell ⟨X7, 1, none⟩ (.slice xa2 (circ f').length xc2)) rb mbr sb mbs X7 X14 f' (.slice xa1 (circ f').length xc1) (.slice xa2 (circ f').length xc2) u8 (.slice a9 gl.length c9) rs' := by
              obtain ⟨hc1, hc2⟩ := CG.out.circ HCG.out (fun b hb => HNEW.out b (hb.imp id fun h => Or.inl (by rw [HGL.out] at h; exact h))) (fun b hb e => by
                have h := HNEW.out b (Or.inr (Or.inr e))
                rcases hb with hb | hb
                · exact h.1 hb
                · exact h.2 hb)
              obtain ⟨hk1, _⟩ := KG.out.cstep hc2 (Or.inl CG.out.x)
              refine ⟨C3, _, hk1.less fun b hb => Or.inl hb, ?_, MG.out, HX3.out, BXG.out.same hc2.size (hc2.block X14 BXG.out.z HX14.out.2), ?_, fun b hb => hb.elim⟩
              · rw [← HGL.out]; exact hc1
              · have hcm : Calm (fun b => C3 b ∧ b ≠ X7) wg ((wg.setCell ⟨X7, 0, none⟩ (.slice xa1 (circ f').length xc1)).setCell ⟨X7, 1, none⟩ (.slice xa2 (circ f').length xc2)) := ⟨hc2.size, fun b hb => hc2.block b (KG.out.lt b hb.1).1 hb.2⟩
                exact ⟨slAt_calm HCG.out.a hcm fun b hb => ⟨HCG.out.ca b hb, fun e => (HNEW.out b (Or.inr (Or.inr e))).1 hb⟩, slAt_calm HCG.out.i hcm fun b hb => ⟨HCG.out.ci b hb, fun e => (HNEW.out b (Or.inr (Or.inr e))).2 hb⟩, HCG.out.ca, HCG.out.ci⟩
            obtain ⟨wh, hwh⟩ : ∃ z, z = (wg.setCell ⟨X7, 0, none⟩ (.slice xa1 (circ f').length xc1)).setCell ⟨X7, 1, none⟩ (.slice xa2 (circ f').length xc2) := ⟨_, rfl⟩
            rw [← hwh] at hKR0 ⊢
            have KR0 := Lib.hid hKR0
            obtain ⟨a8, c8, hu8⟩ := own_shape CG.out.rows.p
            subst hu8
            have HFEW : Hid (rs'.length ≤ 21) := M1.out.few
            have HSHO : Hid (∀ r ∈ rs', r.e.g.length ≤ 30) := M1.out.short
            have HIF : Hid (Inv f') := M1.out.inv
            have hrl : rs'.length ≤ 21 := M1.out.few
            clear hwh hKR0 CG KG MG HCG BXG p0 p1 pf0 pf1 pz q0 q1 qz HNEW HLM HX3 M1
            go_wp2_with fail
            go_loopw [137] (fun i wr => ∃ m : Nat, m ≤ rs'.length ∧ i = .int .i64 m ∧ Hid (KRt (fun _ => False) W wr rb mbr sb mbs X7 X14 f' (.slice xa1 (circ f').length xc1) (.slice xa2 (circ f').length xc2) (.slice a8 rs'.length c8) (.slice a9 gl.length c9) rs')) (fun i _ => rs'.length - (intOf i).toNat)
            case atStart => exact ⟨0, Nat.zero_le _, rfl, KR0.out⟩
            case round =>
              obtain ⟨m, hm, rfl, hKR⟩ := hrel
              obtain ⟨wo, rfl⟩ : ∃ z, z = wr := ⟨wr, rfl⟩
              by_cases hlm : m < rs'.length
              · have hmI : (m : Int) < (rs'.length : Int) := by omega
                have hrow : ∃ q : Nat, a8 = some ⟨q, 0, none⟩ ∧ RowAt wo q (m * 5) rs'[m] ∧ q < wo.heap.size ∧ ∃ a n c, (rs'[m]).v = .slice a n c := by
                  obtain ⟨C, Tx, hK, hC, _⟩ := hKR.out
                  have h1 := hC.rows.p
                  rcases h1.2 with ⟨e0, h0⟩ | ⟨q, cap', cur, e0, _⟩
                  · omega
                  · cases e0
                    exact ⟨q, rfl, own_rowAt h1 hlm, (World.ownsRow.lt h1 q rfl).2, hC.rows.sh _ (List.getElem_mem hlm)⟩
                obtain ⟨q, rfl, hra, hqz, ra, rln, rc, hrv⟩ := hrow
                have hrm : rs'[m] ∈ rs' := List.getElem_mem hlm
                obtain ⟨r, hr⟩ : ∃ z, z = rs'[m] := ⟨_, rfl⟩
                rw [← hr] at hra hrv hrm
                have HRM : Hid (r ∈ rs') := hrm
                obtain ⟨d0, d1, d2, d3, d4⟩ := hra
                rw [show sV r.e.g = .string (bs r.e.g) from rfl] at d0
                rw [hrv] at d2
                clear hr hrv hrm
                go_upto_region 40 with (fail)
                obtain ⟨X16, hX16⟩ : ∃ z, z = wo.heap.size := ⟨_, rfl⟩
                obtain ⟨wi, hwi⟩ : ∃ z, z = wo.alloc (.cells #[.string (bs r.e.g), .int .i64 r.e.c, .slice ra rln rc, .bool r.e.any, .int .i64 r.e.t] 79) := ⟨_, rfl⟩
                have hbi : Below wo.heap.size wo wi := by rw [hwi]; exact bel_alloc (Below.refl _ _) _
                have YS : Hid (Box5 wi X16 (.string (bs r.e.g)) (.int .i64 r.e.c) (.slice ra rln rc) (.bool r.e.any) (.int .i64 r.e.t)) := by rw [hwi, hX16]; exact box5_new wo _ _ _ _ _ _
                have hKi := hKR.out.later hbi
                have hX16z : wo.heap.size ≤ X16 := by omega
                have hrs : (bs r.e.g).size ≤ 1000000 := by rw [bs_size]; exact Nat.le_trans (HSHO.out r HRM.out) (by omega)
                have CK : Hid (Calls Tryz.prog 16 #[.agg #[.slice xa1 (circ f').length xc1, .slice xa2 (circ f').length xc2], .string (bs r.e.g)] wi (KeepPost wi f' (keyH (bs r.e.g)))) := by
                  obtain ⟨C, Tx, _, _, _, _, _, hCi, _⟩ := hKi
                  exact keep_any wi f' HIF.out _ _ hCi.a hCi.i (bs r.e.g) hrs
                have hq : BoxC wi X14 (.slice xa1 (circ f').length xc1) (.slice xa2 (circ f').length xc2) := by obtain ⟨C, Tx, _, _, _, _, hB, _⟩ := hKi; exact hB
                have q0 := hq.c0
                have q1 := hq.c1
                have qz := hq.z
                obtain ⟨y0, y1, y2, y3, y4, -, -, -, -, -, yz⟩ := YS.out
                have KI := Lib.hid hKi
                have BI := Lib.hid hbi
                unfold KeepPost at CK
                obtain ⟨KL, hKL⟩ : ∃ z, z = keepK f' (keyH (bs r.e.g)) := ⟨_, rfl⟩
                have HKL := Lib.hid hKL
                have HK3 : Hid (KL.length = 3) := show _ = _ by rw [hKL]; rfl
                rw [← hKL] at CK
                try rw [← hwi]
                try rw [← hX16]
                clear hwi hX16 hbi hKi hq hKL hrs hKR d0 d1 d2 d3 d4 hqz
                go_wp2_with fail
                refine CK.out.mono ?_
                rintro e wj ⟨vk, rfl, hsk, hbj⟩
                obtain ⟨ka, kc, rfl, _⟩ := hsk.slice
                obtain ⟨Pj, hPj⟩ : ∃ z : Nat → Prop, z = fun b => wo.heap.size ≤ b ∧ b < wj.heap.size := ⟨_, rfl⟩
                have hzi := BI.out.size
                have hzj := hbj.size
                have KJ : Hid (KRt Pj W wj rb mbr sb mbs X7 X14 f' (.slice xa1 (circ f').length xc1) (.slice xa2 (circ f').length xc2) (.slice (some ⟨q, 0, none⟩) rs'.length c8) (.slice a9 gl.length c9) rs') := (KI.out.later hbj).less fun b hb => by rw [hPj] at hb; omega
                have SJ : Hid (SlAt 0 (fun j => .int .i64 (nth KL j)) 3 wj (.slice ka 3 kc)) := hsk.base (Nat.zero_le _)
                have HPS : Hid (∀ b, (Value.slice ka 3 kc).ownBlock = some b → Pj b) := fun b hb => by
                  have := slAt_own hsk (by omega) b hb
                  rw [hPj]; omega
                have HPX : Hid (Pj X16) := show Pj X16 by rw [hPj]; omega
                have YJ := Lib.hid (YS.out.below hbj)
                clear hsk hbj CK KI y0 y1 y2 y3 y4 q0 q1 qz YS
                go_wp2_with fail
                go_loopw [146] (fun i wr => ∃ j : Nat, j ≤ 3 ∧ i = .int .i64 j ∧ Hid (KRt Pj W wr rb mbr sb mbs X7 X14 f' (.slice xa1 (circ f').length xc1) (.slice xa2 (circ f').length xc2) (.slice (some ⟨q, 0, none⟩) rs'.length c8) (.slice a9 gl.length c9) rs') ∧ Hid (Calm Pj wj wr)) (fun i _ => 3 - (intOf i).toNat)
                case atStart => exact ⟨0, by omega, rfl, KJ.out, ⟨Nat.le_refl _, fun _ _ => rfl⟩⟩
                case round =>
                  obtain ⟨j, hj, rfl, hKj, hCj⟩ := hrel
                  by_cases hlj : j < 3
                  · have hjI : (j : Int) < 3 := by omega
                    have hSr : SlAt 0 (fun j => .int .i64 (nth KL j)) 3 wr (.slice ka 3 kc) := slAt_calm SJ.out hCj.out HPS.out
                    obtain ⟨kb, ko, rfl, _, hkz, hkc⟩ := hSr.at j hlj wr (Below.refl _ _)
                    have hnm : nth KL j ∈ keepK f' (keyH (bs r.e.g)) := by rw [← HKL.out]; exact nth_mem.2 ⟨j, by rw [HK3.out]; exact hlj, rfl⟩
                    have HHS := Lib.hid (hKj.out.has HRM.out hnm ra rln rc r.e.any r.e.t)
                    have hbx := hCj.out.block X16 HPX.out
                    have y0 := (World.cell?_of_block hbx).trans YJ.out.c0
                    have y1 := (World.cell?_of_block hbx).trans YJ.out.c1
                    have y2 := (World.cell?_of_block hbx).trans YJ.out.c2
                    have y3 := (World.cell?_of_block hbx).trans YJ.out.c3
                    have y4 := (World.cell?_of_block hbx).trans YJ.out.c4
                    have yz := Nat.lt_of_lt_of_le YJ.out.z hCj.out.size
                    obtain ⟨nn, hnn⟩ : ∃ z, z = nth KL j := ⟨_, rfl⟩
                    rw [← hnn] at hkc HHS
                    clear hSr hnm hbx hnn hKj
                    go_wp2_with fail
                    refine HHS.out.mono ?_
                    rintro e wk ⟨rfl, hKk, hCk⟩
                    have KK := Lib.hid hKk
                    have CKK := Lib.hid (hCj.out.trans hCk fun b hb => hb)
                    clear hKk hCk HHS y0 y1 y2 y3 y4 hkc hkz
                    go_wp2_with fail
                    go_roundw
                    case rel => go_light; exact ⟨j + 1, by omega, by go_num, KK.out, CKK.out⟩
                    case measure => go_light; simp [intOf]; omega
                  · obtain rfl : j = 3 := by omega
                    have KE := Lib.hid (hKj.out.less (P' := fun _ => False) fun b hb => hb.elim)
                    clear hKj hCj
                    go_wp2_with fail
                    go_roundw
                    case rel => go_light; exact ⟨m + 1, by omega, by go_num, KE.out⟩
                    case measure => go_light; simp [intOf]; omega
              · obtain rfl : m = rs'.length := by omega
                have hmI : ¬ (rs'.length : Int) < (rs'.length : Int) := by omega
                obtain ⟨C, Tx, hK, hC, hM, _⟩ := hKR.out
                have K1 := Lib.hid hK
                have C1 := Lib.hid hC
                have M1 := Lib.hid hM
                clear hK hC hM hKR
                go_wp2_with fail
                go_roundw
                case rel => go_light; exact ⟨k + 1, f', f', Tx, rs', C, [], 0, by omega, by omega, by go_num, rfl, rfl, by omega, K1.out, C1.out, M1.out⟩
                case measure => go_light; simp [intOf]; omega
          · rw [show decide (kd = 6 ∨ n = 2) = false from decide_eq_false hpl]
            have hn1 : n ≤ 1 := by
              have : n ≠ 2 := fun e => hpl (Or.inr e)
              omega
            clear hpl
            go_wp2_with fail
            go_roundw
            case rel => go_light; exact ⟨k + 1, f', f0, T', rs', C', Dd', n, by omega, by omega, by go_num, rfl, HN.out, hn1, K1.out, C1'.out, M1.out⟩
            case measure => go_light; simp [intOf]; omega
    · go_upto_region 10 with (fail)
      go_cut [47] (fun s47 wx => s47 = .bool false ∧ Hid (wx = wo))
      case first =>
        have hcase : acts.length ≤ k ∨ k < acts.length ∧ k = 30 := by omega
        clear hltb
        rcases hcase with hcase | ⟨hcase, rfl⟩
        · have hnI : ¬ (k : Int) < (acts.length : Int) := by omega
          go_wp2_with fail
          go_meet
          case rel => exact ⟨rfl, rfl⟩
        · have hkI : ((30 : Nat) : Int) < (acts.length : Int) := by omega
          go_wp2_with fail
          go_meet
          case rel => exact ⟨rfl, rfl⟩
      case rest =>
        obtain ⟨rfl, hwc⟩ := hcut
        have hwc := hwc.out.symm
        subst hwc
        clear hltb
        go_wp2_with fail
        go_ret
        exact ⟨rfl, hW.out.bel⟩
set_option maxRecDepth 100000 in
theorem rdvKept_walk {H : Type} (enc : TypeId × Value → H) (W : World) (v0 : Value) (d0 : DataW H) (p0 : List MemPlace) {r0 : Reach} {b0 : Nat} (ok0 : Value.okWide Tryz.prog W r0 b0 71 v0) (h0 : DataW.Trod enc Tryz.prog W 0 (fun _ => true) true 71 v0 d0 p0)
    (hlt0 : ∀ x ∈ p0, x.block < W.heap.size) (sz0 : ∀ n ∈ d0.weights Tryz.prog 71, n ≤ reachBytes) (hg : HandleAt W) :
    Calls Tryz.prog 7 #[v0] W fun e W' => e = .returned (.bool true) ∧ RowKit.Below W.heap.size W W' := by
  obtain ⟨acts, ha⟩ := actsK_open ok0 h0
  exact rdvKept_main W v0 acts ha
end Go.Proofs.YtahiahjhpakeiaaGreatDoor
end
