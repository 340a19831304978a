
/-
  chord.Fail.
-/
import Derived.Test.YthbijjpaljjapaaDoorChordO
namespace Go.Proofs.YthbijjpaljjapaaDoor
open Go.RowKit Go.Maps Go.Sort
set_option linter.unusedVariables false
set_option linter.unusedSimpArgs false
attribute [local go_sem] later_cell later_frozen later_lt cell_set_off cell_set_block

variable {S : Nat → Prop} {w : World} {rb mb : Nat} {g : Int → Nat} {f : RS}
/-- A member lives, or doesn't. -/
theorem RingIs.setLive (h : RAt S w rb mb g f) {n : Int} {m : Mem} (hn : f n = some m) (b : Bool) :
    RAt S (w.setCell ⟨g n, 0, none⟩ (.bool b)) rb mb g (setM f n ⟨b, m.id, m.pred, m.succ⟩) := by
  obtain ⟨c0, c1, c2, u, c3, hu⟩ := h.mem n m hn
  have hd : Dom (setM f n ⟨b, m.id, m.pred, m.succ⟩) := fun j mj e => by
    by_cases ej : j = n
    · subst ej; rw [setM_same] at e; cases e; exact h.dom j m hn
    · rw [setM_ne f _ ej] at e; exact h.dom j mj e
  refine h.write hn (size_set _ _ _) (fun b' hb => Below.heap_setCell _ _ _ _ hb) (fun o => by rw [World.frozen?_setCell]; exact (h.memS n m hn).2.2.2.2 o) hd (v := u) (set_at c0) ?_ ?_ ?_ hu
  · rw [cell_set_off _ _ _ _ _ (by decide)]; exact c1
  · rw [cell_set_off _ _ _ _ _ (by decide)]; exact c2
  · rw [cell_set_off _ _ _ _ _ (by decide)]; exact c3
def FailPost (S : Nat → Prop) (w : World) (rb mb : Nat) (g : Int → Nat) (f : RS) (n : Int) (e : Ending) (w' : World) : Prop :=
  (if failC f n = 0 then e = .returned .nilIface else ∃ v, e = .returned v ∧ IsErr w.heap.size w' v (failC f n)) ∧ RAt S w' rb mb g (failR f n) ∧ Kept S w w'
set_option maxRecDepth 100000 in
set_option maxHeartbeats 8000000 in
theorem fail_at (h : RAt S w rb mb g f) (n : Int) (hi : okInt n) : Calls Tryd.prog 8 #[.pointer (some ⟨rb, 0, none⟩), .int .i64 n] w (FailPost S w rb mb g f n) := by
  have HNo : Hid (∀ (c : Int) v w', failC f n = c → c ≠ 0 → IsErr w.heap.size w' v c → RAt S w' rb mb g f → Kept S w w' → FailPost S w rb mb g f n (.returned v) w') := fun c v w' h1 h2 h3 h4 h5 => by
    unfold FailPost failR; rw [h1, if_neg h2, if_neg h2]; exact ⟨⟨v, rfl, h3⟩, h4, h5⟩
  have HYes : Hid (∀ w', failC f n = 0 → RAt S w' rb mb g (diesR f n) → Kept S w w' → FailPost S w rb mb g f n (.returned .nilIface) w') := fun w' h1 h2 h3 => by
    unfold FailPost failR; rw [if_pos h1, if_pos h1]; exact ⟨rfl, h2, h3⟩
  have r0 := h.root
  have z0 := h.rbz
  have cl := Lib.hid (lives_at h n hi)
  have H := Lib.hid h
  cases hlv : livesR f n with
  | false =>
    have hc : Hid (failC f n = 6) := show failC f n = 6 by unfold failC; rw [if_pos hlv]
    rw [hlv] at cl
    clear h
    go_enter Tryd.func8, Tryd.ntmps8
    go_wp2_with (go_at_call 21; refine cl.out.mono ?_; rintro e w' ⟨rfl, rfl⟩)
    refine (fault_any _ _).mono ?_
    rintro e w' ⟨v, rfl, hE, hB⟩
    go_wp2_with fail
    go_ret
    exact HNo.out 6 _ _ hc.out (by decide) hE (H.out.below hB) ((Kept.refl S w).below hB)
  | true =>
    rw [hlv] at cl
    by_cases h4 : n < 4
    · have hc : Hid (failC f n = 5) := show failC f n = 5 by unfold failC; rw [if_neg (by simp [hlv]), if_pos h4]
      clear h hlv
      go_enter Tryd.func8, Tryd.ntmps8
      go_wp2_with (go_at_call 21; refine cl.out.mono ?_; rintro e w' ⟨rfl, rfl⟩)
      refine (fault_any _ _).mono ?_
      rintro e w' ⟨v, rfl, hE, hB⟩
      go_wp2_with fail
      go_ret
      exact HNo.out 5 _ _ hc.out (by decide) hE (H.out.below hB) ((Kept.refl S w).below hB)
    · obtain ⟨m, hm, hml⟩ := livesR_some hlv
      obtain ⟨c0, c1, c2, zn, ln⟩ := h.at hm hi
      have fz := (h.memS n m hm).2.2.2.2 0
      have hS := (h.memS n m hm).1
      have hdf : Hid (diesR f n = setM f n ⟨false, m.id, m.pred, m.succ⟩) := show diesR f n = _ by unfold diesR idR predR succR; rw [hm]
      have h2 := h.setLive hm false
      rw [← hdf.out] at h2
      obtain ⟨w2, hw2⟩ : ∃ w2, w2 = w.setCell ⟨g n, 0, none⟩ (.bool false) := ⟨_, rfl⟩
      have hz2 : w2.heap.size = w.heap.size := by rw [hw2]; exact size_set _ _ _
      have K2 : Hid (Kept S w w2) := by rw [hw2]; exact (Kept.refl S w).set (p := ⟨g n, 0, none⟩) hS _
      rw [← hw2] at h2
      have H2 := Lib.hid h2
      have CL := Lib.hid (live_at h2)
      have hdm := Lib.hid (fun x (hx : x ∈ liveL (diesR f n)) => (mem_liveL h2.dom).1 hx)
      have hlen := length_liveL (diesR f n)
      have hC4 : Hid (failC f n = if (liveL (diesR f n)).any (fun k => headR (diesR f n) k == -1) then 5 else 0) := show failC f n = _ by unfold failC; rw [if_neg (by simp [hlv]), if_neg h4]
      have HM : Hid (diesR f n n = some ⟨false, m.id, m.pred, m.succ⟩) := show _ = _ by rw [hdf.out, setM_same]
      have hback : Hid (setM (diesR f n) n ⟨true, m.id, m.pred, m.succ⟩ = f) := show _ = _ by
        rw [hdf.out, setM_setM]
        funext j
        unfold setM
        split
        · rename_i e; rw [e, hm, ← hml]
        · rfl
      obtain ⟨f2, hf2⟩ : ∃ f2, f2 = diesR f n := ⟨_, rfl⟩
      rw [← hf2] at CL hdm hlen hC4 HM hback H2 HYes
      obtain ⟨L, hL⟩ : ∃ L, L = liveL f2 := ⟨_, rfl⟩
      rw [← hL] at CL hdm hlen hC4
      have HW2 := Lib.hid hw2
      clear h h2 hm hml hlv hL hdf hf2 hw2 c1 c2
      go_enter Tryd.func8, Tryd.ntmps8
      go_wp2_with (go_at_call 21; refine cl.out.mono ?_; rintro e w' ⟨rfl, rfl⟩)
      rw [← HW2.out]
      refine CL.out.mono ?_
      rintro e w3 ⟨v, rfl, hs, hB⟩
      obtain ⟨a, q, rfl, _⟩ := hs.slice
      have HS := Lib.hid hs
      have HB := Lib.hid hB
      clear hs hB HW2 c0 fz r0 z0 zn ln
      go_wp2_with fail
      go_loopw [6, 26] (fun _ i wr => ∃ k : Nat, k ≤ L.length ∧ i = .int .i64 k ∧ Hid (RowKit.Below w3.heap.size w3 wr) ∧ Hid (∀ j, j < k → headR f2 (nth L j) ≠ -1)) (fun _ i _ => L.length - (intOf i).toNat)
      case atStart => exact ⟨0, Nat.zero_le _, rfl, RowKit.Below.refl _ _, fun j hj => absurd hj (by omega)⟩
      case round =>
        obtain ⟨k, hk, rfl, hB3, hno⟩ := hrel
        have B2 := Lib.hid (bel_below HB.out hB3.out)
        have h3 := H2.out.below B2.out
        by_cases hlt : k < L.length
        · obtain ⟨b, off, rfl, _, hb, hc⟩ := HS.out.at k hlt wr hB3.out
          have hin : nth L k ∈ L := nth_mem.2 ⟨k, hlt, rfl⟩
          have hlx := hdm.out _ hin
          have hxd := livesR_dom H2.out.dom hlx
          have okx : okInt (nth L k) := okInt_dom (by omega) (by omega)
          obtain ⟨mx, hmx, _⟩ := livesR_some hlx
          obtain ⟨d0, d1, d2, zx, lx⟩ := h3.at hmx okx
          obtain ⟨_, _, _, v3, d3, hv3⟩ := h3.mem _ mx hmx
          obtain ⟨a3, q3, rfl, _⟩ : ∃ a c, v3 = .slice a mx.succ.length c ∧ True := by obtain ⟨a, c, rfl, _⟩ := hv3; exact ⟨a, c, rfl, trivial⟩
          have r3 := h3.root
          have z3 := h3.rbz
          have hd := h3.dom _ mx hmx
          have ch := Lib.hid (head_at h3 mx.succ (by omega) (fun y hy => okInt_dom (by have := hd.2.2.2.2.2 y hy; omega) (by have := hd.2.2.2.2.2 y hy; omega)) _ hv3.slAt mx.id mx.pred)
          have hhx : headR f2 (nth L k) = headL f2 mx.succ := by unfold headR succR; rw [hmx]
          by_cases he : headL f2 mx.succ = -1
          · have hC : Hid (failC f n = 5) := show failC f n = 5 by rw [hC4.out, if_pos (List.any_eq_true.2 ⟨_, hin, by simp [hhx, he]⟩)]
            rw [he] at ch
            clear hhx he hd hv3 hmx hlx hxd hin
            go_wp2_with fail
            refine ch.out.mono ?_
            rintro e w5 ⟨rfl, hB5⟩
            have h5 := H2.out.below (bel_below B2.out hB5)
            obtain ⟨e0, _, _, zn, ln⟩ := h5.at HM.out hi
            have fz := (h5.memS n _ HM.out).2.2.2.2 0
            have r5 := h5.root
            have z5 := h5.rbz
            have h6 := h5.setLive HM.out true
            rw [hback.out] at h6
            have K6 := Lib.hid (((K2.out.below B2.out).below hB5).set (p := ⟨g n, 0, none⟩) hS (.bool true))
            have H6 := Lib.hid h6
            have hz6 : w.heap.size ≤ (w5.setCell ⟨g n, 0, none⟩ (.bool true)).heap.size := K6.out.size
            clear h5 h6 h3 d0 d1 d2 d3 zx lx r3 z3
            go_wp2_with fail
            refine (fault_any _ _).mono ?_
            rintro e w' ⟨v, rfl, hE, hB⟩
            go_wp2_with fail
            go_ret
            exact HNo.out 5 _ _ hC.out (by decide) (hE.base hz6) (H6.out.below hB) (K6.out.below hB)
          · have heb : (headL f2 mx.succ == -1) = false := by simpa using he
            have HE := Lib.hid (show headR f2 (nth L k) ≠ -1 by rw [hhx]; exact he)
            clear hhx he hd hv3 hmx hlx hxd hin h3
            go_wp2_with fail
            refine ch.out.mono ?_
            rintro e w5 ⟨rfl, hB5⟩
            have B5 := Lib.hid (bel_below hB3.out hB5)
            clear hB5
            go_wp2_with fail
            go_roundw
            case rel =>
              go_light
              refine ⟨k + 1, by omega, by go_num, B5.out, fun j hj => ?_⟩
              by_cases e : j = k
              · subst e; exact HE.out
              · exact hno.out j (by omega)
            case measure => go_light; simp [intOf]; omega
        · obtain rfl : k = L.length := by omega
          have hC : Hid (failC f n = 0) := show failC f n = _ by
            rw [hC4.out, if_neg]
            intro h
            obtain ⟨x, hx, e⟩ := List.any_eq_true.1 h
            obtain ⟨j, hj, rfl⟩ := nth_mem.1 hx
            exact hno.out j hj (by simpa using e)
          clear hlt h3
          go_wp2_with fail
          go_ret
          exact HYes.out _ hC.out (H2.out.below B2.out) (K2.out.below B2.out)
end Go.Proofs.YthbijjpaljjapaaDoor
