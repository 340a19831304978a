
/-
  What Stabilize leaves of a ring.
-/
import Derived.Test.YthbijjpaljjapaaDoorChordD
import Derived.Deep.Cut
namespace Go.Proofs.YthbijjpaljjapaaDoor
open Go.RowKit Go.Maps
set_option linter.unusedVariables false
set_option linter.unusedSimpArgs false
attribute [local go_sem] later_cell later_frozen later_lt

theorem dom_succ {f : RS} (h : Dom f) {n : Int} {m : Mem} (hn : f n = some m) {l : List Int} (h1 : l.length ≤ 3) (h2 : ∀ x ∈ l, 0 ≤ x ∧ x < 32) : Dom (setM f n ⟨m.live, m.id, m.pred, l⟩) := fun j mj e => by
  by_cases ej : j = n
  · subst ej; rw [setM_same] at e; cases e
    obtain ⟨a, b, c, _, d, _⟩ := h j m hn
    exact ⟨a, b, c, h1, d, h2⟩
  · rw [setM_ne f _ ej] at e; exact h j mj e
theorem dom_pred {f : RS} (h : Dom f) {n : Int} {m : Mem} (hn : f n = some m) {q : Int} (h1 : -1 ≤ q) (h2 : q < 32) : Dom (setM f n ⟨m.live, m.id, q, m.succ⟩) := fun j mj e => by
  by_cases ej : j = n
  · subst ej; rw [setM_same] at e; cases e
    obtain ⟨a, b, c, d, _, k⟩ := h j m hn
    exact ⟨a, b, c, d, ⟨h1, h2⟩, k⟩
  · rw [setM_ne f _ ej] at e; exact h j mj e
theorem follow_len (s : Int) (l : List Int) : (followL s l).length ≤ 3 := by unfold followL; rw [List.length_take]; omega
theorem follow_mem {s : Int} {l : List Int} (hs : 0 ≤ s ∧ s < 32) (hl : ∀ x ∈ l, 0 ≤ x ∧ x < 32) : ∀ x ∈ followL s l, 0 ≤ x ∧ x < 32 := fun x hx => by
  rcases List.mem_cons.1 (List.mem_of_mem_take hx) with rfl | h
  · exact hs
  · exact hl x h
variable {S : Nat → Prop} {w : World} {rb mb : Nat} {g : Int → Nat} {f : RS}

theorem setM_setM (f : RS) (n : Int) (m m' : Mem) : setM (setM f n m) n m' = setM f n m' := funext fun j => by unfold setM; split <;> rfl
theorem setM_get {f : RS} {n s : Int} {m ms : Mem} {l : List Int} (hn : f n = some m) (hs : f s = some ms) :
    ∃ m3, setM f n ⟨m.live, m.id, m.pred, l⟩ s = some m3 ∧ m3.live = ms.live ∧ m3.id = ms.id ∧ m3.pred = ms.pred ∧ (s ≠ n → m3 = ms) := by
  by_cases e : s = n
  · subst e
    rw [hn] at hs
    cases hs
    exact ⟨_, setM_same _ _ _, rfl, rfl, rfl, fun h => absurd rfl h⟩
  · exact ⟨ms, by rw [setM_ne f _ e]; exact hs, rfl, rfl, rfl, fun _ => rfl⟩
theorem lives_setM {f : RS} {n : Int} {m : Mem} {l : List Int} {q : Int} (hn : f n = some m) (j : Int) : livesR (setM f n ⟨m.live, m.id, q, l⟩) j = livesR f j := by
  rw [livesR_set]; split
  · rename_i e; rw [e]; unfold livesR; rw [hn]
  · rfl
theorem id_setM {f : RS} {n : Int} {m : Mem} {l : List Int} {q : Int} (hn : f n = some m) (j : Int) : idR (setM f n ⟨m.live, m.id, q, l⟩) j = idR f j := by
  rw [idR_set]; split
  · rename_i e; rw [e]; unfold idR; rw [hn]
  · rfl
theorem near_congr {f f' : RS} (h1 : ∀ j, livesR f' j = livesR f j) (h2 : ∀ j, idR f' j = idR f j) (q fr to : Int) : nearR f' q fr to = nearR f q fr to := by unfold nearR; rw [h1, h2, h2]
theorem rect_congr {f f' : RS} (h1 : ∀ j, livesR f' j = livesR f j) (h2 : ∀ j, idR f' j = idR f j) (id pred n : Int) : rectR f' id pred n = rectR f id pred n := by unfold rectR; rw [h1, h2, h2]
theorem near_ne {f : RS} {q n s : Int} (h : nearR f q (idR f n) s = true) : q ≠ n ∧ livesR f q = true := by
  unfold nearR at h
  rw [Bool.and_eq_true, Bool.and_eq_true] at h
  refine ⟨fun e => ?_, h.1.2⟩
  have := h.2
  rw [e] at this
  unfold withinB at this
  split at this <;> simp at this
theorem rect_dom {f : RS} {id pred n : Int} (hp : -1 ≤ pred ∧ pred < 32) (hn : 0 ≤ n ∧ n < 32) : -1 ≤ rectR f id pred n ∧ rectR f id pred n < 32 := by
  unfold rectR; split <;> omega
/-- The member that looked has its list; who is told has its own. -/
theorem stabR_eq {f : RS} {n T : Int} {m mT m' : Mem} {l : List Int} (hn : f n = some m) (hT : stabT f n = T) (hmT : f T = some mT) (hl : l = followL T mT.succ) (hm' : setM f n ⟨m.live, m.id, m.pred, l⟩ T = some m') :
    setM (setM f n ⟨m.live, m.id, m.pred, l⟩) T ⟨m'.live, m'.id, rectR (setM f n ⟨m.live, m.id, m.pred, l⟩) m'.id m'.pred n, m'.succ⟩ = stabR f n := by
  have h1 : stab1 f n = setM f n ⟨m.live, m.id, m.pred, l⟩ := by
    unfold stab1
    rw [hT, hl]
    unfold livesR idR predR succR
    rw [hn, hmT]
  obtain ⟨m3, e, e1, e2, e3, _⟩ := setM_get (l := l) hn hmT
  rw [hm'] at e
  cases e
  have hsu : succR (setM f n ⟨m.live, m.id, m.pred, l⟩) T = m'.succ := by unfold succR; rw [hm']
  unfold stabR
  rw [hT, h1, hsu, rect_congr (lives_setM hn) (id_setM hn), e1, e2, e3]
  unfold livesR idR predR
  rw [hmT]

def StabPost (S : Nat → Prop) (w : World) (rb mb : Nat) (g : Int → Nat) (f : RS) (n : Int) (e : Ending) (w' : World) : Prop :=
  if livesR f n = true then e = .returned .nilIface ∧ RAt S w' rb mb g (stabR f n) ∧ Kept S w w' else ∃ v, e = .returned v ∧ IsErr w.heap.size w' v 6 ∧ Below w.heap.size w w'
theorem stabT_no {f : RS} {n : Int} {m : Mem} (hn : f n = some m) {s : Int} (hs : s = headL f m.succ) {ms : Mem} (hms : f s = some ms) (h : nearR f ms.pred m.id s = false) : stabT f n = s := by
  have e1 : headR f n = s := by unfold headR succR; rw [hn, hs]
  unfold stabT
  rw [e1, show predR f s = ms.pred from by unfold predR; rw [hms], show idR f n = m.id from by unfold idR; rw [hn], h]
  rfl
theorem stabT_yes {f : RS} {n : Int} {m : Mem} (hn : f n = some m) {s : Int} (hs : s = headL f m.succ) {ms : Mem} (hms : f s = some ms) (h : nearR f ms.pred m.id s = true) : stabT f n = ms.pred := by
  have e1 : headR f n = s := by unfold headR succR; rw [hn, hs]
  unfold stabT
  rw [e1, show predR f s = ms.pred from by unfold predR; rw [hms], show idR f n = m.id from by unfold idR; rw [hn], h]
  rfl
set_option maxRecDepth 100000 in
set_option maxHeartbeats 4000000 in
theorem stab_at (h : RAt S w rb mb g f) (n : Int) (hi : okInt n) (hh : Heads f) :
    Calls Tryd.prog 9 #[.pointer (some ⟨rb, 0, none⟩), .int .i64 n] w (StabPost S w rb mb g f n) := by
  have r0 := h.root
  have z0 := h.rbz
  have cl := Lib.hid (lives_at h n hi)
  cases hlv : livesR f n with
  | false =>
    rw [hlv] at cl
    have HP : Hid (∀ e w', (∃ v, e = .returned v ∧ IsErr w.heap.size w' v 6 ∧ Below w.heap.size w w') → StabPost S w rb mb g f n e w') := fun e w' hx => by unfold StabPost; rw [hlv]; exact hx
    clear h hlv hh
    go_enter Tryd.func9, Tryd.ntmps9
    go_wp2_with (first | (go_at_call 21; refine cl.out.mono ?_; rintro e w' ⟨rfl, rfl⟩) | (go_at_call 14; refine (fault_any _ _).mono ?_; rintro e w' ⟨v, rfl, hE, hB⟩))
    go_ret
    exact HP.out _ _ ⟨_, rfl, hE, hB⟩
  | true =>
    obtain ⟨m, hn, hml⟩ := livesR_some hlv
    rw [hlv] at cl
    obtain ⟨c0, c1, c2, zn, ln⟩ := h.at hn hi
    obtain ⟨_, _, _, v3, c3, hv3⟩ := h.mem n m hn
    obtain ⟨s1, s2, s3, s4, s5⟩ := h.memS n m hn
    obtain ⟨a3, q3, rfl, _⟩ : ∃ a c, v3 = .slice a m.succ.length c ∧ True := by obtain ⟨a, c, rfl, _⟩ := hv3; exact ⟨a, c, rfl, trivial⟩
    have hd := h.dom n m hn
    have ch := Lib.hid (head_at h m.succ (by omega) (fun x hx => okInt_dom (by have := hd.2.2.2.2.2 x hx; omega) (by have := hd.2.2.2.2.2 x hx; omega)) _ hv3.slAt m.id m.pred)
    have H := Lib.hid h
    have HH := Lib.hid hh
    have HN := Lib.hid hn
    have HP : Hid (∀ e w', (e = .returned .nilIface ∧ RAt S w' rb mb g (stabR f n) ∧ Kept S w w') → StabPost S w rb mb g f n e w') := fun e w' hx => by unfold StabPost; rw [if_pos hlv]; exact hx
    have hs : livesR f (headL f m.succ) = true := by have := hh n hlv; rwa [show headR f n = headL f m.succ from by unfold headR succR; rw [hn]] at this
    have HS := Lib.hid hs
    clear h hh hn hlv hv3 hd hs
    go_enter Tryd.func9, Tryd.ntmps9
    go_wp2_with (go_at_call 21; refine cl.out.mono ?_; rintro e w' ⟨rfl, rfl⟩)
    refine ch.out.mono ?_
    rintro e w1 ⟨rfl, hB1⟩
    have h1 := H.out.below hB1
    obtain ⟨s, hsE⟩ : ∃ s, s = headL f m.succ := ⟨_, rfl⟩
    rw [← hsE] at HS ⊢
    have HSE := Lib.hid hsE
    clear hsE
    obtain ⟨ms, hms, hmsl⟩ := livesR_some HS.out
    have hds := h1.dom s ms hms
    have oks : okInt s := okInt_dom (by omega) (by omega)
    obtain ⟨d0, d1, d2, zs, ls⟩ := h1.at hms oks
    obtain ⟨_, _, _, vs, d3, hvs⟩ := h1.mem s ms hms
    obtain ⟨aS, qS, rfl, _⟩ : ∃ a c, vs = .slice a ms.succ.length c ∧ True := by obtain ⟨a, c, rfl, _⟩ := hvs; exact ⟨a, c, rfl, trivial⟩
    have r1 := h1.root
    have z1 := h1.rbz
    have cf := Lib.hid (follow_at w1 s ms.id ms.pred _ ms.succ hvs.slAt (by omega))
    have H1 := Lib.hid h1
    have hds6 := Lib.hid hds.2.2.2.2.2
    clear h1 hvs
    go_wp2_with fail
    refine cf.out.mono ?_
    rintro e w2 ⟨v2, rfl, hv2, hB2⟩
    obtain ⟨a2, q2, rfl, _⟩ := hv2.slice
    have h2 := H1.out.below hB2
    obtain ⟨c0, c1, c2, zn, ln⟩ := h2.at HN.out hi
    obtain ⟨_, _, _, v3, c3, hv3⟩ := h2.mem n m HN.out
    have fz := (h2.memS n m HN.out).2.2.2.2 3
    have r2 := h2.root
    have z2 := h2.rbz
    have hl2 := H1.out.newSl hv2
    have h3 := h2.setSucc HN.out hl2 (dom_succ h2.dom HN.out (follow_len _ _) (follow_mem (by omega) hds6.out))
    have K3 := Lib.hid ((((Kept.refl S w).below hB1).below hB2).set (p := ⟨g n, 3, none⟩) s1 (.slice a2 (followL s ms.succ).length q2))
    have H2 := Lib.hid h2
    have H3 := Lib.hid h3
    have HL2 := Lib.hid hl2
    clear h2 h3 hv2 hl2 hv3
    go_upto_region 6 with (fail)
    obtain ⟨w3, hw3⟩ : ∃ w3, w3 = w2.setCell ⟨g n, 3, none⟩ (.slice a2 (followL s ms.succ).length q2) := ⟨_, rfl⟩
    rw [← hw3] at H3 K3 ⊢
    clear hw3
    clear c0 c1 c2 c3 zn ln fz r2 z2
    obtain ⟨m3, hm3, e1, e2, e3, e4⟩ := setM_get (l := followL s ms.succ) HN.out hms
    have cn := near_at H3.out ms.pred m.id s (okInt_dom (by omega) (by omega)) oks
    rw [near_congr (lives_setM HN.out) (id_setM HN.out)] at cn
    have CN := Lib.hid cn
    obtain ⟨n0, n1, n2, zn3, ln3⟩ := H3.out.at (setM_same f n _) hi
    obtain ⟨t0, t1, t2, zt3, lt3⟩ := H3.out.at hm3 oks
    rw [e3] at t2
    have r3 := H3.out.root
    have z3 := H3.out.rbz
    have E3 := Lib.hid (And.intro hm3 (And.intro e1 (And.intro e2 (And.intro e3 e4))))
    clear cn hm3 e1 e2 e3 e4
    dsimp only at n0 n1 n2
    go_wp2_with fail
    refine CN.out.mono ?_
    rintro e w4 ⟨rfl, hB4⟩
    have hn32 := Lib.hid (show 0 ≤ n ∧ n < 32 from livesR_dom H.out.dom (by unfold livesR; rw [HN.out]; exact hml))
    have K4 := Lib.hid (K3.out.below hB4)
    have H4 := Lib.hid (H3.out.below hB4)
    clear n0 n1 n2 zn3 ln3 t0 t1 t2 zt3 lt3 r3 z3
    cases hq : nearR f ms.pred m.id s with
    | false =>
      obtain ⟨f3, hf3⟩ : ∃ f3, f3 = setM f n ⟨m.live, m.id, m.pred, followL s ms.succ⟩ := ⟨_, rfl⟩
      have hfin := Lib.hid (stabR_eq HN.out (stabT_no HN.out HSE.out hms hq) hms rfl E3.out.1)
      have HZ := H4
      have hmz := Lib.hid E3.out.1
      have KZ := K4
      have okT := oks
      rw [← hf3] at hfin HZ hmz
      clear hq hf3
      go_upto_region 10 with (fail)
      obtain ⟨a0, a1, a2c, zT, lT⟩ := HZ.out.at hmz.out okT
      obtain ⟨_, _, _, vz, a3c, hvz⟩ := HZ.out.mem s m3 hmz.out
      obtain ⟨sT, _, _, _, fzT⟩ := HZ.out.memS s m3 hmz.out
      have fz1 := fzT 1
      have fz2 := fzT 2
      have fz3 := fzT 3
      obtain ⟨az, qz, rfl, _⟩ : ∃ a c, vz = .slice a (m3).succ.length c ∧ True := by obtain ⟨a, c, rfl, _⟩ := hvz; exact ⟨a, c, rfl, trivial⟩
      have hdz := HZ.out.dom s m3 hmz.out
      have rz := HZ.out.root
      have zz := HZ.out.rbz
      have cr := Lib.hid fun (wr : World) (hb : Below (w4).heap.size w4 wr) => rect_at (HZ.out.below hb) (m3).id (m3).pred n (okInt_dom (by omega) (by omega)) hi az (m3).succ.length qz
      have HV := Lib.hid hvz
      have hrd := Lib.hid (rect_dom (f := f3) (id := (m3).id) hdz.2.2.2.2.1 hn32.out)
      have lTx : ∀ x : Later w4, (Instr.lookup 45 (.map (some mb)) (.int .i64 s) false).run Tryd.prog x.world = .ok (.pointer (some ⟨g s, 0, none⟩)) x.world := fun x => ((HZ.out.below x.below).at hmz.out okT).2.2.2.2
      clear hdz hvz fzT
      refine wp_region_calm_tail (21) (by kernel_rfl) (by kernel_rfl) ?_
      simp only [List.take_succ_cons, List.take_zero, List.drop_succ_cons, List.drop_zero]
      repeat (first | (go_big_quiet_step ((go_at_call 29; exact calls_calm (cr.out _ (by (repeat (first | exact Below.refl _ _ | (with_reducible assumption) | (with_reducible refine bel_later ?_ _) | (with_reducible refine bel_alloc ?_ _) | (with_reducible refine bel_drew ?_) | (with_reducible refine bel_drewN ?_ _) | (with_reducible refine bel_set ?_ (by first | (simp; done) | (simp; omega) | (dsimp only; omega)) _)))))))) | (refine wpQuiet_step (fun K hK => ?_); go_simp; first | (refine hK _ ?_; clear hK K) | (apply Exists.intro; refine ⟨fun _ => ?_, hK _ ?_⟩; (go_at_call 29; exact calls_calm (cr.out _ (by (repeat (first | exact Below.refl _ _ | (with_reducible assumption) | (with_reducible refine bel_later ?_ _) | (with_reducible refine bel_alloc ?_ _) | (with_reducible refine bel_drew ?_) | (with_reducible refine bel_drewN ?_ _) | (with_reducible refine bel_set ?_ (by first | (simp; done) | (simp; omega) | (dsimp only; omega)) _)))))); clear hK K)))
      refine wpQuiet_nil ?_
      intro _ hw'
      obtain ⟨xq, hw''⟩ := hw'
      subst hw''
      have LZ := HZ.out.below xq.below
      have j1 := (LZ.at hmz.out okT).2.1
      have j2 := (LZ.at hmz.out okT).2.2.1
      have j3 : xq.world.cell? ⟨g s, 3, none⟩ = some (.slice az (m3).succ.length qz) := by rw [later_cell xq _ _ zT]; exact a3c
      have y1 := (LZ.memS s m3 hmz.out).2.2.2.2 1
      have y2 := (LZ.memS s m3 hmz.out).2.2.2.2 2
      have y3 := (LZ.memS s m3 hmz.out).2.2.2.2 3
      have HLZ := Lib.hid LZ
      clear LZ
      go_wp2_with fail
      go_ret
      refine HP.out _ _ ⟨rfl, ?_, ?_⟩
      · rw [← hfin.out]
        exact HLZ.out.setPred hmz.out j3 (HV.out.imp (fun _ _ h => h) xq.below.size (fun b hb _ => xq.below.block b hb)) (dom_pred HLZ.out.dom hmz.out hrd.out.1 hrd.out.2)
      · exact (((KZ.out.later xq).set sT _).set sT _).set sT _
    | true =>
      have hq2 : nearR f ms.pred (idR f n) s = true := by rw [show idR f n = m.id from by unfold idR; rw [HN.out]]; exact hq
      obtain ⟨hqn, hql⟩ := near_ne hq2
      obtain ⟨mq, hmq, _⟩ := livesR_some hql
      have okT := okInt_dom hds.2.2.2.2.1.1 hds.2.2.2.2.1.2
      have hdq := H.out.dom _ mq hmq
      have hdq6 := Lib.hid hdq.2.2.2.2.2
      have hmq4 : setM f n ⟨m.live, m.id, m.pred, followL s ms.succ⟩ ms.pred = some mq := by rw [setM_ne f _ hqn]; exact hmq
      obtain ⟨p0, p1, p2, zq, lq⟩ := H4.out.at hmq4 okT
      obtain ⟨_, _, _, vq, p3, hvq⟩ := H4.out.mem _ mq hmq4
      obtain ⟨aq, cq, rfl, _⟩ : ∃ a c, vq = .slice a mq.succ.length c ∧ True := by obtain ⟨a, c, rfl, _⟩ := hvq; exact ⟨a, c, rfl, trivial⟩
      have r4 := H4.out.root
      have z4 := H4.out.rbz
      have cf2 := Lib.hid (follow_at w4 ms.pred mq.id mq.pred _ mq.succ hvq.slAt (by omega))
      have hfin := Lib.hid (stabR_eq HN.out (stabT_yes HN.out HSE.out hms hq) hmq rfl (setM_ne f ⟨m.live, m.id, m.pred, followL ms.pred mq.succ⟩ hqn ▸ hmq))
      have HMQ := Lib.hid hmq
      have HQN := Lib.hid hqn
      clear hq hq2 hqn hql hmq4 hvq hmq
      go_wp2_with fail
      refine cf2.out.mono ?_
      rintro e w5 ⟨v5, rfl, hv5, hB5⟩
      obtain ⟨a5, q5, rfl, _⟩ := hv5.slice
      have h5 := H4.out.below hB5
      obtain ⟨c0, c1, c2, zn, ln⟩ := h5.at (setM_same f n _) hi
      obtain ⟨_, _, _, v6, c3, hv6⟩ := h5.mem n _ (setM_same f n _)
      have fz := (h5.memS n _ (setM_same f n _)).2.2.2.2 3
      have r5 := h5.root
      have z5 := h5.rbz
      have hl5 := H4.out.newSl hv5
      have h6 := h5.setSucc (setM_same f n _) hl5 (dom_succ h5.dom (setM_same f n _) (follow_len _ _) (follow_mem (by omega) hdq6.out))
      dsimp only at h6 c0 c1 c2
      rw [setM_setM] at h6
      have K6 := Lib.hid ((K4.out.below hB5).set (p := ⟨g n, 3, none⟩) s1 (.slice a5 (followL ms.pred mq.succ).length q5))
      have H6 := Lib.hid h6
      clear h5 h6 hv5 hl5 hv6 p0 p1 p2 p3 zq lq r4 z4
      go_upto_region 10 with (fail)
      obtain ⟨w6, hw6⟩ : ∃ w6, w6 = w5.setCell ⟨g n, 3, none⟩ (.slice a5 (followL ms.pred mq.succ).length q5) := ⟨_, rfl⟩
      rw [← hw6] at H6 K6 ⊢
      clear hw6
      obtain ⟨f3, hf3⟩ : ∃ f3, f3 = setM f n ⟨m.live, m.id, m.pred, followL ms.pred mq.succ⟩ := ⟨_, rfl⟩
      have hmz := Lib.hid (show setM f n ⟨m.live, m.id, m.pred, followL ms.pred mq.succ⟩ ms.pred = some mq from by rw [setM_ne f _ HQN.out]; exact HMQ.out)
      have HZ := H6
      have KZ := K6
      rw [← hf3] at hfin HZ hmz
      clear hf3
      obtain ⟨a0, a1, a2c, zT, lT⟩ := HZ.out.at hmz.out okT
      obtain ⟨_, _, _, vz, a3c, hvz⟩ := HZ.out.mem ms.pred mq hmz.out
      obtain ⟨sT, _, _, _, fzT⟩ := HZ.out.memS ms.pred mq hmz.out
      have fz1 := fzT 1
      have fz2 := fzT 2
      have fz3 := fzT 3
      obtain ⟨az, qz, rfl, _⟩ : ∃ a c, vz = .slice a (mq).succ.length c ∧ True := by obtain ⟨a, c, rfl, _⟩ := hvz; exact ⟨a, c, rfl, trivial⟩
      have hdz := HZ.out.dom ms.pred mq hmz.out
      have rz := HZ.out.root
      have zz := HZ.out.rbz
      have cr := Lib.hid fun (wr : World) (hb : Below (w6).heap.size w6 wr) => rect_at (HZ.out.below hb) (mq).id (mq).pred n (okInt_dom (by omega) (by omega)) hi az (mq).succ.length qz
      have HV := Lib.hid hvz
      have hrd := Lib.hid (rect_dom (f := f3) (id := (mq).id) hdz.2.2.2.2.1 hn32.out)
      have lTx : ∀ x : Later w6, (Instr.lookup 45 (.map (some mb)) (.int .i64 ms.pred) false).run Tryd.prog x.world = .ok (.pointer (some ⟨g ms.pred, 0, none⟩)) x.world := fun x => ((HZ.out.below x.below).at hmz.out okT).2.2.2.2
      clear hdz hvz fzT
      refine wp_region_calm_tail (21) (by kernel_rfl) (by kernel_rfl) ?_
      simp only [List.take_succ_cons, List.take_zero, List.drop_succ_cons, List.drop_zero]
      repeat (first | (go_big_quiet_step ((go_at_call 29; exact calls_calm (cr.out _ (by (repeat (first | exact Below.refl _ _ | (with_reducible assumption) | (with_reducible refine bel_later ?_ _) | (with_reducible refine bel_alloc ?_ _) | (with_reducible refine bel_drew ?_) | (with_reducible refine bel_drewN ?_ _) | (with_reducible refine bel_set ?_ (by first | (simp; done) | (simp; omega) | (dsimp only; omega)) _)))))))) | (refine wpQuiet_step (fun K hK => ?_); go_simp; first | (refine hK _ ?_; clear hK K) | (apply Exists.intro; refine ⟨fun _ => ?_, hK _ ?_⟩; (go_at_call 29; exact calls_calm (cr.out _ (by (repeat (first | exact Below.refl _ _ | (with_reducible assumption) | (with_reducible refine bel_later ?_ _) | (with_reducible refine bel_alloc ?_ _) | (with_reducible refine bel_drew ?_) | (with_reducible refine bel_drewN ?_ _) | (with_reducible refine bel_set ?_ (by first | (simp; done) | (simp; omega) | (dsimp only; omega)) _)))))); clear hK K)))
      refine wpQuiet_nil ?_
      intro _ hw'
      obtain ⟨xq, hw''⟩ := hw'
      subst hw''
      have LZ := HZ.out.below xq.below
      have j1 := (LZ.at hmz.out okT).2.1
      have j2 := (LZ.at hmz.out okT).2.2.1
      have j3 : xq.world.cell? ⟨g ms.pred, 3, none⟩ = some (.slice az (mq).succ.length qz) := by rw [later_cell xq _ _ zT]; exact a3c
      have y1 := (LZ.memS ms.pred mq hmz.out).2.2.2.2 1
      have y2 := (LZ.memS ms.pred mq hmz.out).2.2.2.2 2
      have y3 := (LZ.memS ms.pred mq hmz.out).2.2.2.2 3
      have HLZ := Lib.hid LZ
      clear LZ
      go_wp2_with fail
      go_ret
      refine HP.out _ _ ⟨rfl, ?_, ?_⟩
      · rw [← hfin.out]
        exact HLZ.out.setPred hmz.out j3 (HV.out.imp (fun _ _ h => h) xq.below.size (fun b hb _ => xq.below.block b hb)) (dom_pred HLZ.out.dom hmz.out hrd.out.1 hrd.out.2)
      · exact (((KZ.out.later xq).set sT _).set sT _).set sT _
end Go.Proofs.YthbijjpaljjapaaDoor
