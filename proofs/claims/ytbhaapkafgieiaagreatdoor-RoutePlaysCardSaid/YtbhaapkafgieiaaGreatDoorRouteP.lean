

/-
  RoutePlays walked: the ring, the document's ring, the fingers and the document's fingers side by side.
-/
import Derived.Test.YtbhaapkafgieiaaGreatDoorRefO
import Derived.Deep.DeepCutAuto
namespace Go.Proofs.YtbhaapkafgieiaaGreatDoor
open Go.RowKit Go.Maps Go.Sort Go.WideShapes Go.ChangeShapes Go.Deep
set_option linter.unusedVariables false
set_option linter.unusedSimpArgs false
attribute [local go_sem] later_cell later_frozen later_lt cell_set_off cell_set_block keptW_cell keptW_lt

theorem slIn_nw {B : Nat} {Q : Nat → Prop} {l : List Int} {w : World} {v : Value} (h : SlAt B (fun i => .int .i64 (nth l i)) l.length w v) (hQ : ∀ b, B ≤ b → b < w.heap.size → Q b) : SlIn Q l w v := by
  obtain ⟨a, cap, rfl, h1, h2, h3, h4⟩ := h
  refine ⟨a, cap, rfl, h1, h2, h3, h4.imp id ?_⟩
  rintro ⟨b, off, rfl, h7, h5, h6⟩
  exact ⟨b, off, rfl, hQ b h7 h5, h5, h6⟩
/-- What is written by nobody: the ring's blocks, the fingers' map, the row of fingers, the document's ring's box are. -/
def Rest4 (S : Nat → Prop) (fm vb yb : Nat) (b : Nat) : Prop := ¬ S b ∧ b ≠ fm ∧ b ≠ vb ∧ b ≠ yb
/-- The ring, the document's ring (in the box: p0), the fingers, the document's fingers, and one more list: each in blocks of its own. -/
structure Trio (S Q : Nat → Prop) (W w : World) (rb mb fb fm vb yb : Nat) (f : RS) (p p0 : Where) (F G : Int → List Int) (L : List Int) (lv : Value) : Prop where
  both : Both S Q W w rb mb f p
  fin : FinIs (fun b => ¬ S b ∧ b ≠ vb ∧ b ≠ yb) w fb rb fm F
  tab : TabIs (Rest4 S fm vb yb) w vb G
  lst : SlIn (Rest4 S fm vb yb) L w lv
  box : BoxOf w yb p0
  qf : ∀ b, Q b → b ≠ fm ∧ b ≠ vb ∧ b ≠ yb
  vS : ¬ S vb
  yS : ¬ S yb
  vy : vb ≠ yb
  lowf : W.heap.size ≤ fm
  lowv : W.heap.size ≤ vb
  lowy : W.heap.size ≤ yb
section
variable {S Q S' Q' : Nat → Prop} {W w w' : World} {rb mb fb fm vb yb : Nat} {f f' : RS} {p p' p0 : Where} {F G F' : Int → List Int} {L : List Int} {lv : Value}
theorem Trio.fS (h : Trio S Q W w rb mb fb fm vb yb f p p0 F G L lv) : ¬ S fm ∧ fm ≠ vb ∧ fm ≠ yb := h.fin.fmQ
theorem now_not (hs : w.heap.size ≤ w'.heap.size) {b : Nat} (hb : b < w'.heap.size) (hS : ¬ S b ∨ w.heap.size ≤ b) : ¬ Now S w w' b := fun h => by
  rcases h with ⟨h1, h2⟩ | h1
  · rcases hS with h3 | h3
    · exact h3 h1
    · omega
  · omega
/-- New blocks stand behind. -/
theorem Trio.later (h : Trio S Q W w rb mb fb fm vb yb f p p0 F G L lv) (hb : RowKit.Below w.heap.size w w') :
    Trio (Now S w w') (fun b => Q b ∧ b < w.heap.size) W w' rb mb fb fm vb yb f p p0 F G L lv where
  both := h.both.now hb
  fin := h.fin.same hb.size (fun b hb' _ => hb.block b hb') fun b hb' hq => ⟨now_not hb.size (Nat.lt_of_lt_of_le hb' hb.size) (Or.inl hq.1), hq.2⟩
  tab := h.tab.same hb.size (fun b hb' _ => hb.block b hb') fun b hb' hq => ⟨now_not hb.size (Nat.lt_of_lt_of_le hb' hb.size) (Or.inl hq.1), hq.2⟩
  lst := h.lst.imp (fun b hb' hq => ⟨now_not hb.size (Nat.lt_of_lt_of_le hb' hb.size) (Or.inl hq.1), hq.2⟩) hb.size fun b hb' _ => hb.block b hb'
  box := h.box.later hb
  qf := fun b hq => h.qf b hq.1
  vS := now_not hb.size (Nat.lt_of_lt_of_le h.tab.z hb.size) (Or.inl h.vS)
  yS := now_not hb.size (Nat.lt_of_lt_of_le h.box.z hb.size) (Or.inl h.yS)
  vy := h.vy
  lowf := h.lowf
  lowv := h.lowv
  lowy := h.lowy
/-- A list that is new is carried along. -/
theorem Trio.list (h : Trio S Q W w rb mb fb fm vb yb f p p0 F G L lv) (hb : RowKit.Below w.heap.size w w') {l : List Int} {v : Value} (hv : SlAt w.heap.size (fun i => .int .i64 (nth l i)) l.length w' v) :
    SlIn (Rest4 (Now S w w') fm vb yb) l w' v :=
  slIn_nw hv fun b h1 h2 => ⟨now_not hb.size h2 (Or.inr h1), by have := h.fin.fmz; omega, by have := h.tab.z; omega, by have := h.box.z; omega⟩
theorem Trio.with (h : Trio S Q W w rb mb fb fm vb yb f p p0 F G L lv) {l : List Int} {v : Value} (hv : SlIn (Rest4 S fm vb yb) l w v) : Trio S Q W w rb mb fb fm vb yb f p p0 F G l v :=
  { h with lst := hv }
/-- A call of the ring. -/
theorem Trio.does (h : Trio S Q W w rb mb fb fm vb yb f p p0 F G L lv) (hS : ∀ b, S' b → S b) (hQ : ∀ b, Q' b → Q b ∨ w.heap.size ≤ b) (hb : Both S' Q' W w' rb mb f' p') (hk : Kept S w w') :
    Trio S' Q' W w' rb mb fb fm vb yb f' p' p0 F G L lv where
  both := hb
  fin := h.fin.same hk.size (fun b hb' hq => hk.block b hb' hq.1) fun b _ hq => ⟨fun hs => hq.1 (hS b hs), hq.2⟩
  tab := h.tab.same hk.size (fun b hb' hq => by
    rcases hq with hq | rfl
    · exact hk.block b hb' hq.1
    · exact hk.block _ hb' h.vS) fun b _ hq => ⟨fun hs => hq.1 (hS b hs), hq.2⟩
  lst := h.lst.imp (fun b _ hq => ⟨fun hs => hq.1 (hS b hs), hq.2⟩) hk.size fun b hb' hq => hk.block b hb' hq.1
  box := h.box.block hk.size (hk.block _ h.box.z h.yS)
  qf := fun b hq => by
    rcases hQ b hq with h1 | h1
    · exact h.qf b h1
    · have := h.fin.fmz; have := h.tab.z; have := h.box.z; omega
  vS := fun hs => h.vS (hS _ hs)
  yS := fun hs => h.yS (hS _ hs)
  vy := h.vy
  lowf := h.lowf
  lowv := h.lowv
  lowy := h.lowy
/-- The fingers are asked. -/
theorem Trio.fixed (h : Trio S Q W w rb mb fb fm vb yb f p p0 F G L lv) (hf : FinIs (fun b => (¬ S b ∧ b ≠ vb ∧ b ≠ yb) ∨ w.heap.size ≤ b) w' fb rb fm F') (hk : Kept (fun b => b = fm) w w') :
    Trio (Now S w w') (fun b => Q b ∧ b < w.heap.size) W w' rb mb fb fm vb yb f p p0 F' G L lv where
  both := by
    obtain ⟨g, h1⟩ := h.both.ring
    obtain ⟨V, h2⟩ := h.both.ref
    refine ⟨⟨g, h1.off hk h.fS.1⟩, ⟨V, h2.same (fun b hb' hq => ⟨hq, hb'⟩) hk.size fun b hb' hq => hk.block b hb' (h.qf b hq).1⟩, fun b hq hS => ?_, fun b hS => ?_, h.both.inv, h.both.below.trans (hk.toBelow h.both.below.size fun b hb e => by have := h.lowf; omega), h.both.hd⟩
    · rcases hS with hS | hS
      · exact h.both.dis b hq.1 hS.1
      · have := hk.size; omega
    · rcases hS with hS | hS
      · exact h.both.low b hS.1
      · have := hk.size; have := h.both.below.size; omega
  fin := hf.same (Nat.le_refl _) (fun _ _ _ => rfl) fun b hb hq => by
    rcases hq with hq | hq
    · exact ⟨now_not hk.size hb (Or.inl hq.1), hq.2⟩
    · exact ⟨now_not hk.size hb (Or.inr hq), by have := h.tab.z; omega, by have := h.box.z; omega⟩
  tab := h.tab.same hk.size (fun b hb' hq => by
    rcases hq with hq | rfl
    · exact hk.block b hb' hq.2.1
    · exact hk.block _ hb' (Ne.symm h.fS.2.1)) fun b hb hq => ⟨now_not hk.size (Nat.lt_of_lt_of_le hb hk.size) (Or.inl hq.1), hq.2⟩
  lst := h.lst.imp (fun b hb hq => ⟨now_not hk.size (Nat.lt_of_lt_of_le hb hk.size) (Or.inl hq.1), hq.2⟩) hk.size fun b hb' hq => hk.block b hb' hq.2.1
  box := h.box.block hk.size (hk.block _ h.box.z (Ne.symm h.fS.2.2))
  qf := fun b hq => h.qf b hq.1
  vS := now_not hk.size (Nat.lt_of_lt_of_le h.tab.z hk.size) (Or.inl h.vS)
  yS := now_not hk.size (Nat.lt_of_lt_of_le h.box.z hk.size) (Or.inl h.yS)
  vy := h.vy
  lowf := h.lowf
  lowv := h.lowv
  lowy := h.lowy
/-- A list is put into the row. -/
theorem Trio.put (h : Trio S Q W w rb mb fb fm vb yb f p p0 F G L lv) {n : Nat} (hn : n < 32) {l : List Int} {v : Value} (hv : SlIn (Rest4 S fm vb yb) l w v) (hl : l.length ≤ 64) (hd : ∀ x ∈ l, 0 ≤ x ∧ x < 32) :
    Trio S Q W (w.setCell ⟨vb, n, none⟩ v) rb mb fb fm vb yb f p p0 F (setL G n l) L lv := by
  have hk : ∀ b, b ≠ vb → (w.setCell ⟨vb, n, none⟩ v).heap[b]? = w.heap[b]? := fun b hb => Below.heap_setCell _ _ _ _ hb
  have hs : w.heap.size ≤ (w.setCell ⟨vb, n, none⟩ v).heap.size := by rw [size_set]; exact Nat.le_refl _
  exact { both := h.both.aside h.vS (fun hq => (h.qf _ hq).2.1 rfl) h.lowv rfl rfl rfl (size_set _ _ _) hk
          fin := h.fin.same hs (fun b _ hq => hk b hq.2.1) fun _ _ hq => hq
          tab := h.tab.set (fun hz => hz.2.2.1 rfl) hn hv hl hd
          lst := h.lst.imp (fun _ _ hq => hq) hs fun b _ hq => hk b hq.2.2.1
          box := h.box.other (Ne.symm h.vy) _
          qf := h.qf, vS := h.vS, yS := h.yS, vy := h.vy, lowf := h.lowf, lowv := h.lowv, lowy := h.lowy }
/-- The document's ring is put into its box. -/
theorem Trio.boxed (h : Trio S Q W w rb mb fb fm vb yb f p p0 F G L lv) (hw : w' = (((w.setCell ⟨yb, 0, none⟩ (.slice (some ⟨p.b1, p.o1, none⟩) 32 p.k1)).setCell ⟨yb, 1, none⟩ (.slice (some ⟨p.b2, p.o2, none⟩) 32 p.k2)).setCell ⟨yb, 2, none⟩ (.slice (some ⟨p.b3, p.o3, none⟩) 32 p.k3)).setCell ⟨yb, 3, none⟩ (.slice (some ⟨p.b4, p.o4, none⟩) 32 p.k4)) :
    Trio S Q W w' rb mb fb fm vb yb f p p F G L lv := by
  obtain ⟨hz, hk⟩ := block_set4 hw
  exact { both := h.both.aside h.yS (fun hq => (h.qf _ hq).2.2 rfl) h.lowy (by rw [hw]; rfl) (by rw [hw]; rfl) (by rw [hw]; rfl) hz hk
          fin := h.fin.same (by omega) (fun b _ hq => hk b hq.2.2) fun _ _ hq => hq
          tab := h.tab.same (by omega) (fun b _ hq => by
            rcases hq with hq | rfl
            · exact hk b hq.2.2.2
            · exact hk _ h.vy) fun _ _ hq => hq
          lst := h.lst.imp (fun _ _ hq => hq) (by omega) fun b _ hq => hk b hq.2.2.2
          box := h.box.store _ _ _ _ hw
          qf := h.qf, vS := h.vS, yS := h.yS, vy := h.vy, lowf := h.lowf, lowv := h.lowv, lowy := h.lowy }
/-- At the beginning. -/
theorem trio_new {w2 w3 w4 : World} (hB : Both S Q W w2 rb mb f p) (hyb : BoxOf w2 yb p) (hyS : ¬ S yb) (hyQ : ¬ Q yb) (hyW : W.heap.size ≤ yb) (hf : FinIs (fun b => w2.heap.size ≤ b) w3 fb rb fm (fun _ => [])) (hb3 : RowKit.Below w2.heap.size w2 w3) (hb4 : RowKit.Below w3.heap.size w3 w4)
    (hvb : vb = w3.heap.size) (hv : vb < w4.heap.size) (hc : ∀ k : Nat, k < 32 → w4.cell? ⟨vb, k, none⟩ = some (.slice none 0 0)) (hfr : ∀ k : Nat, w4.frozen? ⟨vb, k, none⟩ = false) :
    Trio (Now S w2 w4) (fun b => Q b ∧ b < w2.heap.size) W w4 rb mb fb fm vb yb f p p (fun _ => []) (fun _ => []) [] (.slice none 0 0) := by
  have z3 := hb3.size
  have z4 := hb4.size
  have zy := hyb.z
  have zf := hf.fmz
  have zW := hB.below.size
  have hnil : ∀ (Z : Nat → Prop) (u : World), SlIn Z [] u (.slice none 0 0) := fun Z u => ⟨none, 0, rfl, Nat.le_refl _, Nat.zero_le _, fun _ => rfl, Or.inl rfl⟩
  exact { both := hB.now (bel_below hb3 hb4)
          fin := hf.same hb4.size (fun b h _ => hb4.block b h) fun b hb hq => ⟨now_not (by omega) (by omega) (Or.inr hq), by omega, by omega⟩
          tab := ⟨hv, fun k hk => ⟨_, hc k hk, hnil _ _⟩, hfr, fun _ => Nat.zero_le _, fun _ x hx => by cases hx⟩
          lst := hnil _ _
          box := hyb.later (bel_below hb3 hb4)
          qf := fun b hq => ⟨by have := hf.fmQ; omega, by omega, fun e => hyQ (e ▸ hq.1)⟩
          vS := now_not (by omega) hv (Or.inr (by omega))
          yS := now_not (by omega) (by omega) (Or.inl hyS)
          vy := by omega
          lowf := by have := hf.fmQ; omega
          lowv := by omega
          lowy := hyW }
/-- What a call on the ring needs. -/
theorem Trio.fmS (h : Trio S Q W w rb mb fb fm vb yb f p p0 F G L lv) : ¬ S fm := h.fS.1
theorem fixR_ok {f : RS} (I : Inv f) (F : Int → List Int) {n : Int} (hl : livesR f n = true) : (fixR f F n).length ≤ 64 ∧ ∀ x ∈ fixR f F n, 0 ≤ x ∧ x < 32 :=
  ⟨fixN_len f F n 64, fun x hx => livesR_dom I.dom (fixN_lives I.heads F hl 64 x hx)⟩
end
theorem fix_dead {S Q : Nat → Prop} {w : World} {rb mb : Nat} {g : Int → Nat} {f : RS} {fb fm : Nat} {F : Int → List Int} (h : RAt S w rb mb g f) (hf : FinIs Q w fb rb fm F) (hh : Heads f) (n : Int) (hn : okInt n) (hl : livesR f n = false) :
    Calls Tryz.prog 23 #[.pointer (some ⟨fb, 0, none⟩), .int .i64 n] w fun e w' => ∃ v, e = .returned v ∧ IsErr w.heap.size w' v 6 ∧ RowKit.Below w.heap.size w w' :=
  (fix_at h hf hh n hn).mono fun e w' hp => by unfold FixPost at hp; rw [hl, if_neg (by decide)] at hp; exact hp
theorem peer_live {S : Nat → Prop} {w : World} {rb mb : Nat} {g : Int → Nat} {f : RS} (h : RAt S w rb mb g f) (n : Int) (hn : okInt n) (hl : livesR f n = true) :
    Calls Tryz.prog 31 #[.pointer (some ⟨rb, 0, none⟩), .int .i64 n] w fun e w' => ∃ v, e = .returned (.tuple #[.agg #[.int .u64 (idR f n), .int .i64 (predR f n), v], .nilIface]) ∧ SlAt w.heap.size (fun i => .int .i64 (nth (succR f n) i)) (succR f n).length w' v ∧ RowKit.Below w.heap.size w w' :=
  (peer_at h n hn).mono fun e w' hp => by unfold TellPost at hp; rw [if_pos hl] at hp; exact hp
set_option maxRecDepth 100000 in
set_option maxHeartbeats 32000000 in
theorem routePlays_main (W : World) (hH : HandleAt W) (v0 v1 v2 : Value) (ids : List Int) (acts : List ActD) (fx : List Int) (n x : Int) (hi : SlAt 0 (fun i => .int .u64 (nth ids i)) ids.length W v0) (hp : ∀ x ∈ ids, isPlace x)
    (ha : ActsAt acts W v1) (hao : ∀ k, k < acts.length → (actAt acts k).ok) (hfx : SlAt 0 (fun i => .int .i64 (nth fx i)) fx.length W v2) (hfo : ∀ y ∈ fx, okInt y) (hn : okInt n) (hx : isPlace x) :
    Calls Tryz.prog 5 #[v0, v1, v2, .int .i64 n, .int .u64 x] W (OneYes W) := by
  have CM : Hid (Calls Tryz.prog 9 #[v0, .slice none 0 0, .int .i64 0] W (MadePost W ids)) := made_any W hH v0 (.slice none 0 0) ids [] 0 hi hp ⟨none, 0, rfl, Nat.le_refl _, Nat.zero_le _, Or.inl rfl⟩ (fun k hk => absurd hk (Nat.not_lt_zero _)) (by omega)
  have HA := Lib.hid ha
  have HAO := Lib.hid hao
  have HFX := Lib.hid hfx
  have HFO := Lib.hid hfo
  have HHW := Lib.hid hH
  obtain ⟨a1, q1, rfl, _, hm1⟩ := ha.slice
  obtain ⟨a2, q2, rfl, _, hm2⟩ := hfx.slice
  have ham : acts.length ≤ 9223372036854775807 := by unfold maxLen at hm1; omega
  have hfm : fx.length ≤ 9223372036854775807 := by unfold maxLen at hm2; omega
  have hmk : ∀ w : World, (Instr.makeSlice 52 (.int .i64 32) (.int .i64 32)).run Tryz.prog w = .ok (.slice (some ⟨w.heap.size, 0, none⟩) 32 32) (w.alloc (.cells (Array.replicate 32 (.slice none 0 0)) 39)) := fun w => by kernel_rfl
  unfold Hid MadePost at CM
  cases hf4 : fourB ids with
  | false =>
    rw [hf4] at CM
    have CM := Lib.hid CM
    clear hi hp hf4 hm1 hm2 ha hao hfx hfo hH
    go_enter Tryz.func5, Tryz.ntmps5
    go_wp2_with fail
    refine CM.out.mono ?_
    intro e w1 hq
    rw [if_neg (by decide)] at hq
    obtain ⟨rfl, hB1⟩ := hq
    go_wp2_with fail
    refine (awake12_any _).mono ?_
    rintro e w2 ⟨rfl, hB2⟩
    go_wp2_with fail
    go_ret
    exact ⟨rfl, bel_below (bel_below hB1 (bel_alloc (RowKit.Below.refl _ _) _)) hB2⟩
  | true =>
    rw [hf4] at CM
    have CM := Lib.hid CM
    clear hi hp hf4 hm1 hm2 ha hao hfx hfo hH
    go_enter Tryz.func5, Tryz.ntmps5
    go_wp2_with fail
    refine CM.out.mono ?_
    intro e w1 hq
    rw [if_pos trivial] at hq
    obtain ⟨rb, mb, f, p, S, Q, rfl, hBo⟩ := hq
    have HBo := Lib.hid hBo
    clear hBo
    go_wp2_with fail
    obtain ⟨w2, hw2⟩ : ∃ z, z = w1.alloc (.cells #[.slice (some ⟨p.b1, p.o1, none⟩) 32 p.k1, .slice (some ⟨p.b2, p.o2, none⟩) 32 p.k2, .slice (some ⟨p.b3, p.o3, none⟩) 32 p.k3, .slice (some ⟨p.b4, p.o4, none⟩) 32 p.k4] 33) := ⟨_, rfl⟩
    obtain ⟨yb, hyb⟩ : ∃ z, z = w1.heap.size := ⟨_, rfl⟩
    have b12 : RowKit.Below w1.heap.size w1 w2 := by rw [hw2]; exact bel_alloc (RowKit.Below.refl _ _) _
    have Y2 : Hid (BoxOf w2 yb p) := by rw [hw2, hyb]; exact ⟨by simp [go_sem], by simp [go_sem], by simp [go_sem], by simp [go_sem], by simp [go_sem], by simp [go_sem], by simp [go_sem], by simp [go_sem], by simp⟩
    have BO2 := Lib.hid (HBo.out.now b12)
    have hy2 : yb < w2.heap.size := Y2.out.z
    have NY : Hid (¬ Now S w1 w2 yb ∧ ¬ (Q yb ∧ yb < w1.heap.size) ∧ W.heap.size ≤ yb) := ⟨now_not b12.size hy2 (Or.inr (by omega)), fun h => by omega, by have := HBo.out.below.size; omega⟩
    rw [← hw2, ← hyb]
    clear hw2 b12 hyb
    refine (newf_any w2 rb).mono ?_
    rintro e w3 ⟨fb, fm, rfl, hf3, hb3⟩
    have F3 := Lib.hid hf3
    have B3 := Lib.hid hb3
    clear hf3 hb3
    go_wp2_with fail
    obtain ⟨w4, hw4⟩ : ∃ z, z = w3.alloc (.cells (Array.replicate 32 (.slice none 0 0)) 39) := ⟨_, rfl⟩
    obtain ⟨vb, hvb⟩ : ∃ z, z = w3.heap.size := ⟨_, rfl⟩
    have b34 : RowKit.Below w3.heap.size w3 w4 := by rw [hw4]; exact bel_alloc (RowKit.Below.refl _ _) _
    have T4 := Lib.hid (trio_new BO2.out Y2.out NY.out.1 NY.out.2.1 NY.out.2.2 F3.out B3.out b34 hvb (by rw [hw4, hvb]; simp) (fun k hk => by rw [hw4, hvb]; simp [go_sem, hk]) (fun k => by rw [hw4, hvb]; simp [go_sem]))
    rw [← hw4, ← hvb]
    clear hw4 b34 hvb F3 B3 BO2 Y2 NY HBo hy2 CM
    go_wp2_with fail
    go_loopw [16] (fun i wr => ∃ (k : Nat) (f : RS) (p : Where) (S Q : Nat → Prop) (F : Int → List Int), k ≤ acts.length ∧ k ≤ 25 ∧ i = .int .i64 k ∧ Hid (Trio S Q W wr rb mb fb fm vb yb f p p F F [] (.slice none 0 0))) (fun i _ => acts.length - (intOf i).toNat)
    case atStart => exact ⟨0, f, p, _, _, _, Nat.zero_le _, Nat.zero_le _, rfl, T4.out⟩
    case round =>
      clear T4
      obtain ⟨k, f, p, S, Q, F, hk, hk25, rfl, hT⟩ := hrel
      by_cases hlt : k < acts.length
      · by_cases hl25 : k < 25
        · go_upto_if 56 with (fail)
          go_cut [] (fun wx => ∃ (S Q : Nat → Prop) (F : Int → List Int), Hid (Trio S Q W wx rb mb fb fm vb yb f p p F F [] (.slice none 0 0)))
          case first =>
            as_aux_lemma =>
              by_cases hfk : k < fx.length
              · obtain ⟨b2, o2, rfl, _, hz2, hc2⟩ := HFX.out.at k hfk wr hT.out.both.below
                have okq := HFO.out _ (nth_mem.2 ⟨k, hfk, rfl⟩)
                have HC2 := Lib.hid fun (wr : World) (hb : RowKit.Below W.heap.size W wr) => (by
                  obtain ⟨b3, o3, he3, _, hz3, hc3⟩ := HFX.out.at k hfk wr hb
                  cases he3
                  exact ⟨hz3, hc3⟩ : b2 < wr.heap.size ∧ wr.cell? ⟨b2, o2 + k, none⟩ = some (.int .i64 (nth fx k)))
                obtain ⟨q, hq⟩ : ∃ z, z = nth fx k := ⟨_, rfl⟩
                rw [← hq] at hc2 okq HC2
                clear hq
                obtain ⟨g, hg⟩ := hT.out.both.ring
                by_cases hq0 : q < 0
                · have CR := Lib.hid (roundf_at hg hT.out.fin hT.out.both.inv.heads hT.out.fmS)
                  clear hg
                  go_wp2_with fail
                  refine CR.out.mono ?_
                  rintro e w5 ⟨rfl, hf5, hk5⟩
                  have T5 := Lib.hid (hT.out.fixed hf5 hk5)
                  obtain ⟨V, hV⟩ := T5.out.both.ref
                  have CL := Lib.hid (rlive_any hV.rows)
                  have y0 := (T5.out).box.c0
                  have y1 := (T5.out).box.c1
                  have y2 := (T5.out).box.c2
                  have y3 := (T5.out).box.c3
                  have yz := (T5.out).box.z
                  have yf0 := (T5.out).box.f0
                  have yf1 := (T5.out).box.f1
                  have yf2 := (T5.out).box.f2
                  have yf3 := (T5.out).box.f3
                  clear hf5 hk5 CR hV hc2 hz2
                  go_wp2_with fail
                  refine CL.out.mono ?_
                  rintro e w6 ⟨lv, rfl, hs6, hb6⟩
                  obtain ⟨a6, c6, rfl, _⟩ := hs6.slice
                  have T6 := Lib.hid ((T5.out.later hb6).with (T5.out.list hb6 hs6))
                  have hF0 : fixes f F ((liveL f).take 0) = F := rfl
                  have hFs := Lib.hid fun t (ht : t < (liveL f).length) => (show fixes f F ((liveL f).take (t + 1)) = fix1 f (fixes f F ((liveL f).take t)) (nth (liveL f) t) by
                    rw [List.take_succ_eq_append_getElem ht, fixes_snoc, nth_eq ht])
                  have hmem := Lib.hid (fun x (hx : x ∈ liveL f) => (mem_liveL hT.out.both.inv.dom).1 hx)
                  have hll := length_liveL f
                  obtain ⟨L0, hL0⟩ : ∃ z, z = liveL f := ⟨_, rfl⟩
                  rw [← hL0] at T6 hF0 hFs hmem hll ⊢
                  clear y0 y1 y2 y3 yz yf0 yf1 yf2 yf3
                  clear hs6 hb6 CL T5 hL0
                  go_wp2_with fail
                  go_loopw [67] (fun j wr => ∃ (t : Nat) (S Q : Nat → Prop) (G : Int → List Int), t ≤ L0.length ∧ j = .int .i64 t ∧ Hid (G = fixes f F (L0.take t)) ∧ Hid (Trio S Q W wr rb mb fb fm vb yb f p p (fixes f F L0) G L0 (.slice a6 L0.length c6))) (fun j _ => L0.length - (intOf j).toNat)
                  case atStart => exact ⟨0, _, _, F, Nat.zero_le _, rfl, hF0.symm, T6.out⟩
                  case round =>
                    clear T6
                    obtain ⟨t, S, Q, G, ht, rfl, hG, hT⟩ := hrel
                    by_cases hlj : t < L0.length
                    · obtain ⟨b6, o6, rfl, _, hz6, hc6⟩ := hT.out.lst.slAt.at t hlj wr (RowKit.Below.refl _ _)
                      have hml := hmem.out _ (nth_mem.2 ⟨t, hlj, rfl⟩)
                      have hst := hFs.out t hlj
                      rw [← hG.out] at hst
                      obtain ⟨m0, hm0⟩ : ∃ z, z = nth L0 t := ⟨_, rfl⟩
                      rw [← hm0] at hc6 hml hst
                      have hmd := livesR_dom hT.out.both.inv.dom hml
                      obtain ⟨m, rfl⟩ : ∃ m : Nat, m0 = m := ⟨m0.toNat, by omega⟩
                      have HST := Lib.hid hst
                      have HML := Lib.hid hml
                      obtain ⟨V, hV⟩ := hT.out.both.ref
                      have CF := Lib.hid (rfix_any hV hT.out.both.inv hT.out.tab m hml)
                      have y0 := (hT.out).box.c0
                      have y1 := (hT.out).box.c1
                      have y2 := (hT.out).box.c2
                      have y3 := (hT.out).box.c3
                      have yz := (hT.out).box.z
                      have yf0 := (hT.out).box.f0
                      have yf1 := (hT.out).box.f1
                      have yf2 := (hT.out).box.f2
                      have yf3 := (hT.out).box.f3
                      have hm32 : m < 32 := by omega
                      clear hst hml hm0 hV
                      go_wp2_with fail
                      refine CF.out.mono ?_
                      rintro e w7 ⟨nv, rfl, hs7, hb7⟩
                      have T7 := Lib.hid (hT.out.later hb7)
                      have N7 := Lib.hid (hT.out.list hb7 hs7)
                      obtain ⟨a7, c7, rfl, _⟩ := hs7.slice
                      clear y0 y1 y2 y3 yz yf0 yf1 yf2 yf3
                      clear CF hb7 hs7
                      obtain ⟨uo, huo, _⟩ := (T7.out).tab.cell m (by omega)
                      have ufz := (T7.out).tab.frz m
                      have uz := (T7.out).tab.z
                      have FO := fixR_ok T7.out.both.inv G HML.out
                      have T8 := Lib.hid (T7.out.put hm32 N7.out FO.1 FO.2)
                      have HG8 : Hid (setL G m (fixR f G m) = fixes f F (L0.take (t + 1))) := show _ = _ by rw [HST.out]; rfl
                      clear FO N7 T7
                      go_wp2_with fail
                      go_roundw
                      case rel => go_light; exact ⟨t + 1, _, _, _, by omega, by go_num, HG8, T8⟩
                      case measure => go_light; simp [intOf]; omega
                    · obtain rfl : t = L0.length := by omega
                      have T9 : Hid (Trio S Q W wr rb mb fb fm vb yb f p p (fixes f F L0) (fixes f F L0) [] (.slice none 0 0)) := by
                        have h1 := hG.out
                        rw [List.take_length] at h1
                        have h2 := hT.out.with (l := []) (v := .slice none 0 0) ⟨none, 0, rfl, Nat.le_refl _, Nat.zero_le _, fun _ => rfl, Or.inl rfl⟩
                        rw [h1] at h2
                        exact h2
                      go_wp2_with fail
                      go_meet
                      case rel => exact ⟨_, _, _, T9⟩
                · have hq1 : 0 ≤ q := by omega
                  cases hlq : livesR f q with
                  | false =>
                    have CX := Lib.hid (fix_dead hg hT.out.fin hT.out.both.inv.heads q okq hlq)
                    clear hg
                    go_wp2_with fail
                    refine CX.out.mono ?_
                    rintro e w5 ⟨v5, rfl, ⟨b5, rfl, _⟩, hb5⟩
                    have T5 := Lib.hid (hT.out.later hb5)
                    obtain ⟨V, hV⟩ := T5.out.both.ref
                    have CL := Lib.hid fun wr (hb : RowKit.Below w5.heap.size w5 wr) => rlives_any (hV.rows.below hb) T5.out.both.inv.dom q
                    rw [hlq] at CL
                    have y0 := (T5.out).box.c0
                    have y1 := (T5.out).box.c1
                    have y2 := (T5.out).box.c2
                    have y3 := (T5.out).box.c3
                    have yz := (T5.out).box.z
                    have yf0 := (T5.out).box.f0
                    have yf1 := (T5.out).box.f1
                    have yf2 := (T5.out).box.f2
                    have yf3 := (T5.out).box.f3
                    have hc2 := (hb5.cell (p := ⟨b2, o2 + k, none⟩) hz2).trans hc2
                    have hz2 := Nat.lt_of_lt_of_le hz2 hb5.size
                    clear hb5 CX hV hlq
                    go_wp2_with fail
                    refine wp_region_calm (by kernel_rfl) (by kernel_rfl) ?_
                    repeat (first | (go_big_quiet_step ((first | (go_at_call 24; exact calls_calm (CL.out _ (by (repeat (first | exact Below.refl _ _ | (with_reducible assumption) | (with_reducible refine bel_later ?_ _) | (with_reducible refine bel_alloc ?_ _) | (with_reducible refine bel_drew ?_) | (with_reducible refine bel_drewN ?_ _) | (with_reducible refine bel_set ?_ (by first | (simp; done) | (simp; omega) | (dsimp only; omega)) _))))))))) | (refine wpQuiet_step (fun K hK => ?_); go_simp; first | (refine hK _ ?_; clear hK K) | (apply Exists.intro; refine ⟨fun _ => ?_, hK _ ?_⟩; (first | (go_at_call 24; exact calls_calm (CL.out _ (by (repeat (first | exact Below.refl _ _ | (with_reducible assumption) | (with_reducible refine bel_later ?_ _) | (with_reducible refine bel_alloc ?_ _) | (with_reducible refine bel_drew ?_) | (with_reducible refine bel_drewN ?_ _) | (with_reducible refine bel_set ?_ (by first | (simp; done) | (simp; omega) | (dsimp only; omega)) _))))))); clear hK K)))
                    refine wpQuiet_nil ?_
                    intro _ hw'
                    obtain ⟨xq, hw''⟩ := hw'
                    subst hw''
                    obtain ⟨w6, hb6⟩ := xq
                    dsimp only
                    have T6 := Lib.hid (T5.out.later hb6)
                    clear hb6 CL T5 hc2 hz2
                    clear y0 y1 y2 y3 yz yf0 yf1 yf2 yf3
                    go_wp2_with fail
                    go_meet
                    case rel => exact ⟨_, _, _, T6⟩
                  | true =>
                    have CX := Lib.hid (fix_live hg hT.out.fin hT.out.both.inv.heads q okq hlq)
                    have hqd := livesR_dom hT.out.both.inv.dom hlq
                    obtain ⟨m, rfl⟩ : ∃ m : Nat, q = m := ⟨q.toNat, by omega⟩
                    have HML := Lib.hid hlq
                    clear hg
                    go_wp2_with fail
                    refine CX.out.mono ?_
                    rintro e w5 ⟨rfl, hf5, hk5⟩
                    have T5 := Lib.hid (hT.out.fixed hf5 hk5)
                    obtain ⟨V, hV⟩ := T5.out.both.ref
                    have CL := Lib.hid fun wr (hb : RowKit.Below w5.heap.size w5 wr) => rlives_any (hV.rows.below hb) T5.out.both.inv.dom (m : Int)
                    rw [hlq] at CL
                    obtain ⟨hz2, hc2⟩ := HC2.out w5 T5.out.both.below
                    have y0 := (T5.out).box.c0
                    have y1 := (T5.out).box.c1
                    have y2 := (T5.out).box.c2
                    have y3 := (T5.out).box.c3
                    have yz := (T5.out).box.z
                    have yf0 := (T5.out).box.f0
                    have yf1 := (T5.out).box.f1
                    have yf2 := (T5.out).box.f2
                    have yf3 := (T5.out).box.f3
                    clear hf5 hk5 CX hV hlq
                    go_wp2_with fail
                    refine wp_region_calm (by kernel_rfl) (by kernel_rfl) ?_
                    repeat (first | (go_big_quiet_step ((first | (go_at_call 24; exact calls_calm (CL.out _ (by (repeat (first | exact Below.refl _ _ | (with_reducible assumption) | (with_reducible refine bel_later ?_ _) | (with_reducible refine bel_alloc ?_ _) | (with_reducible refine bel_drew ?_) | (with_reducible refine bel_drewN ?_ _) | (with_reducible refine bel_set ?_ (by first | (simp; done) | (simp; omega) | (dsimp only; omega)) _))))))))) | (refine wpQuiet_step (fun K hK => ?_); go_simp; first | (refine hK _ ?_; clear hK K) | (apply Exists.intro; refine ⟨fun _ => ?_, hK _ ?_⟩; (first | (go_at_call 24; exact calls_calm (CL.out _ (by (repeat (first | exact Below.refl _ _ | (with_reducible assumption) | (with_reducible refine bel_later ?_ _) | (with_reducible refine bel_alloc ?_ _) | (with_reducible refine bel_drew ?_) | (with_reducible refine bel_drewN ?_ _) | (with_reducible refine bel_set ?_ (by first | (simp; done) | (simp; omega) | (dsimp only; omega)) _))))))); clear hK K)))
                    refine wpQuiet_nil ?_
                    intro _ hw'
                    obtain ⟨xq, hw''⟩ := hw'
                    subst hw''
                    obtain ⟨w6, hb6⟩ := xq
                    dsimp only
                    have T6 := Lib.hid (T5.out.later hb6)
                    clear y0 y1 y2 y3 yz yf0 yf1 yf2 yf3
                    clear hb6 CL T5 hc2 hz2
                    obtain ⟨hz2, hc2⟩ := HC2.out w6 T6.out.both.below
                    have y0 := (T6.out).box.c0
                    have y1 := (T6.out).box.c1
                    have y2 := (T6.out).box.c2
                    have y3 := (T6.out).box.c3
                    have yz := (T6.out).box.z
                    have yf0 := (T6.out).box.f0
                    have yf1 := (T6.out).box.f1
                    have yf2 := (T6.out).box.f2
                    have yf3 := (T6.out).box.f3
                    obtain ⟨V, hV⟩ := T6.out.both.ref
                    have CF := Lib.hid fun wr (hb : RowKit.Below w6.heap.size w6 wr) => rfix_any (hV.below hb) T6.out.both.inv (T6.out.tab.below hb) m HML.out
                    have hm32 : m < 32 := by omega
                    have hmI : ((m : Nat) : Int) < 32 := by omega
                    clear hV
                    go_wp2_with fail
                    refine wp_region_heads [0, 1, 2, 3, 4, 5, 6, 7, 8, 9, 10] 12 (fun w' => ∃ x : Later w6, w' = x.world) (by kernel_rfl) (by kernel_rfl) ⟨⟨{ w6 with drawn := w6.drawn + 1 }, (RowKit.Below.refl _ _).drew⟩, rfl⟩ (fun d v c a w h => by cases d <;> exact h) ?_
                    simp only [headOps]
                    repeat (refine wpTame_step (fun K hK => ?_); go_simp; refine hK _ ?_; clear hK K)
                    refine wpTame_nil ?_
                    clear y0 y1 y2 y3 yz yf0 yf1 yf2 yf3
                    clear hc2 hz2
                    have BD : Hid (RowKit.Below w6.heap.size w6 { w6 with drawn := w6.drawn + 1 }) := (RowKit.Below.refl _ _).drew
                    refine wpAnyC_step (f := 2) [11] (by kernel_rfl) rfl rfl (fun i hi => ?_)
                    simp only [List.mem_cons, List.not_mem_nil, or_false] at hi
                    subst hi
                    refine ⟨_, rfl, fun R hR' => ?_⟩
                    go_wp2_with fail
                    refine (CF.out _ BD.out).mono ?_
                    rintro e w7 ⟨nv, rfl, hs7, hb7⟩
                    have T7 := Lib.hid ((T6.out.later BD.out).later hb7)
                    have N7 := Lib.hid ((T6.out.later BD.out).list hb7 hs7)
                    have B7 := Lib.hid (bel_below BD.out hb7)
                    obtain ⟨a7, c7, rfl, _⟩ := hs7.slice
                    clear CF hb7 hs7 BD
                    go_wp2_with fail
                    refine hR' _ _ ⟨⟨w7, B7.out⟩, rfl⟩ ?_
                    clear hR' R B7
                    refine wpAnyC_end2 (k := 12) (by decide) rfl rfl rfl (by kernel_rfl) ?_
                    obtain ⟨uo, huo, _⟩ := (T7.out).tab.cell m (by omega)
                    have ufz := (T7.out).tab.frz m
                    have uz := (T7.out).tab.z
                    have FO := fixR_ok T7.out.both.inv F HML.out
                    have T8 : Hid (Trio _ _ W _ rb mb fb fm vb yb f p p (fix1 f F m) (fix1 f F m) [] (.slice none 0 0)) := T7.out.put hm32 N7.out FO.1 FO.2
                    clear FO N7 T7
                    go_wp2_with fail
                    go_meet
                    case rel => exact ⟨_, _, _, T8⟩
              · go_wp2_with fail
                go_meet
                case rel => exact ⟨_, _, _, hT⟩
          case rest =>
            as_aux_lemma =>
              clear hT
              obtain ⟨S, Q, F, hT⟩ := hcut
              obtain ⟨b, off, rfl, hbW, d0, d1, d2, d3⟩ := HA.out.at k hlt W (RowKit.Below.refl _ _)
              have hok := HAO.out k hlt
              generalize hAk : actAt acts k = A at d0 d1 d2 d3 hok
              obtain ⟨kd, an, av, ai⟩ := A
              dsimp only at d0 d1 d2 d3
              have HOK := Lib.hid hok
              have d0 := (hT.out.both.below.cell (p := ⟨b, off + k * 4, none⟩) hbW).trans d0
              have d1 := (hT.out.both.below.cell (p := ⟨b, off + k * 4 + 1, none⟩) hbW).trans d1
              have d2 := (hT.out.both.below.cell (p := ⟨b, off + k * 4 + 2, none⟩) hbW).trans d2
              have d3 := (hT.out.both.below.cell (p := ⟨b, off + k * 4 + 3, none⟩) hbW).trans d3
              have hbw : b < wc.heap.size := Nat.lt_of_lt_of_le hbW hT.out.both.below.size
              have hSb : ¬ S b := fun h => by have := hT.out.both.low b h; omega
              have hSy := hT.out.yS
              have hup := Lib.hid hT.out.both.up
              clear hok hAk
              have y0 := (hT.out).box.c0
              have y1 := (hT.out).box.c1
              have y2 := (hT.out).box.c2
              have y3 := (hT.out).box.c3
              have yz := (hT.out).box.z
              have yf0 := (hT.out).box.f0
              have yf1 := (hT.out).box.f1
              have yf2 := (hT.out).box.f2
              have yf3 := (hT.out).box.f3
              go_upto_region 22 with (fail)
              go_cut [20, 21] (fun s20 s21 wx => ∃ (X : Nat) (p' : Where) (S' Q' : Nat → Prop), s20 = .pointer (some ⟨X, 0, none⟩) ∧ s21 = .bool true ∧ Hid (BoxOf wx X p') ∧ Hid (Trio S' Q' W wx rb mb fb fm vb yb (actR [1, 2, 3, 4] f ⟨kd, an, av, ai⟩) p' p F F [] (.slice none 0 0)))
              case first =>
                as_aux_lemma =>
                  refine wp_region_heads [0, 1, 2, 3, 4, 5] 12 (fun w' => ∃ x : KeptW S wc, w' = x.world) (by kernel_rfl) (by kernel_rfl) ⟨⟨{ wc with drawn := wc.drawn + 1 }, (Kept.refl S wc).drew⟩, rfl⟩ (fun d v c a w h => by cases d <;> exact h) ?_
                  simp only [headOps]
                  repeat (refine wpTame_step (fun K hK => ?_); go_simp; refine hK _ ?_; clear hK K)
                  refine wpTame_nil ?_
                  clear y0 y1 y2 y3 yz yf0 yf1 yf2 yf3
                  clear d0 d1 d2 d3
                  refine wpAnyC_step (f := 6) [6, 10] (by kernel_rfl) rfl rfl (fun i hi => ?_)
                  simp only [List.mem_cons, List.not_mem_nil, or_false] at hi
                  rcases hi with rfl | rfl
                  · refine ⟨_, rfl, fun R hR' => ?_⟩
                    go_wp2_with fail
                    refine (does_any (hT.out.both.later (bel_drew (RowKit.Below.refl _ _))) kd an av ai HOK.out.n HOK.out.via HOK.out.id).mono ?_
                    rintro e w5 ⟨p', S', Q', rfl, hs1, hs0, hBo, hk5⟩
                    have K5 : Hid (Kept S wc w5) := ((Kept.refl S wc).drew).trans hk5
                    have O5 := Lib.hid hBo
                    clear hBo hk5
                    go_wp2_with fail
                    refine hR' _ _ ⟨⟨w5, K5.out⟩, rfl⟩ ?_
                    clear hR' R
                    refine wpAnyC_mid (f := 3) [7, 8, 9] ⟨⟨w5, K5.out⟩, rfl⟩ (by kernel_rfl) (fun d v c a w h => by cases d <;> exact h) ?_
                    simp only [headOps]
                    repeat (refine wpTame_step (fun K hK => ?_); go_simp; refine hK _ ?_; clear hK K)
                    refine wpTame_nil ?_
                    refine wpAnyC_step (f := 2) [10] (by kernel_rfl) rfl rfl (fun i hi => ?_)
                    simp only [List.mem_cons, List.not_mem_nil, or_false] at hi
                    subst hi
                    refine ⟨_, rfl, fun R hR' => ?_⟩
                    go_wp2_with fail
                    refine hR' _ _ ⟨⟨_, K5.out.alloc _⟩, rfl⟩ ?_
                    clear hR' R
                    refine wpAnyC_step (f := 1) [11] (by kernel_rfl) rfl rfl (fun i hi => ?_)
                    simp only [List.mem_cons, List.not_mem_nil, or_false] at hi
                    subst hi
                    refine ⟨_, rfl, fun R hR' => ?_⟩
                    go_wp2_with fail
                    obtain ⟨w6, hw6⟩ : ∃ z, z = w5.alloc (.cells #[.slice (some ⟨p'.b1, p'.o1, none⟩) 32 p'.k1, .slice (some ⟨p'.b2, p'.o2, none⟩) 32 p'.k2, .slice (some ⟨p'.b3, p'.o3, none⟩) 32 p'.k3, .slice (some ⟨p'.b4, p'.o4, none⟩) 32 p'.k4] 33) := ⟨_, rfl⟩
                    obtain ⟨X, hXX⟩ : ∃ X, X = w5.heap.size := ⟨_, rfl⟩
                    have b56 : RowKit.Below w5.heap.size w5 w6 := by rw [hw6]; exact bel_alloc (RowKit.Below.refl _ _) _
                    have X6 : Hid (BoxOf w6 X p') := by rw [hw6, hXX]; exact ⟨by simp [go_sem], by simp [go_sem], by simp [go_sem], by simp [go_sem], by simp [go_sem], by simp [go_sem], by simp [go_sem], by simp [go_sem], by simp⟩
                    have K6 := Lib.hid (K5.out.below b56)
                    have T6 := Lib.hid (hT.out.does hs1 (fun b h => hs0 b h) (O5.out.later b56) K6.out)
                    rw [← hw6, ← hXX]
                    refine hR' _ _ ⟨⟨w6, K6.out⟩, rfl⟩ ?_
                    clear hR' R hw6 hXX b56 O5 K5 hs1 hs0
                    refine wpAnyC_end (k := 12) (by decide) rfl rfl (by kernel_rfl) ?_
                    go_wp2_with fail
                    go_meet
                    case rel => exact ⟨X, p', _, _, rfl, rfl, X6, T6⟩
                  · refine ⟨_, rfl, fun R hR' => ?_⟩
                    go_wp2_with fail
                    obtain ⟨wa, hwa⟩ : ∃ z, z = (wc.alloc (.cells #[.slice none 0 0, .slice none 0 0, .slice none 0 0, .slice none 0 0] 33)).drew := ⟨_, rfl⟩
                    obtain ⟨X, hXX⟩ : ∃ X, X = wc.heap.size := ⟨_, rfl⟩
                    have bra : RowKit.Below wc.heap.size wc wa := by rw [hwa]; exact bel_drew (bel_alloc (RowKit.Below.refl _ _) _)
                    have Xa : Hid (BoxNil wa X) := by rw [hwa, hXX]; exact ⟨by simp [go_sem], by simp [go_sem], by simp [go_sem], by simp [go_sem], by simp [go_sem], by simp [go_sem], by simp [go_sem], by simp [go_sem], by simp⟩
                    have Oa := Lib.hid (hT.out.both.now bra)
                    have Ka : Hid (Kept S wc wa) := (Kept.refl S wc).below bra
                    have hza := bra.size
                    have hXa : X < wa.heap.size := Xa.out.z
                    have HXX := Lib.hid hXX
                    rw [← hwa, ← hXX]
                    refine hR' _ _ ⟨⟨wa, Ka.out⟩, rfl⟩ ?_
                    clear hR' R hwa hXX bra
                    refine wpAnyC_step (f := 5) [6] (by kernel_rfl) rfl rfl (fun i hi => ?_)
                    simp only [List.mem_cons, List.not_mem_nil, or_false] at hi
                    subst hi
                    refine ⟨_, rfl, fun R hR' => ?_⟩
                    go_wp2_with fail
                    refine (does_any Oa.out kd an av ai HOK.out.n HOK.out.via HOK.out.id).mono ?_
                    rintro e w5 ⟨p', S', Q', rfl, hs1, hs0, hBo, hk5⟩
                    have hz5 := hk5.size
                    have K5 : Hid (Kept S wc w5) := Ka.out.trans ⟨hk5.os, hk5.tape, hk5.output, hk5.size, fun b hb hS => hk5.block b hb fun hN => by
                      rcases hN with h | h
                      · exact hS h.1
                      · omega⟩
                    have O5 := Lib.hid hBo
                    have nX : ¬ Now S wc wa X := now_not hza hXa (Or.inr (by have := HXX.out; omega))
                    have qX : Hid (¬ S' X ∧ ¬ Q' X) := ⟨fun h => nX (hs1 _ h), fun h => by
                      have := HXX.out
                      rcases hs0 _ h with h | h
                      · have := h.2; omega
                      · omega⟩
                    have X5 : Hid (BoxNil w5 X) := Xa.out.block hz5 (hk5.block _ Xa.out.z nX)
                    have HS1 : Hid (∀ b, S' b → S b) := fun b h => by
                      rcases hs1 b h with h | h
                      · exact h.1
                      · exact hup.out b (by omega)
                    have HS0 : Hid (∀ b, Q' b → Q b ∨ wc.heap.size ≤ b) := fun b h => by
                      rcases hs0 b h with h | h
                      · exact Or.inl h.1
                      · exact Or.inr (by omega)
                    clear hs1 hs0 hBo hk5 nX Oa Ka Xa
                    go_wp2_with fail
                    refine hR' _ _ ⟨⟨w5, K5.out⟩, rfl⟩ ?_
                    clear hR' R
                    refine wpAnyC_mid (f := 2) [7, 8, 9] ⟨⟨w5, K5.out⟩, rfl⟩ (by kernel_rfl) (fun d v c a w h => by cases d <;> exact h) ?_
                    simp only [headOps]
                    repeat (refine wpTame_step (fun K hK => ?_); go_simp; refine hK _ ?_; clear hK K)
                    refine wpTame_nil ?_
                    refine wpAnyC_step (f := 1) [11] (by kernel_rfl) rfl rfl (fun i hi => ?_)
                    simp only [List.mem_cons, List.not_mem_nil, or_false] at hi
                    subst hi
                    refine ⟨_, rfl, fun R hR' => ?_⟩
                    have r0 := X5.out.c0
                    have r1 := X5.out.c1
                    have r2 := X5.out.c2
                    have r3 := X5.out.c3
                    have rf0 := X5.out.f0
                    have rf1 := X5.out.f1
                    have rf2 := X5.out.f2
                    have rf3 := X5.out.f3
                    have zr := X5.out.z
                    go_wp2_with fail
                    clear r0 r1 r2 r3 rf0 rf1 rf2 rf3 zr
                    obtain ⟨w6, hw6⟩ : ∃ z, z = (((w5.setCell ⟨X, 0, none⟩ (.slice (some ⟨p'.b1, p'.o1, none⟩) 32 p'.k1)).setCell ⟨X, 1, none⟩ (.slice (some ⟨p'.b2, p'.o2, none⟩) 32 p'.k2)).setCell ⟨X, 2, none⟩ (.slice (some ⟨p'.b3, p'.o3, none⟩) 32 p'.k3)).setCell ⟨X, 3, none⟩ (.slice (some ⟨p'.b4, p'.o4, none⟩) 32 p'.k4) := ⟨_, rfl⟩
                    obtain ⟨hz6, hk6⟩ := block_set4 hw6
                    have X6 : Hid (BoxOf w6 X p') := X5.out.store _ _ _ _ hw6
                    have O6 : Hid (Both S' Q' W w6 rb mb (actR [1, 2, 3, 4] f ⟨kd, an, av, ai⟩) p') := O5.out.aside qX.out.1 qX.out.2 (by have := HXX.out; have := hT.out.both.below.size; omega) (by rw [hw6]; rfl) (by rw [hw6]; rfl) (by rw [hw6]; rfl) hz6 hk6
                    have K6 : Hid (Kept S wc w6) := ⟨by rw [hw6]; exact K5.out.os, by rw [hw6]; exact K5.out.tape, by rw [hw6]; exact K5.out.output, by rw [hz6]; exact K5.out.size, fun b hb hS => (hk6 b (by have := HXX.out; omega)).trans (K5.out.block b hb hS)⟩
                    have T6 := Lib.hid (hT.out.does HS1.out HS0.out O6.out K6.out)
                    rw [← hw6]
                    refine hR' _ _ ⟨⟨w6, K6.out⟩, rfl⟩ ?_
                    clear hR' R hw6 hz6 hk6 O5 K5 X5 HS1 HS0
                    refine wpAnyC_end (k := 12) (by decide) rfl rfl (by kernel_rfl) ?_
                    go_wp2_with fail
                    go_meet
                    case rel => exact ⟨X, p', _, _, rfl, rfl, X6, T6⟩
              case rest =>
                as_aux_lemma =>
                  clear y0 y1 y2 y3 yz yf0 yf1 yf2 yf3
                  clear hT d0 d1 d2 d3 hbw hSb hSy hup HOK hbW
                  obtain ⟨X, p', S, Q, rfl, rfl, hX, hT⟩ := hcut
                  obtain ⟨f', hf'⟩ : ∃ z, z = actR [1, 2, 3, 4] f ⟨kd, an, av, ai⟩ := ⟨_, rfl⟩
                  rw [← hf'] at hT
                  clear hf'
                  have x0 := hX.out.c0
                  have x1 := hX.out.c1
                  have x2 := hX.out.c2
                  have x3 := hX.out.c3
                  have xz := hX.out.z
                  have y0 := (hT.out).box.c0
                  have y1 := (hT.out).box.c1
                  have y2 := (hT.out).box.c2
                  have y3 := (hT.out).box.c3
                  have yz := (hT.out).box.z
                  have yf0 := (hT.out).box.f0
                  have yf1 := (hT.out).box.f1
                  have yf2 := (hT.out).box.f2
                  have yf3 := (hT.out).box.f3
                  go_upto_region 24 with (fail)
                  obtain ⟨w5, hw5⟩ : ∃ z, z = (((wc.setCell ⟨yb, 0, none⟩ (.slice (some ⟨p'.b1, p'.o1, none⟩) 32 p'.k1)).setCell ⟨yb, 1, none⟩ (.slice (some ⟨p'.b2, p'.o2, none⟩) 32 p'.k2)).setCell ⟨yb, 2, none⟩ (.slice (some ⟨p'.b3, p'.o3, none⟩) 32 p'.k3)).setCell ⟨yb, 3, none⟩ (.slice (some ⟨p'.b4, p'.o4, none⟩) 32 p'.k4) := ⟨_, rfl⟩
                  have T5 := Lib.hid (hT.out.boxed hw5)
                  rw [← hw5]
                  clear y0 y1 y2 y3 yz yf0 yf1 yf2 yf3
                  clear hw5 hT hX x0 x1 x2 x3 xz
                  go_wp2_with fail
                  go_loopw [123] (fun j wr => ∃ t : Nat, t ≤ 32 ∧ j = .int .i64 t ∧ Hid (∃ y : Later w5, wr = y.world)) (fun j _ => 32 - (intOf j).toNat)
                  case atStart => exact ⟨0, by omega, rfl, ⟨_, RowKit.Below.refl _ _⟩, rfl⟩
                  case round =>
                    obtain ⟨t, ht, rfl, hy⟩ := hrel
                    obtain ⟨y, rfl⟩ := hy
                    by_cases hltt : t < 32
                    · have htI : ((t : Nat) : Int) < 32 := by omega
                      obtain ⟨uo, huo, hsl⟩ := T5.out.tab.cell t hltt
                      have hfl := T5.out.tab.len (t : Int)
                      have HS5 := Lib.hid hsl.slAt
                      obtain ⟨au, cu, rfl, _⟩ := hsl.slice
                      have huz := T5.out.tab.z
                      have huo := (y.below.cell (p := ⟨vb, t, none⟩) huz).trans huo
                      have huz := Nat.lt_of_lt_of_le huz y.below.size
                      have CO := Lib.hid fun w' (hb : RowKit.Below y.world.heap.size y.world w') => off_at (T5.out.fin.below (bel_below y.below hb)) (t : Int) (okInt_dom (by omega) (by omega))
                      obtain ⟨l, hl⟩ : ∃ z, z = F t := ⟨_, rfl⟩
                      rw [← hl] at huo hfl HS5 CO
                      clear hl hsl
                      go_wp2_with fail
                      refine wp_region_heads [0, 1, 3, 4, 5, 6] 8 (fun w' => ∃ x : Later y.world, w' = x.world) (by kernel_rfl) (by kernel_rfl) ⟨⟨{ y.world with drawn := y.world.drawn + 1 }, (RowKit.Below.refl _ _).drew⟩, rfl⟩ (fun d v c a w h => by cases d <;> exact h) ?_
                      simp only [headOps]
                      repeat (refine wpTame_step (fun K hK => ?_); go_simp; refine hK _ ?_; clear hK K)
                      refine wpTame_nil ?_
                      have BD : Hid (RowKit.Below y.world.heap.size y.world { y.world with drawn := y.world.drawn + 1 }) := (RowKit.Below.refl _ _).drew
                      clear huo huz
                      refine wpAnyC_step (f := 2) [2] (by kernel_rfl) rfl rfl (fun i hi => ?_)
                      simp only [List.mem_cons, List.not_mem_nil, or_false] at hi
                      subst hi
                      refine ⟨_, rfl, fun R hR' => ?_⟩
                      go_wp2_with fail
                      refine (CO.out _ BD.out).mono ?_
                      rintro e w6 ⟨v6, rfl, hs6, hb6⟩
                      obtain ⟨a6, c6, rfl, _⟩ := hs6.slice
                      have B6 := Lib.hid (bel_below BD.out hb6)
                      have CI := Lib.hid (rints_any w6 _ _ l l (hs6.base (Nat.zero_le _)) (HS5.out.below (bel_below y.below B6.out)) (by omega))
                      rw [sameI_all (a := l) (b := l) rfl (fun _ _ => rfl)] at CI
                      clear CO hs6 hb6 BD
                      go_wp2_with fail
                      refine hR' _ _ ⟨⟨w6, B6.out⟩, rfl⟩ ?_
                      clear hR' R
                      refine wpAnyC_step (f := 1) [7] (by kernel_rfl) rfl rfl (fun i hi => ?_)
                      simp only [List.mem_cons, List.not_mem_nil, or_false] at hi
                      subst hi
                      refine ⟨_, rfl, fun R hR' => ?_⟩
                      go_wp2_with fail
                      refine CI.out.mono ?_
                      rintro e w7 ⟨rfl, hb7⟩
                      have B7 := Lib.hid (bel_below B6.out hb7)
                      clear CI hb7 B6
                      go_wp2_with fail
                      refine hR' _ _ ⟨⟨w7, B7.out⟩, rfl⟩ ?_
                      clear hR' R
                      refine wpAnyC_end (k := 8) (by decide) rfl rfl (by kernel_rfl) ?_
                      go_wp2_with fail
                      go_roundw
                      case rel => first | (go_light; exact ⟨t + 1, by omega, by go_num, ⟨_, bel_below y.below B7.out⟩, rfl⟩) | ((repeat apply Exists.intro); exact ⟨⟨t + 1, by omega, by go_num, ⟨_, bel_below y.below B7.out⟩, rfl⟩, rfl⟩)
                      case measure => go_light; simp [intOf]; omega
                    · obtain rfl : t = 32 := by omega
                      have htI : ¬ ((32 : Nat) : Int) < 32 := by omega
                      have T6 := Lib.hid (T5.out.later y.below)
                      obtain ⟨w6, hw6⟩ : ∃ z, z = y.world := ⟨_, rfl⟩
                      rw [← hw6] at T6 ⊢
                      clear hw6 T5
                      obtain ⟨g, hg⟩ := T6.out.both.ring
                      cases hlv : livesR f' n with
                      | false =>
                        as_aux_lemma =>
                          have CN := Lib.hid (next_dead hg T6.out.fin n x hn hlv)
                          clear hg
                          go_wp2_with fail
                          refine CN.out.mono ?_
                          rintro e w8 ⟨⟨v8, rfl, hE8⟩, hb8⟩
                          have T8 := Lib.hid (T6.out.later hb8)
                          have HE8 := Lib.hid hE8
                          obtain ⟨b8, rfl, _⟩ := hE8
                          obtain ⟨g8, hg8⟩ := T8.out.both.ring
                          have CP := Lib.hid (path_dead hg8 T8.out.fin T8.out.both.inv.heads n x hn hlv)
                          clear hb8 CN T6 hg8
                          go_wp2_with fail
                          refine CP.out.mono ?_
                          rintro e w9 ⟨v9, rfl, hE9, hb9⟩
                          have T9 := Lib.hid (T8.out.later hb9)
                          have HE9 := Lib.hid hE9
                          have HE8 := Lib.hid (HE8.out.below hb9)
                          obtain ⟨b9, rfl, _⟩ := hE9
                          obtain ⟨V, hV⟩ := T9.out.both.ref
                          have CL := Lib.hid (rlives_any hV.rows T9.out.both.inv.dom n)
                          rw [hlv] at CL
                          have y0 := (T9.out).box.c0
                          have y1 := (T9.out).box.c1
                          have y2 := (T9.out).box.c2
                          have y3 := (T9.out).box.c3
                          have yz := (T9.out).box.z
                          have yf0 := (T9.out).box.f0
                          have yf1 := (T9.out).box.f1
                          have yf2 := (T9.out).box.f2
                          have yf3 := (T9.out).box.f3
                          clear hb9 CP T8 hV hlv
                          go_wp2_with fail
                          refine CL.out.mono ?_
                          rintro e wA ⟨rfl, hbA⟩
                          have TA := Lib.hid (T9.out.later hbA)
                          have HEA := Lib.hid (HE9.out.below hbA)
                          have CA := Lib.hid (of_code (Or.inr ⟨by decide, HE8.out.below hbA⟩) TA.out.both.handle)
                          clear y0 y1 y2 y3 yz yf0 yf1 yf2 yf3
                          clear hbA CL T9 HE8 HE9
                          go_wp2_with fail
                          refine CA.out.mono ?_
                          rintro e wB ⟨rfl, hbB⟩
                          have TB := Lib.hid (TA.out.later hbB)
                          have CB := Lib.hid (of_code (Or.inr ⟨by decide, HEA.out.below hbB⟩) TB.out.both.handle)
                          clear hbB CA TA HEA
                          go_wp2_with fail
                          refine CB.out.mono ?_
                          rintro e wC ⟨rfl, hbC⟩
                          have TC := Lib.hid (TB.out.later hbC)
                          clear hbC CB TB
                          go_wp2_with fail
                          go_roundw
                          case rel => first | (go_light; exact ⟨k + 1, _, _, _, _, _, by omega, by omega, by go_num, TC⟩) | ((repeat apply Exists.intro); exact ⟨⟨k + 1, _, _, _, _, _, by omega, by omega, by go_num, TC⟩, rfl⟩)
                          case measure => go_light; simp [intOf]; omega
                      | true =>
                        as_aux_lemma =>
                          have hnd := livesR_dom T6.out.both.inv.dom hlv
                          obtain ⟨m, rfl⟩ : ∃ m : Nat, n = m := ⟨n.toNat, by omega⟩
                          have hm32 : m < 32 := by omega
                          have HLV := Lib.hid hlv
                          have CN := Lib.hid (next_live hg T6.out.fin m x hn hlv)
                          obtain ⟨z, hz⟩ : ∃ z, z = nextR f' F m x := ⟨_, rfl⟩
                          rw [← hz] at CN
                          have HZ := Lib.hid hz
                          clear hg hlv hz
                          go_wp2_with fail
                          refine CN.out.mono ?_
                          rintro e w8 ⟨rfl, hb8⟩
                          have T8 := Lib.hid (T6.out.later hb8)
                          obtain ⟨g8, hg8⟩ := T8.out.both.ring
                          clear hb8 CN T6
                          cases hP : pathR (fun y => nextR f' F y x) 65 m with
                          | none =>
                            have CP := Lib.hid (path_none hg8 T8.out.fin T8.out.both.inv.heads m x hn HLV.out hP)
                            clear hg8
                            go_wp2_with fail
                            refine CP.out.mono ?_
                            rintro e w9 ⟨v9, rfl, hE9, hb9⟩
                            have T9 := Lib.hid (T8.out.later hb9)
                            have HE9 := Lib.hid hE9
                            obtain ⟨b9, rfl, _⟩ := hE9
                            clear hb9 CP T8
                            obtain ⟨V, hV⟩ := T9.out.both.ref
                            have CL := Lib.hid (rlives_any hV.rows T9.out.both.inv.dom (m : Int))
                            rw [HLV.out] at CL
                            have y0 := (T9.out).box.c0
                            have y1 := (T9.out).box.c1
                            have y2 := (T9.out).box.c2
                            have y3 := (T9.out).box.c3
                            have yz := (T9.out).box.z
                            have yf0 := (T9.out).box.f0
                            have yf1 := (T9.out).box.f1
                            have yf2 := (T9.out).box.f2
                            have yf3 := (T9.out).box.f3
                            clear hV
                            go_wp2_with fail
                            refine CL.out.mono ?_
                            rintro e wA ⟨rfl, hbA⟩
                            have TA := Lib.hid (T9.out.later hbA)
                            have BA := Lib.hid hbA
                            obtain ⟨V, hV⟩ := TA.out.both.ref
                            have CF := Lib.hid (rpath_any hV TA.out.both.inv TA.out.tab m HLV.out x hx)
                            unfold RPathPost at CF
                            rw [hP] at CF
                            clear y0 y1 y2 y3 yz yf0 yf1 yf2 yf3
                            have y0 := (TA.out).box.c0
                            have y1 := (TA.out).box.c1
                            have y2 := (TA.out).box.c2
                            have y3 := (TA.out).box.c3
                            have yz := (TA.out).box.z
                            have yf0 := (TA.out).box.f0
                            have yf1 := (TA.out).box.f1
                            have yf2 := (TA.out).box.f2
                            have yf3 := (TA.out).box.f3
                            clear hbA CL T9 hV
                            go_wp2_with fail
                            refine CF.out.mono ?_
                            intro e wB hq
                            clear y0 y1 y2 y3 yz yf0 yf1 yf2 yf3
                            clear CF
                            obtain ⟨rfl, hbB⟩ := hq
                            have TB := Lib.hid (TA.out.later hbB)
                            have HEB := Lib.hid ((HE9.out.below BA.out).below hbB)
                            obtain ⟨V, hV⟩ := TB.out.both.ref
                            have CX := Lib.hid (rnext_any hV TB.out.both.inv TB.out.tab m HLV.out x hx)
                            rw [← HZ.out] at CX
                            have y0 := (TB.out).box.c0
                            have y1 := (TB.out).box.c1
                            have y2 := (TB.out).box.c2
                            have y3 := (TB.out).box.c3
                            have yz := (TB.out).box.z
                            have yf0 := (TB.out).box.f0
                            have yf1 := (TB.out).box.f1
                            have yf2 := (TB.out).box.f2
                            have yf3 := (TB.out).box.f3
                            clear hV hbB TA
                            go_wp2_with fail
                            refine CX.out.mono ?_
                            rintro e wC ⟨rfl, hbC⟩
                            have TC := Lib.hid (TB.out.later hbC)
                            clear y0 y1 y2 y3 yz yf0 yf1 yf2 yf3
                            clear CX
                            have HEC := Lib.hid (HEB.out.below hbC)
                            have CA := Lib.hid (of_code (Or.inr ⟨by decide, HEC.out⟩) TC.out.both.handle)
                            clear hbC TB HEB
                            go_wp2_with fail
                            refine CA.out.mono ?_
                            rintro e wD ⟨rfl, hbD⟩
                            have TD := Lib.hid (TC.out.later hbD)
                            have CI := Lib.hid (rints_any wD (.slice none 0 0) (.slice none 0 0) [] [] ⟨none, 0, rfl, Nat.le_refl _, Nat.zero_le _, fun _ => rfl, Or.inl rfl⟩ ⟨none, 0, rfl, Nat.le_refl _, Nat.zero_le _, fun _ => rfl, Or.inl rfl⟩ (by simp))
                            rw [sameI_all (a := []) (b := []) rfl (fun _ _ => rfl)] at CI
                            clear CA hbD TC HEC
                            go_wp2_with fail
                            refine CI.out.mono ?_
                            rintro e wE ⟨rfl, hbE⟩
                            have TE := Lib.hid (TD.out.later hbE)
                            clear CI hbE TD
                            obtain ⟨gE, hgE⟩ := TE.out.both.ring
                            have CQ := Lib.hid (peer_live hgE m hn HLV.out)
                            clear hgE
                            go_wp2_with fail
                            refine CQ.out.mono ?_
                            rintro e wF ⟨vF, rfl, hsF, hbF⟩
                            obtain ⟨aF, cF, rfl, _⟩ := hsF.slice
                            have hpd : okInt (predR f' m) := by
                              obtain ⟨mm, hmm, _⟩ := livesR_some HLV.out
                              have := TE.out.both.inv.dom m mm hmm
                              unfold predR; rw [hmm]
                              exact okInt_dom this.2.2.2.2.1.1 this.2.2.2.2.1.2
                            have TF := Lib.hid (TE.out.later hbF)
                            clear hsF hbF CQ TE
                            obtain ⟨gF, hgF⟩ := TF.out.both.ring
                            obtain ⟨V, hV⟩ := TF.out.both.ref
                            obtain ⟨i0, i1, i2⟩ := hV.rows.at_peer hm32
                            have iz := hV.rows.peers.z
                            obtain ⟨aV, cV, hVe, _⟩ := (hV.list m hm32).slice
                            rw [hVe] at i2
                            obtain ⟨idm, hidm⟩ : ∃ z, z = idR f' m := ⟨_, rfl⟩
                            obtain ⟨prm, hprm⟩ : ∃ z, z = predR f' m := ⟨_, rfl⟩
                            obtain ⟨sl, hsl⟩ : ∃ z, z = (succR f' m).length := ⟨_, rfl⟩
                            have hip : isPlace idm := by rw [hidm]; exact idR_place TF.out.both.inv.dom _
                            have CO := Lib.hid fun w' (hb : RowKit.Below wF.heap.size wF w') => owns_at (hgF.below hb) idm prm x (hprm ▸ hpd) aF sl cF
                            have CR := Lib.hid fun w' (hb : RowKit.Below wF.heap.size wF w') => rowns_any (hV.rows.below hb) TF.out.both.inv.dom idm prm x hx hip aV sl cV
                            obtain ⟨ob, hob⟩ : ∃ z, z = ownsV f' idm prm x := ⟨_, rfl⟩
                            rw [← hob] at CO CR
                            rw [← hidm] at i0
                            rw [← hprm] at i1
                            rw [← hsl] at i2
                            rw [← hidm, ← hprm, ← hsl]
                            have hobb : (ob != ob) = false := by simp
                            have y0 := (TF.out).box.c0
                            have y1 := (TF.out).box.c1
                            have y2 := (TF.out).box.c2
                            have y3 := (TF.out).box.c3
                            have yz := (TF.out).box.z
                            have yf0 := (TF.out).box.f0
                            have yf1 := (TF.out).box.f1
                            have yf2 := (TF.out).box.f2
                            have yf3 := (TF.out).box.f3
                            clear hgF hV hVe hidm hprm hsl hob hip hpd
                            go_wp2_with fail
                            refine wp_region_calm (by kernel_rfl) (by kernel_rfl) ?_
                            repeat (first | (go_big_quiet_step ((first | (go_at_call 32; exact calls_calm (CO.out _ (by (repeat (first | exact Below.refl _ _ | (with_reducible assumption) | (with_reducible refine bel_later ?_ _) | (with_reducible refine bel_alloc ?_ _) | (with_reducible refine bel_drew ?_) | (with_reducible refine bel_drewN ?_ _) | (with_reducible refine bel_set ?_ (by first | (simp; done) | (simp; omega) | (dsimp only; omega)) _)))))) | (go_at_call 33; exact calls_calm (CR.out _ (by (repeat (first | exact Below.refl _ _ | (with_reducible assumption) | (with_reducible refine bel_later ?_ _) | (with_reducible refine bel_alloc ?_ _) | (with_reducible refine bel_drew ?_) | (with_reducible refine bel_drewN ?_ _) | (with_reducible refine bel_set ?_ (by first | (simp; done) | (simp; omega) | (dsimp only; omega)) _))))))))) | (refine wpQuiet_step (fun K hK => ?_); go_simp; first | (refine hK _ ?_; clear hK K) | (apply Exists.intro; refine ⟨fun _ => ?_, hK _ ?_⟩; (first | (go_at_call 32; exact calls_calm (CO.out _ (by (repeat (first | exact Below.refl _ _ | (with_reducible assumption) | (with_reducible refine bel_later ?_ _) | (with_reducible refine bel_alloc ?_ _) | (with_reducible refine bel_drew ?_) | (with_reducible refine bel_drewN ?_ _) | (with_reducible refine bel_set ?_ (by first | (simp; done) | (simp; omega) | (dsimp only; omega)) _)))))) | (go_at_call 33; exact calls_calm (CR.out _ (by (repeat (first | exact Below.refl _ _ | (with_reducible assumption) | (with_reducible refine bel_later ?_ _) | (with_reducible refine bel_alloc ?_ _) | (with_reducible refine bel_drew ?_) | (with_reducible refine bel_drewN ?_ _) | (with_reducible refine bel_set ?_ (by first | (simp; done) | (simp; omega) | (dsimp only; omega)) _))))))); clear hK K)))
                            refine wpQuiet_nil ?_
                            intro _ hw'
                            obtain ⟨xq, hw''⟩ := hw'
                            subst hw''
                            obtain ⟨wG, hbG⟩ := xq
                            dsimp only
                            have TG : Hid (Trio _ _ W wG rb mb fb fm vb yb f' p' p' F F [] (.slice none 0 0)) := TF.out.later (bel_below (bel_alloc (RowKit.Below.refl _ _) _) hbG)
                            clear y0 y1 y2 y3 yz yf0 yf1 yf2 yf3
                            clear hbG CO CR TF i0 i1 i2 iz
                            go_wp2_with fail
                            go_roundw
                            case rel => first | (go_light; exact ⟨k + 1, _, _, _, _, _, by omega, by omega, by go_num, TG⟩) | ((repeat apply Exists.intro); exact ⟨⟨k + 1, _, _, _, _, _, by omega, by omega, by go_num, TG⟩, rfl⟩)
                            case measure => go_light; simp [intOf]; omega
                          | some l =>
                            have CP := Lib.hid (path_some hg8 T8.out.fin T8.out.both.inv.heads m x hn HLV.out hP)
                            have hl65 : l.length ≤ 65 := (path_way _ _ _ hP).2
                            clear hg8
                            go_wp2_with fail
                            refine CP.out.mono ?_
                            rintro e w9 ⟨v9, rfl, hs9, hb9⟩
                            obtain ⟨a9, c9, rfl, _⟩ := hs9.slice
                            have S9 := Lib.hid (hs9.base (Nat.zero_le _))
                            have T9 := Lib.hid (T8.out.later hb9)
                            clear hb9 CP T8 hs9
                            obtain ⟨V, hV⟩ := T9.out.both.ref
                            have CL := Lib.hid (rlives_any hV.rows T9.out.both.inv.dom (m : Int))
                            rw [HLV.out] at CL
                            have y0 := (T9.out).box.c0
                            have y1 := (T9.out).box.c1
                            have y2 := (T9.out).box.c2
                            have y3 := (T9.out).box.c3
                            have yz := (T9.out).box.z
                            have yf0 := (T9.out).box.f0
                            have yf1 := (T9.out).box.f1
                            have yf2 := (T9.out).box.f2
                            have yf3 := (T9.out).box.f3
                            clear hV
                            go_wp2_with fail
                            refine CL.out.mono ?_
                            rintro e wA ⟨rfl, hbA⟩
                            have TA := Lib.hid (T9.out.later hbA)
                            have BA := Lib.hid hbA
                            obtain ⟨V, hV⟩ := TA.out.both.ref
                            have CF := Lib.hid (rpath_any hV TA.out.both.inv TA.out.tab m HLV.out x hx)
                            unfold RPathPost at CF
                            rw [hP] at CF
                            clear y0 y1 y2 y3 yz yf0 yf1 yf2 yf3
                            have y0 := (TA.out).box.c0
                            have y1 := (TA.out).box.c1
                            have y2 := (TA.out).box.c2
                            have y3 := (TA.out).box.c3
                            have yz := (TA.out).box.z
                            have yf0 := (TA.out).box.f0
                            have yf1 := (TA.out).box.f1
                            have yf2 := (TA.out).box.f2
                            have yf3 := (TA.out).box.f3
                            clear hbA CL T9 hV
                            go_wp2_with fail
                            refine CF.out.mono ?_
                            intro e wB hq
                            clear y0 y1 y2 y3 yz yf0 yf1 yf2 yf3
                            clear CF
                            obtain ⟨vB, rfl, hsB, hbB⟩ := hq
                            obtain ⟨aB, cB, rfl, _⟩ := hsB.slice
                            have TB := Lib.hid (TA.out.later hbB)
                            have SA := Lib.hid ((S9.out.below BA.out).below hbB)
                            have SB := Lib.hid (hsB.base (Nat.zero_le _))
                            clear hsB
                            obtain ⟨V, hV⟩ := TB.out.both.ref
                            have CX := Lib.hid (rnext_any hV TB.out.both.inv TB.out.tab m HLV.out x hx)
                            rw [← HZ.out] at CX
                            have y0 := (TB.out).box.c0
                            have y1 := (TB.out).box.c1
                            have y2 := (TB.out).box.c2
                            have y3 := (TB.out).box.c3
                            have yz := (TB.out).box.z
                            have yf0 := (TB.out).box.f0
                            have yf1 := (TB.out).box.f1
                            have yf2 := (TB.out).box.f2
                            have yf3 := (TB.out).box.f3
                            clear hV hbB TA
                            go_wp2_with fail
                            refine CX.out.mono ?_
                            rintro e wC ⟨rfl, hbC⟩
                            have TC := Lib.hid (TB.out.later hbC)
                            clear y0 y1 y2 y3 yz yf0 yf1 yf2 yf3
                            clear CX
                            have CI := Lib.hid (rints_any wC _ _ l l (SA.out.below hbC) (SB.out.below hbC) (by omega))
                            rw [sameI_all (a := l) (b := l) rfl (fun _ _ => rfl)] at CI
                            clear hbC TB SA SB
                            go_wp2_with fail
                            refine CI.out.mono ?_
                            rintro e wE ⟨rfl, hbE⟩
                            have TE := Lib.hid (TC.out.later hbE)
                            clear CI hbE TC
                            obtain ⟨gE, hgE⟩ := TE.out.both.ring
                            have CQ := Lib.hid (peer_live hgE m hn HLV.out)
                            clear hgE
                            go_wp2_with fail
                            refine CQ.out.mono ?_
                            rintro e wF ⟨vF, rfl, hsF, hbF⟩
                            obtain ⟨aF, cF, rfl, _⟩ := hsF.slice
                            have hpd : okInt (predR f' m) := by
                              obtain ⟨mm, hmm, _⟩ := livesR_some HLV.out
                              have := TE.out.both.inv.dom m mm hmm
                              unfold predR; rw [hmm]
                              exact okInt_dom this.2.2.2.2.1.1 this.2.2.2.2.1.2
                            have TF := Lib.hid (TE.out.later hbF)
                            clear hsF hbF CQ TE
                            obtain ⟨gF, hgF⟩ := TF.out.both.ring
                            obtain ⟨V, hV⟩ := TF.out.both.ref
                            obtain ⟨i0, i1, i2⟩ := hV.rows.at_peer hm32
                            have iz := hV.rows.peers.z
                            obtain ⟨aV, cV, hVe, _⟩ := (hV.list m hm32).slice
                            rw [hVe] at i2
                            obtain ⟨idm, hidm⟩ : ∃ z, z = idR f' m := ⟨_, rfl⟩
                            obtain ⟨prm, hprm⟩ : ∃ z, z = predR f' m := ⟨_, rfl⟩
                            obtain ⟨sl, hsl⟩ : ∃ z, z = (succR f' m).length := ⟨_, rfl⟩
                            have hip : isPlace idm := by rw [hidm]; exact idR_place TF.out.both.inv.dom _
                            have CO := Lib.hid fun w' (hb : RowKit.Below wF.heap.size wF w') => owns_at (hgF.below hb) idm prm x (hprm ▸ hpd) aF sl cF
                            have CR := Lib.hid fun w' (hb : RowKit.Below wF.heap.size wF w') => rowns_any (hV.rows.below hb) TF.out.both.inv.dom idm prm x hx hip aV sl cV
                            obtain ⟨ob, hob⟩ : ∃ z, z = ownsV f' idm prm x := ⟨_, rfl⟩
                            rw [← hob] at CO CR
                            rw [← hidm] at i0
                            rw [← hprm] at i1
                            rw [← hsl] at i2
                            rw [← hidm, ← hprm, ← hsl]
                            have hobb : (ob != ob) = false := by simp
                            have y0 := (TF.out).box.c0
                            have y1 := (TF.out).box.c1
                            have y2 := (TF.out).box.c2
                            have y3 := (TF.out).box.c3
                            have yz := (TF.out).box.z
                            have yf0 := (TF.out).box.f0
                            have yf1 := (TF.out).box.f1
                            have yf2 := (TF.out).box.f2
                            have yf3 := (TF.out).box.f3
                            clear hgF hV hVe hidm hprm hsl hob hip hpd
                            go_wp2_with fail
                            refine wp_region_calm (by kernel_rfl) (by kernel_rfl) ?_
                            repeat (first | (go_big_quiet_step ((first | (go_at_call 32; exact calls_calm (CO.out _ (by (repeat (first | exact Below.refl _ _ | (with_reducible assumption) | (with_reducible refine bel_later ?_ _) | (with_reducible refine bel_alloc ?_ _) | (with_reducible refine bel_drew ?_) | (with_reducible refine bel_drewN ?_ _) | (with_reducible refine bel_set ?_ (by first | (simp; done) | (simp; omega) | (dsimp only; omega)) _)))))) | (go_at_call 33; exact calls_calm (CR.out _ (by (repeat (first | exact Below.refl _ _ | (with_reducible assumption) | (with_reducible refine bel_later ?_ _) | (with_reducible refine bel_alloc ?_ _) | (with_reducible refine bel_drew ?_) | (with_reducible refine bel_drewN ?_ _) | (with_reducible refine bel_set ?_ (by first | (simp; done) | (simp; omega) | (dsimp only; omega)) _))))))))) | (refine wpQuiet_step (fun K hK => ?_); go_simp; first | (refine hK _ ?_; clear hK K) | (apply Exists.intro; refine ⟨fun _ => ?_, hK _ ?_⟩; (first | (go_at_call 32; exact calls_calm (CO.out _ (by (repeat (first | exact Below.refl _ _ | (with_reducible assumption) | (with_reducible refine bel_later ?_ _) | (with_reducible refine bel_alloc ?_ _) | (with_reducible refine bel_drew ?_) | (with_reducible refine bel_drewN ?_ _) | (with_reducible refine bel_set ?_ (by first | (simp; done) | (simp; omega) | (dsimp only; omega)) _)))))) | (go_at_call 33; exact calls_calm (CR.out _ (by (repeat (first | exact Below.refl _ _ | (with_reducible assumption) | (with_reducible refine bel_later ?_ _) | (with_reducible refine bel_alloc ?_ _) | (with_reducible refine bel_drew ?_) | (with_reducible refine bel_drewN ?_ _) | (with_reducible refine bel_set ?_ (by first | (simp; done) | (simp; omega) | (dsimp only; omega)) _))))))); clear hK K)))
                            refine wpQuiet_nil ?_
                            intro _ hw'
                            obtain ⟨xq, hw''⟩ := hw'
                            subst hw''
                            obtain ⟨wG, hbG⟩ := xq
                            dsimp only
                            have TG : Hid (Trio _ _ W wG rb mb fb fm vb yb f' p' p' F F [] (.slice none 0 0)) := TF.out.later (bel_below (bel_alloc (RowKit.Below.refl _ _) _) hbG)
                            clear y0 y1 y2 y3 yz yf0 yf1 yf2 yf3
                            clear hbG CO CR TF i0 i1 i2 iz
                            go_wp2_with fail
                            go_roundw
                            case rel => first | (go_light; exact ⟨k + 1, _, _, _, _, _, by omega, by omega, by go_num, TG⟩) | ((repeat apply Exists.intro); exact ⟨⟨k + 1, _, _, _, _, _, by omega, by omega, by go_num, TG⟩, rfl⟩)
                            case measure => go_light; simp [intOf]; omega
        · have hkl : ¬ ((k : Nat) : Int) < 25 := by omega
          go_wp2_with fail
          refine (awake12_any _).mono ?_
          rintro e wz ⟨rfl, hbz⟩
          go_wp2_with fail
          go_ret
          exact ⟨rfl, bel_below hT.out.both.below hbz⟩
      · have hkl : ¬ ((k : Nat) : Int) < (acts.length : Int) := by omega
        go_wp2_with fail
        refine (awake12_any _).mono ?_
        rintro e wz ⟨rfl, hbz⟩
        go_wp2_with fail
        go_ret
        exact ⟨rfl, bel_below hT.out.both.below hbz⟩
end Go.Proofs.YtbhaapkafgieiaaGreatDoor
