
/-
  The document's Stabilize.
-/
import Derived.Test.YtbhaapkafgieiaaGreatDoorRefD
import Derived.Test.YtbhaapkafgieiaaGreatDoorBase
import Derived.Test.YtbhaapkafgieiaaGreatDoorChordE
namespace Go.Proofs.YtbhaapkafgieiaaGreatDoor
open Go.RowKit Go.Maps Go.Sort
set_option linter.unusedVariables false
set_option linter.unusedSimpArgs false
attribute [local go_sem] later_cell later_frozen later_lt cell_set_off cell_set_block

/-- Four cells that hold a ring. -/
structure BoxIs (u : World) (b : Nat) (x0 x1 x2 x3 : Value) : Prop where
  c0 : u.cell? ⟨b, 0, none⟩ = some x0
  c1 : u.cell? ⟨b, 1, none⟩ = some x1
  c2 : u.cell? ⟨b, 2, none⟩ = some x2
  c3 : u.cell? ⟨b, 3, none⟩ = some x3
  f0 : u.frozen? ⟨b, 0, none⟩ = false
  f1 : u.frozen? ⟨b, 1, none⟩ = false
  f2 : u.frozen? ⟨b, 2, none⟩ = false
  f3 : u.frozen? ⟨b, 3, none⟩ = false
  z : b < u.heap.size
abbrev BoxOf (u : World) (b : Nat) (p : Where) : Prop := BoxIs u b (.slice (some ⟨p.b1, p.o1, none⟩) 32 p.k1) (.slice (some ⟨p.b2, p.o2, none⟩) 32 p.k2) (.slice (some ⟨p.b3, p.o3, none⟩) 32 p.k3) (.slice (some ⟨p.b4, p.o4, none⟩) 32 p.k4)
abbrev BoxNil (u : World) (b : Nat) : Prop := BoxIs u b (.slice none 0 0) (.slice none 0 0) (.slice none 0 0) (.slice none 0 0)
theorem BoxIs.block {u u' : World} {b : Nat} {x0 x1 x2 x3 : Value} (h : BoxIs u b x0 x1 x2 x3) (hs : u.heap.size ≤ u'.heap.size) (hb : u'.heap[b]? = u.heap[b]?) : BoxIs u' b x0 x1 x2 x3 :=
  ⟨(World.cell?_of_block hb).trans h.c0, (World.cell?_of_block hb).trans h.c1, (World.cell?_of_block hb).trans h.c2, (World.cell?_of_block hb).trans h.c3, (World.frozen?_of_block hb).trans h.f0, (World.frozen?_of_block hb).trans h.f1, (World.frozen?_of_block hb).trans h.f2, (World.frozen?_of_block hb).trans h.f3, Nat.lt_of_lt_of_le h.z hs⟩
theorem BoxIs.later {u u' : World} {b : Nat} {x0 x1 x2 x3 : Value} (h : BoxIs u b x0 x1 x2 x3) (hb : RowKit.Below u.heap.size u u') : BoxIs u' b x0 x1 x2 x3 := h.block hb.size (hb.block _ h.z)
theorem BoxIs.other {u : World} {b : Nat} {x0 x1 x2 x3 : Value} (h : BoxIs u b x0 x1 x2 x3) {a : Addr} (ha : b ≠ a.block) (v : Value) : BoxIs (u.setCell a v) b x0 x1 x2 x3 := h.block (by rw [size_set]; exact Nat.le_refl _) (Below.heap_setCell _ _ _ _ ha)
/-- A ring is stored. -/
theorem BoxIs.store {u u' : World} {b : Nat} {x0 x1 x2 x3 : Value} (h : BoxIs u b x0 x1 x2 x3) (y0 y1 y2 y3 : Value)
    (hu : u' = (((u.setCell ⟨b, 0, none⟩ y0).setCell ⟨b, 1, none⟩ y1).setCell ⟨b, 2, none⟩ y2).setCell ⟨b, 3, none⟩ y3) : BoxIs u' b y0 y1 y2 y3 := by
  have e1 : (u.setCell ⟨b, 0, none⟩ y0).cell? ⟨b, 1, none⟩ = some x1 := by rw [cell_set_off _ _ _ _ _ (by decide)]; exact h.c1
  have e2 : ((u.setCell ⟨b, 0, none⟩ y0).setCell ⟨b, 1, none⟩ y1).cell? ⟨b, 2, none⟩ = some x2 := by rw [cell_set_off _ _ _ _ _ (by decide), cell_set_off _ _ _ _ _ (by decide)]; exact h.c2
  have e3 : (((u.setCell ⟨b, 0, none⟩ y0).setCell ⟨b, 1, none⟩ y1).setCell ⟨b, 2, none⟩ y2).cell? ⟨b, 3, none⟩ = some x3 := by rw [cell_set_off _ _ _ _ _ (by decide), cell_set_off _ _ _ _ _ (by decide), cell_set_off _ _ _ _ _ (by decide)]; exact h.c3
  have d0 : (u.setCell ⟨b, 0, none⟩ y0).cell? ⟨b, 0, none⟩ = some y0 := World.cell?_setCell_same _ _ _ h.c0
  have d1 : ((u.setCell ⟨b, 0, none⟩ y0).setCell ⟨b, 1, none⟩ y1).cell? ⟨b, 1, none⟩ = some y1 := World.cell?_setCell_same _ _ _ e1
  have d2 : (((u.setCell ⟨b, 0, none⟩ y0).setCell ⟨b, 1, none⟩ y1).setCell ⟨b, 2, none⟩ y2).cell? ⟨b, 2, none⟩ = some y2 := World.cell?_setCell_same _ _ _ e2
  have d3 : ((((u.setCell ⟨b, 0, none⟩ y0).setCell ⟨b, 1, none⟩ y1).setCell ⟨b, 2, none⟩ y2).setCell ⟨b, 3, none⟩ y3).cell? ⟨b, 3, none⟩ = some y3 := World.cell?_setCell_same _ _ _ e3
  subst hu
  refine ⟨?_, ?_, ?_, d3, ?_, ?_, ?_, ?_, ?_⟩
  · rw [cell_set_off _ _ _ _ _ (by decide), cell_set_off _ _ _ _ _ (by decide), cell_set_off _ _ _ _ _ (by decide)]; exact d0
  · rw [cell_set_off _ _ _ _ _ (by decide), cell_set_off _ _ _ _ _ (by decide)]; exact d1
  · rw [cell_set_off _ _ _ _ _ (by decide)]; exact d2
  · simp only [World.frozen?_setCell]; exact h.f0
  · simp only [World.frozen?_setCell]; exact h.f1
  · simp only [World.frozen?_setCell]; exact h.f2
  · simp only [World.frozen?_setCell]; exact h.f3
  · simp only [size_set]; exact h.z
theorem block_set4 {u u' : World} {b : Nat} {y0 y1 y2 y3 : Value} (hu : u' = (((u.setCell ⟨b, 0, none⟩ y0).setCell ⟨b, 1, none⟩ y1).setCell ⟨b, 2, none⟩ y2).setCell ⟨b, 3, none⟩ y3) : u'.heap.size = u.heap.size ∧ ∀ c, c ≠ b → u'.heap[c]? = u.heap[c]? := by
  subst hu
  refine ⟨by simp only [size_set], fun c hc => ?_⟩
  rw [Below.heap_setCell _ _ _ _ hc, Below.heap_setCell _ _ _ _ hc, Below.heap_setCell _ _ _ _ hc, Below.heap_setCell _ _ _ _ hc]

/-- A call of the document's answers a ring and a code. -/
def RefAns (Q : Nat → Prop) (w : World) (f : RS) (c : Int) (e : Ending) (w' : World) : Prop := ∃ x, e = .returned (.tuple #[x, .int .i64 c]) ∧ RefNew Q w f x w'
variable {Q : Nat → Prop} {w : World} {p : Where} {f : RS} {V : Nat → Value}
theorem RefAns.same {c : Int} {w' : World} {e : Ending} (h : RefIs Q w p f V) (he : e = .returned (.tuple #[(.agg #[.slice (some ⟨(p).b1, (p).o1, none⟩) 32 (p).k1, .slice (some ⟨(p).b2, (p).o2, none⟩) 32 (p).k2, .slice (some ⟨(p).b3, (p).o3, none⟩) 32 (p).k3, .slice (some ⟨(p).b4, (p).o4, none⟩) 32 (p).k4]), .int .i64 c])) (hb : RowKit.Below w.heap.size w w') : RefAns Q w f c e w' := ⟨_, he, RefNew.old h hb⟩
set_option maxRecDepth 100000 in
set_option maxHeartbeats 8000000 in
theorem rstab_no (h : RefIs Q w p f V) (hd : Dom f) (n : Int) (hl : livesR f n = false) : Calls Tryz.prog 61 #[(.agg #[.slice (some ⟨(p).b1, (p).o1, none⟩) 32 (p).k1, .slice (some ⟨(p).b2, (p).o2, none⟩) 32 (p).k2, .slice (some ⟨(p).b3, (p).o3, none⟩) 32 (p).k3, .slice (some ⟨(p).b4, (p).o4, none⟩) 32 (p).k4]), .int .i64 n] w (RefAns Q w f 6) := by
  have H := Lib.hid h
  have cl := Lib.hid fun (wr : World) (hb : RowKit.Below w.heap.size w wr) => rlives_any (h.rows.below hb) hd n
  rw [hl] at cl
  have HP : Hid (∀ w', RowKit.Below w.heap.size w w' → RefAns Q w f 6 (.returned (.tuple #[(.agg #[.slice (some ⟨(p).b1, (p).o1, none⟩) 32 (p).k1, .slice (some ⟨(p).b2, (p).o2, none⟩) 32 (p).k2, .slice (some ⟨(p).b3, (p).o3, none⟩) 32 (p).k3, .slice (some ⟨(p).b4, (p).o4, none⟩) 32 (p).k4]), .int .i64 6])) w') := fun w' hb => RefAns.same h rfl hb
  clear h hd
  go_enter Tryz.func61, Tryz.ntmps61
  go_upto_region 1 with (fail)
  obtain ⟨w0, hw0⟩ : ∃ z, z = (w.alloc (.cells #[.slice (some ⟨p.b1, p.o1, none⟩) 32 p.k1, .slice (some ⟨p.b2, p.o2, none⟩) 32 p.k2, .slice (some ⟨p.b3, p.o3, none⟩) 32 p.k3, .slice (some ⟨p.b4, p.o4, none⟩) 32 p.k4] 33)).alloc (.cells #[.slice none 0 0, .slice none 0 0, .slice none 0 0, .slice none 0 0] 33) := ⟨_, rfl⟩
  have B0 : Hid (RowKit.Below w.heap.size w w0) := by rw [hw0]; exact bel_alloc (bel_alloc (RowKit.Below.refl _ _) _) _
  have P0 : Hid (BoxOf w0 w.heap.size p) := by rw [hw0]; exact ⟨by simp [go_sem], by simp [go_sem], by simp [go_sem], by simp [go_sem], by simp [go_sem], by simp [go_sem], by simp [go_sem], by simp [go_sem], by simp; omega⟩
  have R0 : Hid (BoxNil w0 (w.heap.size + 1)) := by rw [hw0]; exact ⟨by simp [go_sem], by simp [go_sem], by simp [go_sem], by simp [go_sem], by simp [go_sem], by simp [go_sem], by simp [go_sem], by simp [go_sem], by simp⟩
  rw [← hw0]
  clear hw0
  have c0 := (P0).out.c0
  have c1 := (P0).out.c1
  have c2 := (P0).out.c2
  have c3 := (P0).out.c3
  have pf0 := (P0).out.f0
  have pf1 := (P0).out.f1
  have pf2 := (P0).out.f2
  have pf3 := (P0).out.f3
  have zp := (P0).out.z
  have r0 := (R0).out.c0
  have r1 := (R0).out.c1
  have r2 := (R0).out.c2
  have r3 := (R0).out.c3
  have rf0 := (R0).out.f0
  have rf1 := (R0).out.f1
  have rf2 := (R0).out.f2
  have rf3 := (R0).out.f3
  have zr := (R0).out.z
  go_wp2_with fail
  refine (cl.out _ B0.out).mono ?_
  rintro e w1 ⟨rfl, hb⟩
  have P1 := Lib.hid (P0.out.later hb)
  have R1 := Lib.hid (R0.out.later hb)
  have B1 := Lib.hid (bel_below B0.out hb)
  clear c0 c1 c2 c3 pf0 pf1 pf2 pf3 zp r0 r1 r2 r3 rf0 rf1 rf2 rf3 zr
  have c0 := (P1).out.c0
  have c1 := (P1).out.c1
  have c2 := (P1).out.c2
  have c3 := (P1).out.c3
  have pf0 := (P1).out.f0
  have pf1 := (P1).out.f1
  have pf2 := (P1).out.f2
  have pf3 := (P1).out.f3
  have zp := (P1).out.z
  have r0 := (R1).out.c0
  have r1 := (R1).out.c1
  have r2 := (R1).out.c2
  have r3 := (R1).out.c3
  have rf0 := (R1).out.f0
  have rf1 := (R1).out.f1
  have rf2 := (R1).out.f2
  have rf3 := (R1).out.f3
  have zr := (R1).out.z
  have hB := B1.out
  go_wp2_with fail
  refine bodyPost_ret (v := .tuple #[(.agg #[.slice (some ⟨(p).b1, (p).o1, none⟩) 32 (p).k1, .slice (some ⟨(p).b2, (p).o2, none⟩) 32 (p).k2, .slice (some ⟨(p).b3, (p).o3, none⟩) 32 (p).k3, .slice (some ⟨(p).b4, (p).o4, none⟩) 32 (p).k4]), .int .i64 6]) ?_ rfl ?_
  · simp [results, Tryz.results61, go_sem, r0, r1, r2, r3]
  exact HP.out _ (by (repeat (first | exact Below.refl _ _ | (with_reducible assumption) | (with_reducible refine bel_later ?_ _) | (with_reducible refine bel_alloc ?_ _) | (with_reducible refine bel_drew ?_) | (with_reducible refine bel_drewN ?_ _) | (with_reducible refine bel_set ?_ (by first | (simp; done) | (simp; omega) | (dsimp only; omega)) _))))

/-! Writes into the peers' row. -/
theorem RefLists.one {Q : Nat → Prop} {w : World} {f : RS} {V : Nat → Value} (h : RefLists Q w f V) (k : Nat) (hk : k < 32) : (V k).oneCell' = true := by
  obtain ⟨a, c, e, _⟩ := (h k hk).slice
  rw [e]; rfl
theorem RefRows.putList {m : Nat} {u : World} (h : RefRows Q u p f V) {b : Nat} (F : FreshRows b u p) (hm : m < 32) (v : Value) (f' : RS) (h1 : ∀ k, (f' k).isSome = (f k).isSome) (h2 : ∀ k, livesR f' k = livesR f k) (h3 : ∀ k, idR f' k = idR f k) (h4 : ∀ k, predR f' k = predR f k) :
    RefRows Q (u.setCell ⟨p.b4, p.o4 + m * 3 + 2, none⟩ v) p f' (fun k => if k = m then v else V k) where
  used := (h.used.other _ _ F.n14.symm _).congr fun j _ => by rw [h1]
  live := (h.live.other _ _ F.n24.symm _).congr fun j _ => by rw [h2]
  ids := (h.ids.other _ _ F.n34.symm _).congr fun j _ => by rw [h3]
  peers := by
    rw [Nat.add_assoc]
    refine (h.peers.set (j := m * 3 + 2) (by omega) v).congr fun j hj => ?_
    unfold peerC
    rw [h3, h4]
    split
    · rename_i e; subst e
      rw [if_neg (by omega), if_neg (by omega)]
      show v = if (m * 3 + 2) / 3 = m then v else V ((m * 3 + 2) / 3)
      rw [if_pos (by omega)]
    · rename_i e
      split
      · rfl
      · split
        · rfl
        · show V (j / 3) = if j / 3 = m then v else V (j / 3)
          rw [if_neg (by omega)]
theorem RefRows.putPeer {m : Nat} {u : World} (h : RefRows Q u p f V) {b : Nat} (F : FreshRows b u p) (hm : m < 32) (id r : Int) (v : Value) (f' : RS) (h1 : ∀ k, (f' k).isSome = (f k).isSome) (h2 : ∀ k, livesR f' k = livesR f k) (h3 : ∀ k, idR f' k = idR f k)
    (h4 : ∀ k, predR f' k = if k = m then r else predR f k) (hid : id = idR f m) (hv : v = V m) :
    RefRows Q (((u.setCell ⟨p.b4, p.o4 + m * 3, none⟩ (.int .u64 id)).setCell ⟨p.b4, p.o4 + m * 3 + 1, none⟩ (.int .i64 r)).setCell ⟨p.b4, p.o4 + m * 3 + 2, none⟩ v) p f' V where
  used := (((h.used.other _ _ F.n14.symm _).other _ _ F.n14.symm _).other _ _ F.n14.symm _).congr fun j _ => by rw [h1]
  live := (((h.live.other _ _ F.n24.symm _).other _ _ F.n24.symm _).other _ _ F.n24.symm _).congr fun j _ => by rw [h2]
  ids := (((h.ids.other _ _ F.n34.symm _).other _ _ F.n34.symm _).other _ _ F.n34.symm _).congr fun j _ => by rw [h3]
  peers := by
    rw [Nat.add_assoc, Nat.add_assoc]
    refine (((h.peers.set (j := m * 3) (by omega) _).set (j := m * 3 + 1) (by omega) _).set (j := m * 3 + 2) (by omega) v).congr fun j hj => ?_
    subst hid hv
    unfold peerC
    rw [h3, h4]
    by_cases e2 : j = m * 3 + 2
    · subst e2
      rw [if_pos rfl, if_neg (by omega), if_neg (by omega), show (m * 3 + 2) / 3 = m by omega]
    · rw [if_neg e2]
      by_cases e1 : j = m * 3 + 1
      · subst e1
        rw [if_pos rfl, if_neg (by omega), if_pos (by omega), show (m * 3 + 1) / 3 = m by omega, if_pos rfl]
      · rw [if_neg e1]
        by_cases e0 : j = m * 3
        · subst e0
          rw [if_pos rfl, if_pos (by omega), show m * 3 / 3 = m by omega]
        · rw [if_neg e0]
          split
          · rfl
          · split
            · rw [if_neg (by omega)]
            · rfl

theorem slIn_of {Q Q' : Nat → Prop} {l : List Int} {w w' : World} {v : Value} (h : SlIn Q l w v) (B : Nat) (hB : ∀ b, Q b → b < w.heap.size → b < B) (hs : w.heap.size ≤ w'.heap.size) (hb : ∀ b, b < B → w'.heap[b]? = w.heap[b]?) (hQ : ∀ b, Q b → Q' b) : SlIn Q' l w' v :=
  h.imp (fun b _ hq => hQ b hq) hs fun b hb' hq => hb b (hB b hq hb')
theorem SlIn.len {Q : Nat → Prop} {l : List Int} {w : World} {v : Value} (h : SlIn Q l w v) : ∃ a cap, v = .slice a l.length cap := by obtain ⟨a, cap, rfl, _⟩ := h; exact ⟨a, cap, rfl⟩
theorem dom_len {f : RS} (h : Dom f) (n : Int) : (succR f n).length ≤ 3 ∧ ∀ x ∈ succR f n, 0 ≤ x ∧ x < 32 := by
  unfold succR
  cases e : f n with
  | none => simp
  | some m => have := h n m e; exact ⟨this.2.2.2.1, this.2.2.2.2.2⟩
theorem dom_pred_of {f : RS} (h : Dom f) (n : Int) : -1 ≤ predR f n ∧ predR f n < 32 := by
  unfold predR
  cases e : f n with
  | none => simp
  | some m => have := h n m e; exact this.2.2.2.2.1
theorem isSome_stabR {f : RS} {n : Int} (h1 : (f n).isSome = true) (h2 : (f (stabT f n)).isSome = true) (k : Int) : (stab1 f n k).isSome = (f k).isSome ∧ (stabR f n k).isSome = (f k).isSome := by
  have e1 : ∀ k, (stab1 f n k).isSome = (f k).isSome := fun k => by
    unfold stab1; rw [isSome_set]; split
    · rename_i e; rw [e, h1]
    · rfl
  refine ⟨e1 k, ?_⟩
  unfold stabR; rw [isSome_set]; split
  · rename_i e; rw [e, h2]
  · exact e1 k
/-- What the first half of a look leaves. -/
theorem succR_stab1 {f : RS} {n t : Int} (ht : stabT f n = t) (k : Int) : succR (stab1 f n) k = if k = n then followL t (succR f t) else succR f k := by
  unfold stab1; rw [succR_set, ht]
theorem predR_stab1 (f : RS) (n k : Int) : predR (stab1 f n) k = predR f k := by
  unfold stab1; rw [predR_set]; split
  · rename_i e; rw [e]
  · rfl
theorem dom_stab1 {f : RS} (hd : Dom f) {n t : Int} (hl : livesR f n = true) (ht : stabT f n = t) (ht2 : 0 ≤ t ∧ t < 32) : Dom (stab1 f n) := by
  obtain ⟨m, hm, hml⟩ := livesR_some hl
  have e : stab1 f n = setM f n ⟨m.live, m.id, m.pred, followL t (succR f t)⟩ := by
    unfold stab1 livesR idR predR; rw [hm, ht]
  rw [e]
  exact dom_succ hd hm (follow_len _ _) (follow_mem ht2 (dom_len hd t).2)
theorem predR_stabR {f : RS} {n t : Int} (ht : stabT f n = t) (k : Int) : predR (stabR f n) k = if k = t then rectR f (idR f t) (predR f t) n else predR (stab1 f n) k := by
  unfold stabR; rw [predR_set, ht]
theorem succR_stabR (f : RS) (n k : Int) : succR (stabR f n) k = succR (stab1 f n) k := by
  unfold stabR; rw [succR_set]; split
  · rename_i e; rw [e]
  · rfl
set_option maxRecDepth 100000 in
set_option maxHeartbeats 8000000 in
theorem rstab_yes (h : RefIs Q w p f V) (hd : Dom f) (hh : Heads f) (n : Int) (hl : livesR f n = true) : Calls Tryz.prog 61 #[(.agg #[.slice (some ⟨(p).b1, (p).o1, none⟩) 32 (p).k1, .slice (some ⟨(p).b2, (p).o2, none⟩) 32 (p).k2, .slice (some ⟨(p).b3, (p).o3, none⟩) 32 (p).k3, .slice (some ⟨(p).b4, (p).o4, none⟩) 32 (p).k4]), .int .i64 n] w (RefAns Q w (stabR f n) 0) := by
  have H := Lib.hid h
  have HD := Lib.hid hd
  have cl := Lib.hid fun (wr : World) (hb : RowKit.Below w.heap.size w wr) => rlives_any (h.rows.below hb) hd n
  have CC := Lib.hid fun (wr : World) (hb : RowKit.Below w.heap.size w wr) => rcopy_any (h.rows.below hb) fun k hk => h.list.one k hk
  rw [hl] at cl
  have hl2 := hh n hl
  have hn := livesR_dom hd hl
  have hs0 := livesR_dom hd hl2
  obtain ⟨m, rfl⟩ : ∃ m : Nat, n = m := ⟨n.toNat, by omega⟩
  obtain ⟨s, hs⟩ : ∃ s : Nat, headR f m = s := ⟨(headR f m).toNat, by omega⟩
  rw [hs] at hs0 hl2
  have hm1 : m < 32 := by omega
  have hs1 : s < 32 := by omega
  have HS := Lib.hid hs
  have HL := Lib.hid hl
  have HL2 := Lib.hid hl2
  clear h hd hh hn hs0 hs hl hl2
  go_enter Tryz.func61, Tryz.ntmps61
  go_upto_region 1 with (fail)
  obtain ⟨w0, hw0⟩ : ∃ z, z = (w.alloc (.cells #[.slice (some ⟨p.b1, p.o1, none⟩) 32 p.k1, .slice (some ⟨p.b2, p.o2, none⟩) 32 p.k2, .slice (some ⟨p.b3, p.o3, none⟩) 32 p.k3, .slice (some ⟨p.b4, p.o4, none⟩) 32 p.k4] 33)).alloc (.cells #[.slice none 0 0, .slice none 0 0, .slice none 0 0, .slice none 0 0] 33) := ⟨_, rfl⟩
  have B0 : Hid (RowKit.Below w.heap.size w w0) := by rw [hw0]; exact bel_alloc (bel_alloc (RowKit.Below.refl _ _) _) _
  have P0 : Hid (BoxOf w0 w.heap.size p) := by rw [hw0]; exact ⟨by simp [go_sem], by simp [go_sem], by simp [go_sem], by simp [go_sem], by simp [go_sem], by simp [go_sem], by simp [go_sem], by simp [go_sem], by simp; omega⟩
  have R0 : Hid (BoxNil w0 (w.heap.size + 1)) := by rw [hw0]; exact ⟨by simp [go_sem], by simp [go_sem], by simp [go_sem], by simp [go_sem], by simp [go_sem], by simp [go_sem], by simp [go_sem], by simp [go_sem], by simp⟩
  rw [← hw0]
  clear hw0
  have c0 := (P0).out.c0
  have c1 := (P0).out.c1
  have c2 := (P0).out.c2
  have c3 := (P0).out.c3
  have pf0 := (P0).out.f0
  have pf1 := (P0).out.f1
  have pf2 := (P0).out.f2
  have pf3 := (P0).out.f3
  have zp := (P0).out.z
  have r0 := (R0).out.c0
  have r1 := (R0).out.c1
  have r2 := (R0).out.c2
  have r3 := (R0).out.c3
  have rf0 := (R0).out.f0
  have rf1 := (R0).out.f1
  have rf2 := (R0).out.f2
  have rf3 := (R0).out.f3
  have zr := (R0).out.z
  go_wp2_with fail
  refine (cl.out _ B0.out).mono ?_
  rintro e w1 ⟨rfl, hb⟩
  have P1 := Lib.hid (P0.out.later hb)
  have R1 := Lib.hid (R0.out.later hb)
  have B1 := Lib.hid (bel_below B0.out hb)
  clear hb P0 R0
  clear c0 c1 c2 c3 pf0 pf1 pf2 pf3 zp r0 r1 r2 r3 rf0 rf1 rf2 rf3 zr
  have c0 := (P1).out.c0
  have c1 := (P1).out.c1
  have c2 := (P1).out.c2
  have c3 := (P1).out.c3
  have pf0 := (P1).out.f0
  have pf1 := (P1).out.f1
  have pf2 := (P1).out.f2
  have pf3 := (P1).out.f3
  have zp := (P1).out.z
  have r0 := (R1).out.c0
  have r1 := (R1).out.c1
  have r2 := (R1).out.c2
  have r3 := (R1).out.c3
  have rf0 := (R1).out.f0
  have rf1 := (R1).out.f1
  have rf2 := (R1).out.f2
  have rf3 := (R1).out.f3
  have zr := (R1).out.z
  go_wp2_with fail
  refine (CC.out _ B1.out).mono ?_
  rintro e w2 ⟨p', rfl, hrows, hfr, hb⟩
  have P2 := Lib.hid (P1.out.later hb)
  have R2 := Lib.hid (R1.out.later hb)
  have B2 := Lib.hid (bel_below B1.out hb)
  have hz12 := hb.size
  have hz1 : w.heap.size + 1 < w1.heap.size := R1.out.z
  clear c0 c1 c2 c3 pf0 pf1 pf2 pf3 zp r0 r1 r2 r3 rf0 rf1 rf2 rf3 zr
  clear hb P1 R1
  have c0 := (P2).out.c0
  have c1 := (P2).out.c1
  have c2 := (P2).out.c2
  have c3 := (P2).out.c3
  have pf0 := (P2).out.f0
  have pf1 := (P2).out.f1
  have pf2 := (P2).out.f2
  have pf3 := (P2).out.f3
  have zp := (P2).out.z
  have r0 := (R2).out.c0
  have r1 := (R2).out.c1
  have r2 := (R2).out.c2
  have r3 := (R2).out.c3
  have rf0 := (R2).out.f0
  have rf1 := (R2).out.f1
  have rf2 := (R2).out.f2
  have rf3 := (R2).out.f3
  have zr := (R2).out.z
  go_upto_region 4 with (fail)
  obtain ⟨w3, hw3⟩ : ∃ z, z = (((w2.setCell ⟨w.heap.size, 0, none⟩ (.slice (some ⟨p'.b1, p'.o1, none⟩) 32 p'.k1)).setCell ⟨w.heap.size, 1, none⟩ (.slice (some ⟨p'.b2, p'.o2, none⟩) 32 p'.k2)).setCell ⟨w.heap.size, 2, none⟩ (.slice (some ⟨p'.b3, p'.o3, none⟩) 32 p'.k3)).setCell ⟨w.heap.size, 3, none⟩ (.slice (some ⟨p'.b4, p'.o4, none⟩) 32 p'.k4) := ⟨_, rfl⟩
  obtain ⟨hz3, hk3⟩ := block_set4 hw3
  have P3 : Hid (BoxOf w3 w.heap.size p') := P2.out.store _ _ _ _ hw3
  have R3 : Hid (BoxNil w3 (w.heap.size + 1)) := R2.out.block (by omega) (hk3 _ (by omega))
  have ROW : Hid (RefRows (fun b => w1.heap.size ≤ b) w3 p' f V) := hrows.same (fun _ _ h => h) (by omega) fun b _ hq => hk3 b (by omega)
  have FR : Hid (FreshRows w1.heap.size w3 p') := hfr.same (hk3 _ (by have := hfr.m1; omega)) (hk3 _ (by have := hfr.m2; omega)) (hk3 _ (by have := hfr.m3; omega)) (hk3 _ (by have := hfr.m4; omega))
  have B3 : Hid (RowKit.Below w.heap.size w w3) := by
    have hB := B2.out
    show RowKit.Below _ _ _
    rw [hw3]
    (repeat (first | exact Below.refl _ _ | (with_reducible assumption) | (with_reducible refine bel_later ?_ _) | (with_reducible refine bel_alloc ?_ _) | (with_reducible refine bel_drew ?_) | (with_reducible refine bel_drewN ?_ _) | (with_reducible refine bel_set ?_ (by first | (simp; done) | (simp; omega) | (dsimp only; omega)) _)))
  rw [← hw3]
  clear c0 c1 c2 c3 pf0 pf1 pf2 pf3 zp r0 r1 r2 r3 rf0 rf1 rf2 rf3 zr
  clear hw3 hk3 P2 R2 B2 hrows hfr hz3 hz12 B1 B0 CC cl
  have c0 := (P3).out.c0
  have c1 := (P3).out.c1
  have c2 := (P3).out.c2
  have c3 := (P3).out.c3
  have pf0 := (P3).out.f0
  have pf1 := (P3).out.f1
  have pf2 := (P3).out.f2
  have pf3 := (P3).out.f3
  have zp := (P3).out.z
  have r0 := (R3).out.c0
  have r1 := (R3).out.c1
  have r2 := (R3).out.c2
  have r3 := (R3).out.c3
  have rf0 := (R3).out.f0
  have rf1 := (R3).out.f1
  have rf2 := (R3).out.f2
  have rf3 := (R3).out.f3
  have zr := (R3).out.z
  obtain ⟨cid, cpr, cls⟩ := ROW.out.at_peer hm1
  have zb := ROW.out.peers.z
  have LO : Hid (RefLists (fun b => Q b ∧ b < w.heap.size) w3 f V) := H.out.list.same (fun b hb hq => ⟨hq, hb⟩) B3.out.size fun b hb _ => B3.out.block b hb
  have CH := Lib.hid fun (wr : World) (hb : RowKit.Below w3.heap.size w3 wr) => rhead_any (ROW.out.below hb) HD.out (succR f m) (by have := (dom_len HD.out m).1; omega) (V m) ((LO.out m hm1).slAt.below hb) (idR f m) (predR f m)
  have eh : headL f (succR f m) = s := HS.out
  rw [eh] at CH
  clear eh
  go_wp2_with fail
  refine wp_region_calm (by kernel_rfl) (by kernel_rfl) ?_
  repeat (first | (go_big_quiet_step ((go_at_call 64; exact calls_calm (CH.out _ (by (repeat (first | exact Below.refl _ _ | (with_reducible assumption) | (with_reducible refine bel_later ?_ _) | (with_reducible refine bel_alloc ?_ _) | (with_reducible refine bel_drew ?_) | (with_reducible refine bel_drewN ?_ _) | (with_reducible refine bel_set ?_ (by first | (simp; done) | (simp; omega) | (dsimp only; omega)) _)))))))) | (refine wpQuiet_step (fun K hK => ?_); go_simp; first | (refine hK _ ?_; clear hK K) | (apply Exists.intro; refine ⟨fun _ => ?_, hK _ ?_⟩; (go_at_call 64; exact calls_calm (CH.out _ (by (repeat (first | exact Below.refl _ _ | (with_reducible assumption) | (with_reducible refine bel_later ?_ _) | (with_reducible refine bel_alloc ?_ _) | (with_reducible refine bel_drew ?_) | (with_reducible refine bel_drewN ?_ _) | (with_reducible refine bel_set ?_ (by first | (simp; done) | (simp; omega) | (dsimp only; omega)) _)))))); clear hK K)))
  refine wpQuiet_nil ?_
  intro _ hw'
  obtain ⟨xq, hw''⟩ := hw'
  subst hw''
  obtain ⟨w4, hB4⟩ := xq
  have P4 := Lib.hid (P3.out.later hB4)
  have R4 := Lib.hid (R3.out.later hB4)
  have ROW4 := Lib.hid (ROW.out.below hB4)
  have FR4 := Lib.hid (FR.out.below ROW.out hB4)
  have LO4 := Lib.hid (LO.out.below hB4)
  have B4 := Lib.hid (bel_below B3.out hB4)
  clear c0 c1 c2 c3 pf0 pf1 pf2 pf3 zp r0 r1 r2 r3 rf0 rf1 rf2 rf3 zr
  dsimp only
  clear cid cpr cls zb hB4 P3 R3 ROW FR LO B3 CH
  have c0 := (P4).out.c0
  have c1 := (P4).out.c1
  have c2 := (P4).out.c2
  have c3 := (P4).out.c3
  have pf0 := (P4).out.f0
  have pf1 := (P4).out.f1
  have pf2 := (P4).out.f2
  have pf3 := (P4).out.f3
  have zp := (P4).out.z
  have r0 := (R4).out.c0
  have r1 := (R4).out.c1
  have r2 := (R4).out.c2
  have r3 := (R4).out.c3
  have rf0 := (R4).out.f0
  have rf1 := (R4).out.f1
  have rf2 := (R4).out.f2
  have rf3 := (R4).out.f3
  have zr := (R4).out.z
  obtain ⟨cid, cpr, cls⟩ := ROW4.out.at_peer hs1
  obtain ⟨did, dpr, dls⟩ := ROW4.out.at_peer hm1
  have zb := ROW4.out.peers.z
  have CN := Lib.hid fun (wr : World) (hb : RowKit.Below w4.heap.size w4 wr) => rnear_any (ROW4.out.below hb) HD.out (predR f s) (idR f m) s (idR_place HD.out m)
  cases hq : nearR f (predR f s) (idR f m) s
  · have HT : Hid (stabT f m = s) := show stabT f m = s by unfold stabT; rw [HS.out, hq]; rfl
    have HQL := HL2
    have ht1 := hs1
    rw [hq] at CN
    clear hq
    go_wp2_with fail
    refine wp_region_calm (by kernel_rfl) (by kernel_rfl) ?_
    repeat (first | (go_big_quiet_step ((go_at_call 67; exact calls_calm (CN.out _ (by (repeat (first | exact Below.refl _ _ | (with_reducible assumption) | (with_reducible refine bel_later ?_ _) | (with_reducible refine bel_alloc ?_ _) | (with_reducible refine bel_drew ?_) | (with_reducible refine bel_drewN ?_ _) | (with_reducible refine bel_set ?_ (by first | (simp; done) | (simp; omega) | (dsimp only; omega)) _)))))))) | (refine wpQuiet_step (fun K hK => ?_); go_simp; first | (refine hK _ ?_; clear hK K) | (apply Exists.intro; refine ⟨fun _ => ?_, hK _ ?_⟩; (go_at_call 67; exact calls_calm (CN.out _ (by (repeat (first | exact Below.refl _ _ | (with_reducible assumption) | (with_reducible refine bel_later ?_ _) | (with_reducible refine bel_alloc ?_ _) | (with_reducible refine bel_drew ?_) | (with_reducible refine bel_drewN ?_ _) | (with_reducible refine bel_set ?_ (by first | (simp; done) | (simp; omega) | (dsimp only; omega)) _)))))); clear hK K)))
    refine wpQuiet_nil ?_
    intro _ hw'
    obtain ⟨xq, hw''⟩ := hw'
    subst hw''
    obtain ⟨w5, hB5⟩ := xq
    have P5 := Lib.hid (P4.out.later hB5)
    have R5 := Lib.hid (R4.out.later hB5)
    have ROW5 := Lib.hid (ROW4.out.below hB5)
    have FR5 := Lib.hid (FR4.out.below ROW4.out hB5)
    have LO5 := Lib.hid (LO4.out.below hB5)
    have B5 := Lib.hid (bel_below B4.out hB5)
    clear c0 c1 c2 c3 pf0 pf1 pf2 pf3 zp r0 r1 r2 r3 rf0 rf1 rf2 rf3 zr
    dsimp only
    clear cid cpr cls did dpr dls zb hB5 P4 R4 ROW4 FR4 LO4 B4 CN
    have c0 := (P5).out.c0
    have c1 := (P5).out.c1
    have c2 := (P5).out.c2
    have c3 := (P5).out.c3
    have pf0 := (P5).out.f0
    have pf1 := (P5).out.f1
    have pf2 := (P5).out.f2
    have pf3 := (P5).out.f3
    have zp := (P5).out.z
    have r0 := (R5).out.c0
    have r1 := (R5).out.c1
    have r2 := (R5).out.c2
    have r3 := (R5).out.c3
    have rf0 := (R5).out.f0
    have rf1 := (R5).out.f1
    have rf2 := (R5).out.f2
    have rf3 := (R5).out.f3
    have zr := (R5).out.z
    obtain ⟨tid, tpr, tls⟩ := ROW5.out.at_peer ht1
    have zb := ROW5.out.peers.z
    obtain ⟨av, cv, ev⟩ := (LO5.out s ht1).len
    have CF := Lib.hid fun (wr : World) (hb : RowKit.Below w5.heap.size w5 wr) => rfollow_any wr s (idR f s) (predR f s) (V s) (succR f s) ((LO5.out s ht1).slAt.below hb) (by have := (dom_len HD.out s).1; omega)
    rw [ev] at CF
    go_wp2_with fail
    have htI : ((s : Nat) : Int) < 32 := by omega
    have hmI : ((m : Nat) : Int) < 32 := by omega
    refine wp_region_tame 9 12 (fun w' => ∃ x : Later w5, w' = x.world) (by kernel_rfl) (by kernel_rfl) ⟨⟨{ w5 with drawn := w5.drawn + 1 }, (RowKit.Below.refl _ _).drew⟩, rfl⟩ ?_ ?_
    · intro d v c a w h
      cases d <;> exact h
    · simp only [List.take_succ_cons, List.take_zero, List.drop_succ_cons, List.drop_zero]
      repeat (refine wpTame_step (fun K hK => ?_); go_simp; refine hK _ ?_; clear hK K)
      refine wpTame_nil ?_
      refine wpSeqC_step (by decide) (fun R hR => ?_)
      go_wp2_with fail
      refine (CF.out _ (bel_drew (RowKit.Below.refl _ _))).mono ?_
      rintro e w6 ⟨v6, rfl, hs6, hB6⟩
      have B56 : RowKit.Below w5.heap.size w5 w6 := (bel_drew (RowKit.Below.refl _ _)).trans (hB6.mono (by simp))
      obtain ⟨a6, q6, rfl, _⟩ := hs6.slice
      have S6 := Lib.hid (hs6.base (show w5.heap.size ≤ _ by simp))
      clear hs6 hB6
      go_wp2_with fail
      refine hR _ _ ⟨⟨w6, B56⟩, rfl⟩ ?_
      clear hR R
      refine wpSeqC_step (by decide) (fun R hR => ?_)
      go_wp2_with fail
      refine hR _ _ ⟨⟨w6, B56⟩, rfl⟩ ?_
      clear hR R
      refine wpSeqC_step (by decide) (fun R hR => ?_)
      go_wp2_with fail
      refine hR _ _ ⟨⟨w6, B56⟩, rfl⟩ ?_
      clear hR R
      refine wpSeqC_list (by decide) ?_
      have P6 := Lib.hid (P5.out.later B56)
      have R6 := Lib.hid (R5.out.later B56)
      have ROW6 := Lib.hid (ROW5.out.below B56)
      have FR6 := Lib.hid (FR5.out.below ROW5.out B56)
      have LO6 := Lib.hid (LO5.out.below B56)
      have B6 := Lib.hid (bel_below B5.out B56)
      obtain ⟨did, dpr, dls⟩ := ROW6.out.at_peer hm1
      have dfz := FR6.out.f4 (p'.o4 + m * 3 + 2)
      have zb6 := ROW6.out.peers.z
      have hz56 := B56.size
      have zb5 := ROW5.out.peers.z
      clear c0 c1 c2 c3 pf0 pf1 pf2 pf3 zp r0 r1 r2 r3 rf0 rf1 rf2 rf3 zr
      clear tid tpr tls zb P5 R5 ROW5 FR5 LO5 B5 CF ev htI hmI
      go_wp2_with fail
      obtain ⟨w7, hw7⟩ : ∃ z, z = w6.setCell ⟨p'.b4, p'.o4 + m * 3 + 2, none⟩ (.slice a6 (followL s (succR f s)).length q6) := ⟨_, rfl⟩
      obtain ⟨V1, hV1⟩ : ∃ V1 : Nat → Value, V1 = fun k => if k = m then .slice a6 (followL s (succR f s)).length q6 else V k := ⟨_, rfl⟩
      have hbm := FR6.out.m4
      have K7 : ∀ b, b ≠ p'.b4 → w7.heap[b]? = w6.heap[b]? := fun b hb => by rw [hw7]; exact Below.heap_setCell _ _ _ _ hb
      have Z7 : w7.heap.size = w6.heap.size := by rw [hw7]; exact size_set _ _ _
      have P7 : Hid (BoxOf w7 w.heap.size p') := P6.out.block (by omega) (K7 _ (by omega))
      have R7 : Hid (BoxNil w7 (w.heap.size + 1)) := R6.out.block (by omega) (K7 _ (by omega))
      have hsn : (f m).isSome = true := by obtain ⟨_, e, _⟩ := livesR_some HL.out; rw [e]; rfl
      have hst : (f (stabT f m)).isSome = true := by obtain ⟨_, e, _⟩ := livesR_some HQL.out; rw [HT.out, e]; rfl
      have HSO := Lib.hid (fun k => isSome_stabR hsn hst k)
      clear hsn hst
      have ROW7 : Hid (RefRows (fun b => w1.heap.size ≤ b) w7 p' (stab1 f m) V1) := by
        rw [hw7, hV1]
        exact ROW6.out.putList FR6.out hm1 _ (stab1 f m) (fun k => (HSO.out k).1) (livesR_stab1 f m) (idR_stab1 f m) (predR_stab1 f m)
      have FR7 : Hid (FreshRows w1.heap.size w7 p') := by rw [hw7]; exact FR6.out.set _ _
      have B7 : Hid (RowKit.Below w.heap.size w w7) := by rw [hw7]; exact bel_set B6.out (by show w.heap.size ≤ p'.b4; omega) _
      have LV7 : Hid (RefLists (fun b => ((Q b ∧ b < w.heap.size) ∨ w.heap.size ≤ b) ∧ b ≠ p'.b4 ∧ b ≠ w.heap.size + 1) w7 (stab1 f m) V1) := fun k hk => by
        rw [succR_stab1 HT.out]
        by_cases e : k = m
        · subst e
          rw [if_pos rfl, hV1]
          simp only [if_true]
          refine (SlIn.of_slAt (Q := fun b => w5.heap.size ≤ b) S6.out fun _ h => h).imp (fun b _ hb => ⟨Or.inr (by omega), by omega, by omega⟩) (by omega) (fun b _ hb => K7 b (by omega))
        · rw [if_neg (by omega), hV1]
          simp only [if_neg e]
          refine (LO6.out k hk).imp (fun b _ hb => ⟨Or.inl hb, by have := hb.2; omega, by have := hb.2; omega⟩) (by omega) (fun b _ hb => K7 b (by have := hb.2; omega))
      rw [← hw7]
      clear hw7 hV1 P6 R6 ROW6 FR6 LO6 B6 S6 did dpr dls dfz zb6 K7 Z7 hz56 zb5 B56
      have D1 := Lib.hid (dom_stab1 HD.out HL.out HT.out ⟨by omega, by omega⟩)
      have c0 := (P7).out.c0
      have c1 := (P7).out.c1
      have c2 := (P7).out.c2
      have c3 := (P7).out.c3
      have pf0 := (P7).out.f0
      have pf1 := (P7).out.f1
      have pf2 := (P7).out.f2
      have pf3 := (P7).out.f3
      have zp := (P7).out.z
      have r0 := (R7).out.c0
      have r1 := (R7).out.c1
      have r2 := (R7).out.c2
      have r3 := (R7).out.c3
      have rf0 := (R7).out.f0
      have rf1 := (R7).out.f1
      have rf2 := (R7).out.f2
      have rf3 := (R7).out.f3
      have zr := (R7).out.z
      obtain ⟨tid, tpr, tls⟩ := ROW7.out.at_peer ht1
      have zb := ROW7.out.peers.z
      obtain ⟨a7, q7, e7⟩ := (LV7.out s ht1).len
      rw [idR_stab1] at tid
      rw [predR_stab1] at tpr
      rw [e7] at tls
      have E7 := Lib.hid e7
      clear e7
      have tf0 := FR7.out.f4 (p'.o4 + s * 3)
      have tf1 := FR7.out.f4 (p'.o4 + s * 3 + 1)
      have tf2 := FR7.out.f4 (p'.o4 + s * 3 + 2)
      have htI : ((s : Nat) : Int) < 32 := by omega
      have hrc : rectR (stab1 f m) (idR f s) (predR f s) m = rectR f (idR f s) (predR f s) m := rect_congr (livesR_stab1 f m) (idR_stab1 f m) _ _ _
      have CR := Lib.hid fun (wr : World) (hb : RowKit.Below w7.heap.size w7 wr) => rrect_any (ROW7.out.below hb) D1.out (idR f s) (predR f s) m (idR_place HD.out s) a7 (succR (stab1 f m) s).length q7
      rw [hrc] at CR
      clear hrc
      refine wp_region_calm_tail (13) (by kernel_rfl) (by kernel_rfl) ?_
      simp only [List.take_succ_cons, List.take_zero, List.drop_succ_cons, List.drop_zero]
      repeat (first | (go_big_quiet_step ((go_at_call 93; exact calls_calm (CR.out _ (by (repeat (first | exact Below.refl _ _ | (with_reducible assumption) | (with_reducible refine bel_later ?_ _) | (with_reducible refine bel_alloc ?_ _) | (with_reducible refine bel_drew ?_) | (with_reducible refine bel_drewN ?_ _) | (with_reducible refine bel_set ?_ (by first | (simp; done) | (simp; omega) | (dsimp only; omega)) _)))))))) | (refine wpQuiet_step (fun K hK => ?_); go_simp; first | (refine hK _ ?_; clear hK K) | (apply Exists.intro; refine ⟨fun _ => ?_, hK _ ?_⟩; (go_at_call 93; exact calls_calm (CR.out _ (by (repeat (first | exact Below.refl _ _ | (with_reducible assumption) | (with_reducible refine bel_later ?_ _) | (with_reducible refine bel_alloc ?_ _) | (with_reducible refine bel_drew ?_) | (with_reducible refine bel_drewN ?_ _) | (with_reducible refine bel_set ?_ (by first | (simp; done) | (simp; omega) | (dsimp only; omega)) _)))))); clear hK K)))
      refine wpQuiet_nil ?_
      intro _ hw'
      obtain ⟨xq, hw''⟩ := hw'
      subst hw''
      obtain ⟨w8, hB8⟩ := xq
      have P8 := Lib.hid (P7.out.later hB8)
      have R8 := Lib.hid (R7.out.later hB8)
      have ROW8 := Lib.hid (ROW7.out.below hB8)
      have FR8 := Lib.hid (FR7.out.below ROW7.out hB8)
      have LV8 := Lib.hid (LV7.out.below hB8)
      have B8 := Lib.hid (bel_below B7.out hB8)
      clear c0 c1 c2 c3 pf0 pf1 pf2 pf3 zp r0 r1 r2 r3 rf0 rf1 rf2 rf3 zr
      dsimp only
      clear tid tpr tls zb tf0 tf1 tf2 htI hB8 P7 R7 ROW7 FR7 LV7 B7 CR
      obtain ⟨tid, tpr, tls⟩ := ROW8.out.at_peer ht1
      have zb := ROW8.out.peers.z
      rw [idR_stab1] at tid
      rw [predR_stab1] at tpr
      rw [E7.out] at tls
      have tf0 := FR8.out.f4 (p'.o4 + s * 3)
      have tf1 := FR8.out.f4 (p'.o4 + s * 3 + 1)
      have tf2 := FR8.out.f4 (p'.o4 + s * 3 + 2)
      go_upto_region 10 with (fail)
      obtain ⟨w9, hw9⟩ : ∃ z, z = ((w8.setCell ⟨p'.b4, p'.o4 + s * 3, none⟩ (.int .u64 (idR f s))).setCell ⟨p'.b4, p'.o4 + s * 3 + 1, none⟩ (.int .i64 (rectR f (idR f s) (predR f s) m))).setCell ⟨p'.b4, p'.o4 + s * 3 + 2, none⟩ (.slice a7 (succR (stab1 f m) s).length q7) := ⟨_, rfl⟩
      have K9 : ∀ b, b ≠ p'.b4 → w9.heap[b]? = w8.heap[b]? := fun b hb => by rw [hw9, Below.heap_setCell _ _ _ _ hb, Below.heap_setCell _ _ _ _ hb, Below.heap_setCell _ _ _ _ hb]
      have Z9 : w9.heap.size = w8.heap.size := by rw [hw9]; simp only [size_set]
      have P9 : Hid (BoxOf w9 w.heap.size p') := P8.out.block (by omega) (K9 _ (by omega))
      have R9 : Hid (BoxNil w9 (w.heap.size + 1)) := R8.out.block (by omega) (K9 _ (by omega))
      have ROW9 : Hid (RefRows (fun b => w1.heap.size ≤ b) w9 p' (stabR f m) V1) := by
        rw [hw9]
        exact ROW8.out.putPeer FR8.out ht1 _ _ _ (stabR f m) (fun k => (HSO.out k).2.trans (HSO.out k).1.symm) (fun k => (livesR_stab f m k).trans (livesR_stab1 f m k).symm) (fun k => (idR_stab f m k).trans (idR_stab1 f m k).symm) (fun k => predR_stabR HT.out k) (idR_stab1 f m s).symm E7.out.symm
      have LV9 : Hid (RefLists (fun b => ((Q b ∧ b < w.heap.size) ∨ w.heap.size ≤ b) ∧ b ≠ p'.b4 ∧ b ≠ w.heap.size + 1) w9 (stabR f m) V1) := fun k hk => by
        rw [succR_stabR]
        exact (LV8.out k hk).imp (fun b _ h => h) (by omega) (fun b _ h => K9 b h.2.1)
      have B9 : Hid (RowKit.Below w.heap.size w w9) := by
        rw [hw9]
        exact bel_set (bel_set (bel_set B8.out (by show w.heap.size ≤ p'.b4; omega) _) (by show w.heap.size ≤ p'.b4; omega) _) (by show w.heap.size ≤ p'.b4; omega) _
      rw [← hw9]
      clear hw9 K9 Z9 tid tpr tls zb tf0 tf1 tf2 P8 R8 ROW8 FR8 LV8 B8
      have c0 := (P9).out.c0
      have c1 := (P9).out.c1
      have c2 := (P9).out.c2
      have c3 := (P9).out.c3
      have pf0 := (P9).out.f0
      have pf1 := (P9).out.f1
      have pf2 := (P9).out.f2
      have pf3 := (P9).out.f3
      have zp := (P9).out.z
      have r0 := (R9).out.c0
      have r1 := (R9).out.c1
      have r2 := (R9).out.c2
      have r3 := (R9).out.c3
      have rf0 := (R9).out.f0
      have rf1 := (R9).out.f1
      have rf2 := (R9).out.f2
      have rf3 := (R9).out.f3
      have zr := (R9).out.z
      go_wp2_with fail
      refine bodyPost_ret (v := .tuple #[(.agg #[.slice (some ⟨(p').b1, (p').o1, none⟩) 32 (p').k1, .slice (some ⟨(p').b2, (p').o2, none⟩) 32 (p').k2, .slice (some ⟨(p').b3, (p').o3, none⟩) 32 (p').k3, .slice (some ⟨(p').b4, (p').o4, none⟩) 32 (p').k4]), .int .i64 0]) ?_ rfl ?_
      · simp [results, Tryz.results61, go_sem, r0, r1, r2, r3]
      obtain ⟨w10, hw10⟩ : ∃ z, z = (((w9.setCell ⟨w.heap.size + 1, 0, none⟩ (.slice (some ⟨p'.b1, p'.o1, none⟩) 32 p'.k1)).setCell ⟨w.heap.size + 1, 1, none⟩ (.slice (some ⟨p'.b2, p'.o2, none⟩) 32 p'.k2)).setCell ⟨w.heap.size + 1, 2, none⟩ (.slice (some ⟨p'.b3, p'.o3, none⟩) 32 p'.k3)).setCell ⟨w.heap.size + 1, 3, none⟩ (.slice (some ⟨p'.b4, p'.o4, none⟩) 32 p'.k4) := ⟨_, rfl⟩
      obtain ⟨hz10, hk10⟩ := block_set4 hw10
      have hB := B9.out
      have B10 : RowKit.Below w.heap.size w w10 := by rw [hw10]; (repeat (first | exact Below.refl _ _ | (with_reducible assumption) | (with_reducible refine bel_later ?_ _) | (with_reducible refine bel_alloc ?_ _) | (with_reducible refine bel_drew ?_) | (with_reducible refine bel_drewN ?_ _) | (with_reducible refine bel_set ?_ (by first | (simp; done) | (simp; omega) | (dsimp only; omega)) _)))
      rw [← hw10]
      exact ⟨_, rfl, p', V1, rfl, ⟨ROW9.out.same (fun b _ h => Or.inr (by omega)) (by omega) (fun b _ h => hk10 b (by omega)), LV9.out.same (fun b _ h => h.1) (by omega) (fun b _ h => hk10 b h.2.2)⟩, B10⟩
  · have hql : livesR f (predR f s) = true := by
      unfold nearR at hq
      rw [Bool.and_eq_true, Bool.and_eq_true] at hq
      exact hq.1.2
    have hqd := livesR_dom HD.out hql
    have HT : Hid (stabT f m = predR f s) := show stabT f m = predR f s by unfold stabT; rw [HS.out, hq]; rfl
    rw [hq] at CN
    obtain ⟨t, ht⟩ : ∃ t : Nat, predR f s = t := ⟨(predR f s).toNat, by omega⟩
    rw [ht] at HT hqd hql CN cpr
    have ht1 : t < 32 := by omega
    have HQL := Lib.hid hql
    clear hq hqd hql ht
    go_wp2_with fail
    refine wp_region_calm (by kernel_rfl) (by kernel_rfl) ?_
    repeat (first | (go_big_quiet_step ((go_at_call 67; exact calls_calm (CN.out _ (by (repeat (first | exact Below.refl _ _ | (with_reducible assumption) | (with_reducible refine bel_later ?_ _) | (with_reducible refine bel_alloc ?_ _) | (with_reducible refine bel_drew ?_) | (with_reducible refine bel_drewN ?_ _) | (with_reducible refine bel_set ?_ (by first | (simp; done) | (simp; omega) | (dsimp only; omega)) _)))))))) | (refine wpQuiet_step (fun K hK => ?_); go_simp; first | (refine hK _ ?_; clear hK K) | (apply Exists.intro; refine ⟨fun _ => ?_, hK _ ?_⟩; (go_at_call 67; exact calls_calm (CN.out _ (by (repeat (first | exact Below.refl _ _ | (with_reducible assumption) | (with_reducible refine bel_later ?_ _) | (with_reducible refine bel_alloc ?_ _) | (with_reducible refine bel_drew ?_) | (with_reducible refine bel_drewN ?_ _) | (with_reducible refine bel_set ?_ (by first | (simp; done) | (simp; omega) | (dsimp only; omega)) _)))))); clear hK K)))
    refine wpQuiet_nil ?_
    intro _ hw'
    obtain ⟨xq, hw''⟩ := hw'
    subst hw''
    obtain ⟨w5, hB5⟩ := xq
    have P5 := Lib.hid (P4.out.later hB5)
    have R5 := Lib.hid (R4.out.later hB5)
    have ROW5 := Lib.hid (ROW4.out.below hB5)
    have FR5 := Lib.hid (FR4.out.below ROW4.out hB5)
    have LO5 := Lib.hid (LO4.out.below hB5)
    have B5 := Lib.hid (bel_below B4.out hB5)
    clear c0 c1 c2 c3 pf0 pf1 pf2 pf3 zp r0 r1 r2 r3 rf0 rf1 rf2 rf3 zr
    dsimp only
    clear cid cpr cls did dpr dls zb hB5 P4 R4 ROW4 FR4 LO4 B4 CN
    have c0 := (P5).out.c0
    have c1 := (P5).out.c1
    have c2 := (P5).out.c2
    have c3 := (P5).out.c3
    have pf0 := (P5).out.f0
    have pf1 := (P5).out.f1
    have pf2 := (P5).out.f2
    have pf3 := (P5).out.f3
    have zp := (P5).out.z
    have r0 := (R5).out.c0
    have r1 := (R5).out.c1
    have r2 := (R5).out.c2
    have r3 := (R5).out.c3
    have rf0 := (R5).out.f0
    have rf1 := (R5).out.f1
    have rf2 := (R5).out.f2
    have rf3 := (R5).out.f3
    have zr := (R5).out.z
    obtain ⟨tid, tpr, tls⟩ := ROW5.out.at_peer ht1
    have zb := ROW5.out.peers.z
    obtain ⟨av, cv, ev⟩ := (LO5.out t ht1).len
    have CF := Lib.hid fun (wr : World) (hb : RowKit.Below w5.heap.size w5 wr) => rfollow_any wr t (idR f t) (predR f t) (V t) (succR f t) ((LO5.out t ht1).slAt.below hb) (by have := (dom_len HD.out t).1; omega)
    rw [ev] at CF
    go_wp2_with fail
    have htI : ((t : Nat) : Int) < 32 := by omega
    have hmI : ((m : Nat) : Int) < 32 := by omega
    refine wp_region_tame 9 12 (fun w' => ∃ x : Later w5, w' = x.world) (by kernel_rfl) (by kernel_rfl) ⟨⟨{ w5 with drawn := w5.drawn + 1 }, (RowKit.Below.refl _ _).drew⟩, rfl⟩ ?_ ?_
    · intro d v c a w h
      cases d <;> exact h
    · simp only [List.take_succ_cons, List.take_zero, List.drop_succ_cons, List.drop_zero]
      repeat (refine wpTame_step (fun K hK => ?_); go_simp; refine hK _ ?_; clear hK K)
      refine wpTame_nil ?_
      refine wpSeqC_step (by decide) (fun R hR => ?_)
      go_wp2_with fail
      refine (CF.out _ (bel_drew (RowKit.Below.refl _ _))).mono ?_
      rintro e w6 ⟨v6, rfl, hs6, hB6⟩
      have B56 : RowKit.Below w5.heap.size w5 w6 := (bel_drew (RowKit.Below.refl _ _)).trans (hB6.mono (by simp))
      obtain ⟨a6, q6, rfl, _⟩ := hs6.slice
      have S6 := Lib.hid (hs6.base (show w5.heap.size ≤ _ by simp))
      clear hs6 hB6
      go_wp2_with fail
      refine hR _ _ ⟨⟨w6, B56⟩, rfl⟩ ?_
      clear hR R
      refine wpSeqC_step (by decide) (fun R hR => ?_)
      go_wp2_with fail
      refine hR _ _ ⟨⟨w6, B56⟩, rfl⟩ ?_
      clear hR R
      refine wpSeqC_step (by decide) (fun R hR => ?_)
      go_wp2_with fail
      refine hR _ _ ⟨⟨w6, B56⟩, rfl⟩ ?_
      clear hR R
      refine wpSeqC_list (by decide) ?_
      have P6 := Lib.hid (P5.out.later B56)
      have R6 := Lib.hid (R5.out.later B56)
      have ROW6 := Lib.hid (ROW5.out.below B56)
      have FR6 := Lib.hid (FR5.out.below ROW5.out B56)
      have LO6 := Lib.hid (LO5.out.below B56)
      have B6 := Lib.hid (bel_below B5.out B56)
      obtain ⟨did, dpr, dls⟩ := ROW6.out.at_peer hm1
      have dfz := FR6.out.f4 (p'.o4 + m * 3 + 2)
      have zb6 := ROW6.out.peers.z
      have hz56 := B56.size
      have zb5 := ROW5.out.peers.z
      clear c0 c1 c2 c3 pf0 pf1 pf2 pf3 zp r0 r1 r2 r3 rf0 rf1 rf2 rf3 zr
      clear tid tpr tls zb P5 R5 ROW5 FR5 LO5 B5 CF ev htI hmI
      go_wp2_with fail
      obtain ⟨w7, hw7⟩ : ∃ z, z = w6.setCell ⟨p'.b4, p'.o4 + m * 3 + 2, none⟩ (.slice a6 (followL t (succR f t)).length q6) := ⟨_, rfl⟩
      obtain ⟨V1, hV1⟩ : ∃ V1 : Nat → Value, V1 = fun k => if k = m then .slice a6 (followL t (succR f t)).length q6 else V k := ⟨_, rfl⟩
      have hbm := FR6.out.m4
      have K7 : ∀ b, b ≠ p'.b4 → w7.heap[b]? = w6.heap[b]? := fun b hb => by rw [hw7]; exact Below.heap_setCell _ _ _ _ hb
      have Z7 : w7.heap.size = w6.heap.size := by rw [hw7]; exact size_set _ _ _
      have P7 : Hid (BoxOf w7 w.heap.size p') := P6.out.block (by omega) (K7 _ (by omega))
      have R7 : Hid (BoxNil w7 (w.heap.size + 1)) := R6.out.block (by omega) (K7 _ (by omega))
      have hsn : (f m).isSome = true := by obtain ⟨_, e, _⟩ := livesR_some HL.out; rw [e]; rfl
      have hst : (f (stabT f m)).isSome = true := by obtain ⟨_, e, _⟩ := livesR_some HQL.out; rw [HT.out, e]; rfl
      have HSO := Lib.hid (fun k => isSome_stabR hsn hst k)
      clear hsn hst
      have ROW7 : Hid (RefRows (fun b => w1.heap.size ≤ b) w7 p' (stab1 f m) V1) := by
        rw [hw7, hV1]
        exact ROW6.out.putList FR6.out hm1 _ (stab1 f m) (fun k => (HSO.out k).1) (livesR_stab1 f m) (idR_stab1 f m) (predR_stab1 f m)
      have FR7 : Hid (FreshRows w1.heap.size w7 p') := by rw [hw7]; exact FR6.out.set _ _
      have B7 : Hid (RowKit.Below w.heap.size w w7) := by rw [hw7]; exact bel_set B6.out (by show w.heap.size ≤ p'.b4; omega) _
      have LV7 : Hid (RefLists (fun b => ((Q b ∧ b < w.heap.size) ∨ w.heap.size ≤ b) ∧ b ≠ p'.b4 ∧ b ≠ w.heap.size + 1) w7 (stab1 f m) V1) := fun k hk => by
        rw [succR_stab1 HT.out]
        by_cases e : k = m
        · subst e
          rw [if_pos rfl, hV1]
          simp only [if_true]
          refine (SlIn.of_slAt (Q := fun b => w5.heap.size ≤ b) S6.out fun _ h => h).imp (fun b _ hb => ⟨Or.inr (by omega), by omega, by omega⟩) (by omega) (fun b _ hb => K7 b (by omega))
        · rw [if_neg (by omega), hV1]
          simp only [if_neg e]
          refine (LO6.out k hk).imp (fun b _ hb => ⟨Or.inl hb, by have := hb.2; omega, by have := hb.2; omega⟩) (by omega) (fun b _ hb => K7 b (by have := hb.2; omega))
      rw [← hw7]
      clear hw7 hV1 P6 R6 ROW6 FR6 LO6 B6 S6 did dpr dls dfz zb6 K7 Z7 hz56 zb5 B56
      have D1 := Lib.hid (dom_stab1 HD.out HL.out HT.out ⟨by omega, by omega⟩)
      have c0 := (P7).out.c0
      have c1 := (P7).out.c1
      have c2 := (P7).out.c2
      have c3 := (P7).out.c3
      have pf0 := (P7).out.f0
      have pf1 := (P7).out.f1
      have pf2 := (P7).out.f2
      have pf3 := (P7).out.f3
      have zp := (P7).out.z
      have r0 := (R7).out.c0
      have r1 := (R7).out.c1
      have r2 := (R7).out.c2
      have r3 := (R7).out.c3
      have rf0 := (R7).out.f0
      have rf1 := (R7).out.f1
      have rf2 := (R7).out.f2
      have rf3 := (R7).out.f3
      have zr := (R7).out.z
      obtain ⟨tid, tpr, tls⟩ := ROW7.out.at_peer ht1
      have zb := ROW7.out.peers.z
      obtain ⟨a7, q7, e7⟩ := (LV7.out t ht1).len
      rw [idR_stab1] at tid
      rw [predR_stab1] at tpr
      rw [e7] at tls
      have E7 := Lib.hid e7
      clear e7
      have tf0 := FR7.out.f4 (p'.o4 + t * 3)
      have tf1 := FR7.out.f4 (p'.o4 + t * 3 + 1)
      have tf2 := FR7.out.f4 (p'.o4 + t * 3 + 2)
      have htI : ((t : Nat) : Int) < 32 := by omega
      have hrc : rectR (stab1 f m) (idR f t) (predR f t) m = rectR f (idR f t) (predR f t) m := rect_congr (livesR_stab1 f m) (idR_stab1 f m) _ _ _
      have CR := Lib.hid fun (wr : World) (hb : RowKit.Below w7.heap.size w7 wr) => rrect_any (ROW7.out.below hb) D1.out (idR f t) (predR f t) m (idR_place HD.out t) a7 (succR (stab1 f m) t).length q7
      rw [hrc] at CR
      clear hrc
      refine wp_region_calm_tail (13) (by kernel_rfl) (by kernel_rfl) ?_
      simp only [List.take_succ_cons, List.take_zero, List.drop_succ_cons, List.drop_zero]
      repeat (first | (go_big_quiet_step ((go_at_call 93; exact calls_calm (CR.out _ (by (repeat (first | exact Below.refl _ _ | (with_reducible assumption) | (with_reducible refine bel_later ?_ _) | (with_reducible refine bel_alloc ?_ _) | (with_reducible refine bel_drew ?_) | (with_reducible refine bel_drewN ?_ _) | (with_reducible refine bel_set ?_ (by first | (simp; done) | (simp; omega) | (dsimp only; omega)) _)))))))) | (refine wpQuiet_step (fun K hK => ?_); go_simp; first | (refine hK _ ?_; clear hK K) | (apply Exists.intro; refine ⟨fun _ => ?_, hK _ ?_⟩; (go_at_call 93; exact calls_calm (CR.out _ (by (repeat (first | exact Below.refl _ _ | (with_reducible assumption) | (with_reducible refine bel_later ?_ _) | (with_reducible refine bel_alloc ?_ _) | (with_reducible refine bel_drew ?_) | (with_reducible refine bel_drewN ?_ _) | (with_reducible refine bel_set ?_ (by first | (simp; done) | (simp; omega) | (dsimp only; omega)) _)))))); clear hK K)))
      refine wpQuiet_nil ?_
      intro _ hw'
      obtain ⟨xq, hw''⟩ := hw'
      subst hw''
      obtain ⟨w8, hB8⟩ := xq
      have P8 := Lib.hid (P7.out.later hB8)
      have R8 := Lib.hid (R7.out.later hB8)
      have ROW8 := Lib.hid (ROW7.out.below hB8)
      have FR8 := Lib.hid (FR7.out.below ROW7.out hB8)
      have LV8 := Lib.hid (LV7.out.below hB8)
      have B8 := Lib.hid (bel_below B7.out hB8)
      clear c0 c1 c2 c3 pf0 pf1 pf2 pf3 zp r0 r1 r2 r3 rf0 rf1 rf2 rf3 zr
      dsimp only
      clear tid tpr tls zb tf0 tf1 tf2 htI hB8 P7 R7 ROW7 FR7 LV7 B7 CR
      obtain ⟨tid, tpr, tls⟩ := ROW8.out.at_peer ht1
      have zb := ROW8.out.peers.z
      rw [idR_stab1] at tid
      rw [predR_stab1] at tpr
      rw [E7.out] at tls
      have tf0 := FR8.out.f4 (p'.o4 + t * 3)
      have tf1 := FR8.out.f4 (p'.o4 + t * 3 + 1)
      have tf2 := FR8.out.f4 (p'.o4 + t * 3 + 2)
      go_upto_region 10 with (fail)
      obtain ⟨w9, hw9⟩ : ∃ z, z = ((w8.setCell ⟨p'.b4, p'.o4 + t * 3, none⟩ (.int .u64 (idR f t))).setCell ⟨p'.b4, p'.o4 + t * 3 + 1, none⟩ (.int .i64 (rectR f (idR f t) (predR f t) m))).setCell ⟨p'.b4, p'.o4 + t * 3 + 2, none⟩ (.slice a7 (succR (stab1 f m) t).length q7) := ⟨_, rfl⟩
      have K9 : ∀ b, b ≠ p'.b4 → w9.heap[b]? = w8.heap[b]? := fun b hb => by rw [hw9, Below.heap_setCell _ _ _ _ hb, Below.heap_setCell _ _ _ _ hb, Below.heap_setCell _ _ _ _ hb]
      have Z9 : w9.heap.size = w8.heap.size := by rw [hw9]; simp only [size_set]
      have P9 : Hid (BoxOf w9 w.heap.size p') := P8.out.block (by omega) (K9 _ (by omega))
      have R9 : Hid (BoxNil w9 (w.heap.size + 1)) := R8.out.block (by omega) (K9 _ (by omega))
      have ROW9 : Hid (RefRows (fun b => w1.heap.size ≤ b) w9 p' (stabR f m) V1) := by
        rw [hw9]
        exact ROW8.out.putPeer FR8.out ht1 _ _ _ (stabR f m) (fun k => (HSO.out k).2.trans (HSO.out k).1.symm) (fun k => (livesR_stab f m k).trans (livesR_stab1 f m k).symm) (fun k => (idR_stab f m k).trans (idR_stab1 f m k).symm) (fun k => predR_stabR HT.out k) (idR_stab1 f m t).symm E7.out.symm
      have LV9 : Hid (RefLists (fun b => ((Q b ∧ b < w.heap.size) ∨ w.heap.size ≤ b) ∧ b ≠ p'.b4 ∧ b ≠ w.heap.size + 1) w9 (stabR f m) V1) := fun k hk => by
        rw [succR_stabR]
        exact (LV8.out k hk).imp (fun b _ h => h) (by omega) (fun b _ h => K9 b h.2.1)
      have B9 : Hid (RowKit.Below w.heap.size w w9) := by
        rw [hw9]
        exact bel_set (bel_set (bel_set B8.out (by show w.heap.size ≤ p'.b4; omega) _) (by show w.heap.size ≤ p'.b4; omega) _) (by show w.heap.size ≤ p'.b4; omega) _
      rw [← hw9]
      clear hw9 K9 Z9 tid tpr tls zb tf0 tf1 tf2 P8 R8 ROW8 FR8 LV8 B8
      have c0 := (P9).out.c0
      have c1 := (P9).out.c1
      have c2 := (P9).out.c2
      have c3 := (P9).out.c3
      have pf0 := (P9).out.f0
      have pf1 := (P9).out.f1
      have pf2 := (P9).out.f2
      have pf3 := (P9).out.f3
      have zp := (P9).out.z
      have r0 := (R9).out.c0
      have r1 := (R9).out.c1
      have r2 := (R9).out.c2
      have r3 := (R9).out.c3
      have rf0 := (R9).out.f0
      have rf1 := (R9).out.f1
      have rf2 := (R9).out.f2
      have rf3 := (R9).out.f3
      have zr := (R9).out.z
      go_wp2_with fail
      refine bodyPost_ret (v := .tuple #[(.agg #[.slice (some ⟨(p').b1, (p').o1, none⟩) 32 (p').k1, .slice (some ⟨(p').b2, (p').o2, none⟩) 32 (p').k2, .slice (some ⟨(p').b3, (p').o3, none⟩) 32 (p').k3, .slice (some ⟨(p').b4, (p').o4, none⟩) 32 (p').k4]), .int .i64 0]) ?_ rfl ?_
      · simp [results, Tryz.results61, go_sem, r0, r1, r2, r3]
      obtain ⟨w10, hw10⟩ : ∃ z, z = (((w9.setCell ⟨w.heap.size + 1, 0, none⟩ (.slice (some ⟨p'.b1, p'.o1, none⟩) 32 p'.k1)).setCell ⟨w.heap.size + 1, 1, none⟩ (.slice (some ⟨p'.b2, p'.o2, none⟩) 32 p'.k2)).setCell ⟨w.heap.size + 1, 2, none⟩ (.slice (some ⟨p'.b3, p'.o3, none⟩) 32 p'.k3)).setCell ⟨w.heap.size + 1, 3, none⟩ (.slice (some ⟨p'.b4, p'.o4, none⟩) 32 p'.k4) := ⟨_, rfl⟩
      obtain ⟨hz10, hk10⟩ := block_set4 hw10
      have hB := B9.out
      have B10 : RowKit.Below w.heap.size w w10 := by rw [hw10]; (repeat (first | exact Below.refl _ _ | (with_reducible assumption) | (with_reducible refine bel_later ?_ _) | (with_reducible refine bel_alloc ?_ _) | (with_reducible refine bel_drew ?_) | (with_reducible refine bel_drewN ?_ _) | (with_reducible refine bel_set ?_ (by first | (simp; done) | (simp; omega) | (dsimp only; omega)) _)))
      rw [← hw10]
      exact ⟨_, rfl, p', V1, rfl, ⟨ROW9.out.same (fun b _ h => Or.inr (by omega)) (by omega) (fun b _ h => hk10 b (by omega)), LV9.out.same (fun b _ h => h.1) (by omega) (fun b _ h => hk10 b h.2.2)⟩, B10⟩
end Go.Proofs.YtbhaapkafgieiaaGreatDoor
