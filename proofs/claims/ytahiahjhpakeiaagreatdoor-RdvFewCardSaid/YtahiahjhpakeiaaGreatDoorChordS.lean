
/-
  Arguments opened; a ring on which all is as it should be.
  Calls on a ring: what each leaves, as one step; a list of calls, opened.
  Each call on a ring as one step: the code that it answers, the ring that it leaves.
-/
import Derived.Test.YtahiahjhpakeiaaGreatDoorChordQ
import Derived.WideShapes
import Derived.OpenShut
import Derived.Deep.Fields
import Derived.ChangeSame
namespace Go.Proofs.YtahiahjhpakeiaaGreatDoor
open Go.RowKit Go.Maps Go.Sort Go.WideShapes Go.ChangeShapes
set_option linter.unusedVariables false
set_option linter.unusedSimpArgs false
attribute [local go_sem] later_cell later_frozen later_lt cell_set_off cell_set_block

theorem within_self (x b : Int) : withinB x x b = false := by unfold withinB; split <;> simp
theorem setM_self {f : RS} {n : Int} {m : Mem} (h : f n = some m) : setM f n m = f := by
  funext j; unfold setM; split
  · rename_i e; rw [e, h]
  · rfl
theorem atI_add4 (ids s : List Int) (t : Int) : atI ids s (t + 4) = atI ids s t := by
  rw [atI_mod ids s (t + 4), atI_mod ids s t]; congr 2; omega
/-- A base member that looks learns nothing. -/
theorem stab_quiet {ids s : List Int} (h : Four ids s) {n : Int} (hn : livesR (newF ids s 4) n = true) : stabR (newF ids s 4) n = newF ids s 4 := by
  obtain ⟨h0, h4⟩ := (h.lives_iff n).1 hn
  obtain ⟨j, hj, rfl, _⟩ := h.onto h0 h4
  have eT : stabT (newF ids s 4) (atI ids s j) = atI ids s (j + 1) := by
    unfold stabT
    rw [h.head_at, h.pred_at, show (j : Int) + 1 - 1 = j by omega]
    unfold nearR
    rw [within_self, Bool.and_false]
    rfl
  have e1 : stab1 (newF ids s 4) (atI ids s j) = newF ids s 4 := by
    unfold stab1
    refine setM_self ?_
    rw [eT, h.succ_at, h.lives_at]
    unfold idR predR
    rw [h.mk_at]
    have hs := h.succ_at (j : Int)
    unfold succR at hs
    rw [h.mk_at] at hs
    have e4 := atI_add4 ids s j
    rw [show (j : Int) + 1 + 1 = j + 2 by omega, show (j : Int) + 1 + 2 = j + 3 by omega, show (j : Int) + 1 + 3 = j + 4 by omega]
    show some _ = some (Mem.mk _ _ _ _)
    unfold followL
    simp only [List.take_succ_cons, List.take_zero]
    rw [← hs]
    rfl
  unfold stabR
  rw [e1, eT]
  refine setM_self ?_
  rw [h.pred_at, show (j : Int) + 1 - 1 = j by omega]
  have hr : rectR (newF ids s 4) (idR (newF ids s 4) (atI ids s (j + 1))) (atI ids s j) (atI ids s j) = atI ids s j := by
    unfold rectR; rw [ite_self]
  rw [hr]
  have hp := h.pred_at ((j : Int) + 1)
  rw [show (j : Int) + 1 - 1 = j by omega] at hp
  rw [← hp]
  unfold livesR idR predR succR
  rw [h.mk_at]
/-- Arguments opened: places, numbers. -/
theorem placeOf {a : Int} (h : (Lit.int .u64 a).wf = true) : isPlace a := by
  simp [Lit.wf, IntKind.min, IntKind.max, IntKind.bits, IntKind.signed] at h; unfold isPlace; omega
theorem cellsId1 : Tryz.prog.cellsOf 43 = 1 := by kernel_rfl
theorem cellsInt1 : Tryz.prog.cellsOf 3 = 1 := by kernel_rfl
set_option maxRecDepth 100000 in
theorem ids_open {H : Type} {enc : TypeId × Value → H} {W : World} {v0 : Value} {d0 : DataW H} {p0 : List MemPlace} {r0 : Reach} {b0 : Nat} (ok0 : Value.okWide Tryz.prog W r0 b0 22 v0) (h0 : DataW.Trod enc Tryz.prog W 0 (fun _ => true) true 22 v0 d0 p0) :
    ∃ l : List Int, SlAt 0 (fun i => .int .u64 (nth l i)) l.length W v0 ∧ ∀ z ∈ l, isPlace z := by
  obtain ⟨a, n, c, rfl⟩ := okWide_slice Tryz.underlying22 ok0
  obtain ⟨fuel, hf⟩ := h0
  obtain ⟨l, hl, hw⟩ := ints_of_trod Tryz.underlying22 cellsId1 Tryz.underlying43 hf
  exact ⟨l, hl, fun z hz => placeOf (hw z hz)⟩
set_option maxRecDepth 100000 in
theorem ints_open {H : Type} {enc : TypeId × Value → H} {W : World} {v0 : Value} {d0 : DataW H} {p0 : List MemPlace} {r0 : Reach} {b0 : Nat} (ok0 : Value.okWide Tryz.prog W r0 b0 36 v0) (h0 : DataW.Trod enc Tryz.prog W 0 (fun _ => true) true 36 v0 d0 p0) :
    ∃ l : List Int, SlAt 0 (fun i => .int .i64 (nth l i)) l.length W v0 ∧ ∀ z ∈ l, okInt z := by
  obtain ⟨a, n, c, rfl⟩ := okWide_slice Tryz.underlying36 ok0
  obtain ⟨fuel, hf⟩ := h0
  obtain ⟨l, hl, hw⟩ := ints_of_trod Tryz.underlying36 cellsInt1 Tryz.underlying3 hf
  exact ⟨l, hl, hw⟩
/-- Who is refused says so at once. -/
def OneYes (W : World) (e : Ending) (W' : World) : Prop := e = .returned (.bool true) ∧ RowKit.Below W.heap.size W W'
end Go.Proofs.YtahiahjhpakeiaaGreatDoor
namespace Go.Proofs.YtahiahjhpakeiaaGreatDoor
open Go.RowKit Go.Maps Go.Sort Go.WideShapes Go.ChangeShapes Go.Deep
set_option linter.unusedVariables false
set_option linter.unusedSimpArgs false
attribute [local go_sem] later_cell later_frozen later_lt cell_set_off cell_set_block

/-! ### A list of calls -/
structure ActD where
  kind : Int
  n : Int
  via : Int
  id : Int
deriving Inhabited
def ActD.cell (a : ActD) : Nat → Value
  | 0 => .int .i64 a.kind
  | 1 => .int .i64 a.n
  | 2 => .int .i64 a.via
  | _ => .int .u64 a.id
structure ActD.ok (a : ActD) : Prop where
  n : okInt a.n
  via : okInt a.via
  id : isPlace a.id
  kind : okInt a.kind
def actAt (l : List ActD) (k : Nat) : ActD := l.getD k default
def ActsAt (l : List ActD) (w : World) (v : Value) : Prop :=
  ∃ (a : Option Addr) (cap : Nat), v = .slice a l.length cap ∧ l.length ≤ cap ∧ cap ≤ maxLen ∧
    (l.length = 0 ∨ ∃ b off : Nat, a = some ⟨b, off, none⟩ ∧ b < w.heap.size ∧ ∀ i, i < l.length → ∀ j, j < 4 → w.cell? ⟨b, off + (i * 4 + j), none⟩ = some ((actAt l i).cell j))
theorem ActsAt.below {l : List ActD} {w w' : World} {v : Value} (h : ActsAt l w v) (hb : RowKit.Below w.heap.size w w') : ActsAt l w' v := by
  obtain ⟨a, cap, rfl, h1, h2, h3⟩ := h
  refine ⟨a, cap, rfl, h1, h2, h3.imp id ?_⟩
  rintro ⟨b, off, rfl, h4, h5⟩
  exact ⟨b, off, rfl, Nat.lt_of_lt_of_le h4 hb.size, fun i hi j hj => (hb.cell (p := ⟨b, off + (i * 4 + j), none⟩) h4).trans (h5 i hi j hj)⟩
theorem ActsAt.slice {l : List ActD} {w : World} {v : Value} (h : ActsAt l w v) : ∃ a cap, v = .slice a l.length cap ∧ l.length ≤ cap ∧ cap ≤ maxLen := by
  obtain ⟨a, cap, rfl, h1, h2, _⟩ := h; exact ⟨a, cap, rfl, h1, h2⟩
theorem ActsAt.at {l : List ActD} {w : World} {a : Option Addr} {cap : Nat} (h : ActsAt l w (.slice a l.length cap)) (k : Nat) (hk : k < l.length) (wr : World) (hB : RowKit.Below w.heap.size w wr) :
    ∃ b off : Nat, a = some ⟨b, off, none⟩ ∧ b < wr.heap.size ∧ wr.cell? ⟨b, off + k * 4, none⟩ = some (.int .i64 (actAt l k).kind) ∧ wr.cell? ⟨b, off + k * 4 + 1, none⟩ = some (.int .i64 (actAt l k).n) ∧
      wr.cell? ⟨b, off + k * 4 + 2, none⟩ = some (.int .i64 (actAt l k).via) ∧ wr.cell? ⟨b, off + k * 4 + 3, none⟩ = some (.int .u64 (actAt l k).id) := by
  obtain ⟨a', cap', e, _, _, h3⟩ := h
  injection e with e1 e2 e3
  subst e1
  obtain ⟨b, off, rfl, h5, h6⟩ := h3.resolve_left (by omega)
  have hc := fun j hj => (hB.cell (p := ⟨b, off + (k * 4 + j), none⟩) h5).trans (h6 k hk j hj)
  exact ⟨b, off, rfl, Nat.lt_of_lt_of_le h5 hB.size, hc 0 (by omega), by rw [Nat.add_assoc]; exact hc 1 (by omega), by rw [Nat.add_assoc]; exact hc 2 (by omega), by rw [Nat.add_assoc]; exact hc 3 (by omega)⟩
section
variable {H : Type} {enc : TypeId × Value → H} {P : Program} {w : World} {base : Nat} {spare : Nat → Bool} {held : Bool}
theorem open_slice_fields {t e : TypeId} {fs : Array Field} {fuel : Nat} {cs : List Value} {x : DataW H × List MemPlace} (ht : P.underlying t = some (.slice e)) (he : P.underlying e = some (.struct fs))
    (hone : oneCellFields P fs = true) (hC : P.cellsOf e = fs.size) (h : DataW.trod enc P w base spare held fuel t cs = some x) :
    (cs = [.slice none 0 0] ∧ x = (.nil, [])) ∨
    ∃ (a : Addr) (len cap m : Nat) (D : Nat → DataW H) (Pl : Nat → List MemPlace), cs = [.slice (some a) len cap] ∧ base ≤ a.block ∧ len ≤ cap ∧ cap ≤ maxLen ∧ m = (if spare a.block then cap else len) ∧
      x = (.slice ((List.range len).map D) ((List.range (m - len)).map fun j => D (len + j)), MemPlace.row a (m * fs.size) ++ (List.range m).flatMap Pl) ∧
      ∀ i, i < m → ∃ (ys : List (DataW H × List MemPlace)) (n : Nat), D i = .agg (ys.map (·.1)) ∧ Pl i = ys.flatMap (·.2) ∧ ys.length = fs.size ∧
        ∀ (j : Nat) (f : Field), fs[j]? = some f → ∃ (v : Value) (y : DataW H × List MemPlace), w.cell? (a.add (i * fs.size + j)) = some v ∧ ys[j]? = some y ∧ DataW.trod enc P w base spare held n f.type [v] = some y := by
  rcases open_slice ht h with h0 | ⟨a, len, cap, m, n, D, Pl, hcs, hb, hl, hm, hmm, hx, hi⟩
  · exact .inl h0
  · refine .inr ⟨a, len, cap, m, D, Pl, hcs, hb, hl, hm, hmm, by rw [hC] at hx; exact hx, fun i him => ?_⟩
    obtain ⟨cs', hc, ht'⟩ := hi i him
    rw [hC] at hc
    obtain ⟨ys, n', hn', hy, hlen, hyl, hf⟩ := DataW.trod_struct he ht'
    obtain ⟨_, hcl, hat⟩ := World.cells?_some hc
    simp only [Prod.mk.injEq] at hy
    refine ⟨ys, n', hy.1, hy.2, hyl, fun j f hj => ?_⟩
    obtain ⟨ho, hk⟩ := hone_of hone j f hj
    have hjl : j < fs.size := (Array.getElem?_eq_some_iff.1 hj).1
    have hcell := hat j hjl
    have hv : cs'[j]? = some (cs'[j]'(by omega)) := List.getElem?_eq_getElem (by omega)
    have h1 := hf j f hj
    rw [ho, hk] at h1
    have hone' : (cs'.drop j).take 1 = [cs'[j]'(by omega)] := by
      rw [List.drop_eq_getElem_cons (by omega)]
      rfl
    rw [hone'] at h1
    have hys : ys[j]? = some (ys[j]'(by omega)) := List.getElem?_eq_getElem (by omega)
    refine ⟨_, _, ?_, hys, h1.trans hys⟩
    rw [← Go.Deep.add_add, hcell, hv]
end
theorem spot_of_cell {w : World} {a : Addr} {v : Value} (h : w.cell? a = some v) : a.spot = none ∧ a.block < w.heap.size := by
  unfold World.cell? at h
  constructor
  · cases hsp : a.spot with
    | none => rfl
    | some s => rw [hsp] at h; simp at h; split at h <;> simp_all
  · rcases Nat.lt_or_ge a.block w.heap.size with h' | h'
    · exact h'
    · rw [Array.getElem?_eq_none h'] at h; simp at h
set_option maxRecDepth 100000 in
theorem acts_open {H : Type} {enc : TypeId × Value → H} {W : World} {v0 : Value} {d0 : DataW H} {p0 : List MemPlace} {r0 : Reach} {b0 : Nat} (ok0 : Value.okWide Tryz.prog W r0 b0 23 v0) (h0 : DataW.Trod enc Tryz.prog W 0 (fun _ => true) true 23 v0 d0 p0) :
    ∃ l : List ActD, ActsAt l W v0 ∧ ∀ k, k < l.length → (actAt l k).ok := by
  obtain ⟨a, n, c, rfl⟩ := okWide_slice Tryz.underlying23 ok0
  obtain ⟨fuel, hf⟩ := h0
  have hu : ∃ f0 f1 f2 f3 : Field, Tryz.prog.underlying 45 = some (.struct #[f0, f1, f2, f3]) ∧ f0.type = 3 ∧ f1.type = 3 ∧ f2.type = 3 ∧ f3.type = 43 ∧ oneCellFields Tryz.prog #[f0, f1, f2, f3] = true := ⟨_, _, _, _, Tryz.underlying45, rfl, rfl, rfl, rfl, by kernel_rfl⟩
  obtain ⟨f0, f1, f2, f3, hu, t0, t1, t2, t3, hone⟩ := hu
  rcases open_slice_fields Tryz.underlying23 hu hone (by kernel_rfl) hf with ⟨hcs, _⟩ | ⟨a', len, cap, m, D, Pl, hcs, _, hl, hm, hmm, _, hV⟩
  · simp [Value.cells] at hcs
    obtain ⟨rfl, rfl, rfl⟩ := hcs
    exact ⟨[], ⟨none, 0, rfl, Nat.le_refl _, Nat.zero_le _, Or.inl rfl⟩, fun k hk => by simp at hk⟩
  · simp [Value.cells] at hcs
    obtain ⟨rfl, rfl, rfl⟩ := hcs
    simp only [if_true] at hmm
    subst hmm
    have hx : ∀ i, i < n → ∃ A : ActD, A.ok ∧ ∀ j, j < 4 → W.cell? (a'.add (i * 4 + j)) = some (A.cell j) := by
      intro i hi
      obtain ⟨ys, m, _, _, _, hg⟩ := hV i (by omega)
      obtain ⟨v0, y0, c0, _, e0⟩ := hg 0 f0 rfl
      obtain ⟨v1, y1, c1, _, e1⟩ := hg 1 f1 rfl
      obtain ⟨v2, y2, c2, _, e2⟩ := hg 2 f2 rfl
      obtain ⟨v3, y3, c3, _, e3⟩ := hg 3 f3 rfl
      rw [t0] at e0; rw [t1] at e1; rw [t2] at e2; rw [t3] at e3
      obtain ⟨z0, h0, _, w0⟩ := DataW.trod_int Tryz.underlying3 e0
      obtain ⟨z1, h1, _, w1⟩ := DataW.trod_int Tryz.underlying3 e1
      obtain ⟨z2, h2, _, w2⟩ := DataW.trod_int Tryz.underlying3 e2
      obtain ⟨z3, h3, _, w3⟩ := DataW.trod_int Tryz.underlying43 e3
      simp at h0 h1 h2 h3
      subst h0 h1 h2 h3
      refine ⟨⟨z0, z1, z2, z3⟩, ⟨w1, w2, placeOf w3, w0⟩, fun j hj => ?_⟩
      have : j = 0 ∨ j = 1 ∨ j = 2 ∨ j = 3 := by omega
      rcases this with rfl | rfl | rfl | rfl
      · exact c0
      · exact c1
      · exact c2
      · exact c3
    obtain ⟨f, hf⟩ := choose_lt hx
    have hat : ∀ k, k < n → actAt ((List.range n).map f) k = f k := fun k hk => by unfold actAt; simp [hk]
    refine ⟨(List.range n).map f, ⟨some a', _, by simp, by simpa using hl, hm, ?_⟩, fun k hk => ?_⟩
    · by_cases hn0 : n = 0
      · exact Or.inl (by simpa using hn0)
      · right
        have h1 := (hf 0 (by omega)).2 0 (by omega)
        have hs := spot_of_cell (by simpa [Addr.add] using h1)
        refine ⟨a'.block, a'.off, by cases a'; simp at hs; simp [hs.1], hs.2, fun i hi j hj => ?_⟩
        simp at hi
        rw [hat i hi, ← (hf i hi).2 j hj, add_spot a' _ hs.1]
    · simp at hk
      rw [hat k hk]; exact (hf k hk).1
end Go.Proofs.YtahiahjhpakeiaaGreatDoor
namespace Go.Proofs.YtahiahjhpakeiaaGreatDoor
open Go.RowKit Go.Maps Go.Sort Go.WideShapes Go.ChangeShapes Go.Deep
set_option linter.unusedVariables false
set_option linter.unusedSimpArgs false

def stabC (f : RS) (n : Int) : Int := if livesR f n = true then 0 else 6
def stabE (f : RS) (n : Int) : RS := if livesR f n = true then stabR f n else f
/-- A call's answer: no error, or the fault of a code. -/
def CodeIs (B : Nat) (w : World) (v : Value) (c : Int) : Prop := (c = 0 ∧ v = .nilIface) ∨ (c ≠ 0 ∧ IsErr B w v c)
def ActPost (S : Nat → Prop) (w : World) (rb mb : Nat) (f : RS) (c : Int) (e : Ending) (w' : World) : Prop := ∃ v, e = .returned v ∧ CodeIs w.heap.size w' v c ∧ (∃ g, RAt S w' rb mb g f) ∧ Kept S w w'
variable {S : Nat → Prop} {w : World} {rb mb : Nat} {g : Int → Nat} {f : RS}
theorem join_act (h : RAt S w rb mb g f) (hh : Heads f) (n id via : Int) (hn : okInt n) (hv : okInt via) (hid : isPlace id) :
    Calls Tryz.prog 19 #[.pointer (some ⟨rb, 0, none⟩), .int .i64 n, .int .u64 id, .int .i64 via] w (ActPost S w rb mb (joinR f n id via) (joinC f n id via)) :=
  (join_at h hh n id via hn hv hid).mono fun e w' hp => by
    unfold JoinPost at hp
    split at hp
    · rename_i hc
      obtain ⟨rfl, hk, hg⟩ := hp
      exact ⟨_, rfl, Or.inl ⟨hc, rfl⟩, hg, hk⟩
    · rename_i hc
      obtain ⟨v, rfl, hE, hb⟩ := hp
      rw [joinR_not hc]
      exact ⟨_, rfl, Or.inr ⟨hc, hE⟩, ⟨g, h.below hb⟩, (Kept.refl S w).below hb⟩
theorem fail_act (h : RAt S w rb mb g f) (n : Int) (hn : okInt n) :
    Calls Tryz.prog 35 #[.pointer (some ⟨rb, 0, none⟩), .int .i64 n] w (ActPost S w rb mb (failR f n) (failC f n)) :=
  (fail_at h n hn).mono fun e w' hp => by
    obtain ⟨h1, h2, h3⟩ := hp
    split at h1
    · rename_i hc
      exact ⟨_, h1, Or.inl ⟨hc, rfl⟩, ⟨g, h2⟩, h3⟩
    · rename_i hc
      obtain ⟨v, rfl, hE⟩ := h1
      exact ⟨_, rfl, Or.inr ⟨hc, hE⟩, ⟨g, h2⟩, h3⟩
theorem stab_act (h : RAt S w rb mb g f) (hh : Heads f) (n : Int) (hn : okInt n) :
    Calls Tryz.prog 49 #[.pointer (some ⟨rb, 0, none⟩), .int .i64 n] w (ActPost S w rb mb (stabE f n) (stabC f n)) :=
  (stab_at h n hn hh).mono fun e w' hp => by
    unfold StabPost at hp
    unfold stabE stabC
    split at hp
    · rename_i hc
      obtain ⟨rfl, h1, h2⟩ := hp
      rw [if_pos hc, if_pos hc]
      exact ⟨_, rfl, Or.inl ⟨rfl, rfl⟩, ⟨g, h1⟩, h2⟩
    · rename_i hc
      obtain ⟨v, rfl, hE, hb⟩ := hp
      rw [if_neg hc, if_neg hc]
      exact ⟨_, rfl, Or.inr ⟨by decide, hE⟩, ⟨g, h.below hb⟩, (Kept.refl S w).below hb⟩
theorem inv_stabE {f : RS} (I : Inv f) (n : Int) : Inv (stabE f n) := by
  unfold stabE; split
  · rename_i h; exact inv_stab I h
  · exact I
/-- What a call leaves. -/
def actR (ks : List Int) (f : RS) (a : ActD) : RS :=
  if a.kind ∉ ks then f else if a.kind = 1 then joinR f a.n a.id a.via else if a.kind = 2 then failR f a.n else if a.kind = 3 then stabE f a.n else if a.kind = 4 then roundR f else f
theorem inv_act {ks : List Int} {f : RS} (I : Inv f) {a : ActD} (h : a.ok) : Inv (actR ks f a) := by
  unfold actR
  split
  · exact I
  split
  · exact inv_joinR I h.id
  split
  · exact inv_failR I _
  split
  · exact inv_stabE I _
  split
  · exact inv_round I
  · exact I
/-- A ring of a call's own: it is in memory, and all that always holds of it holds. -/
structure RingOk (B : Nat) (w0 w : World) (rb mb : Nat) (f : RS) : Prop where
  ring : ∃ g, RAt (fun b => B ≤ b) w rb mb g f
  inv : Inv f
  below : RowKit.Below B w0 w
theorem RingOk.step {W wr w' : World} {f' : RS} (h : RingOk W.heap.size W wr rb mb f) (I : Inv f') (hr : ∃ g, RAt (fun b => W.heap.size ≤ b) w' rb mb g f') (hk : Kept (fun b => W.heap.size ≤ b) wr w') : RingOk W.heap.size W w' rb mb f' :=
  ⟨hr, I, kept_below h.below hk⟩
theorem RingOk.later {W wr w' : World} (h : RingOk W.heap.size W wr rb mb f) (hb : RowKit.Below wr.heap.size wr w') : RingOk W.heap.size W w' rb mb f := by
  obtain ⟨g, hg⟩ := h.ring
  exact ⟨⟨g, hg.below hb⟩, h.inv, h.below.trans (hb.mono h.below.size)⟩
/-- New, as the laws use it: a ring of four, or an error. -/
def Born (W : World) (ids : List Int) (e : Ending) (w' : World) : Prop :=
  if fourB ids = true then ∃ rb mb, e = .returned (.tuple #[.pointer (some ⟨rb, 0, none⟩), .nilIface]) ∧ RingOk W.heap.size W w' rb mb (newF ids (setI ids) 4)
  else ∃ b, e = .returned (.tuple #[.pointer none, .iface 146 (.pointer (some ⟨b, 0, none⟩))]) ∧ RowKit.Below W.heap.size W w'
theorem fourB_four {ids : List Int} (h : fourB ids = true) (hp : ∀ x ∈ ids, isPlace x) : Four ids (setI ids) := by
  unfold fourB at h
  simp at h
  exact four_of h.1 h.2 hp
theorem born_any (W wr : World) (hb : RowKit.Below W.heap.size W wr) (v : Value) (ids : List Int) (hi : SlAt 0 (fun i => .int .u64 (nth ids i)) ids.length wr v) (hp : ∀ x ∈ ids, isPlace x) :
    Calls Tryz.prog 38 #[v] wr (Born W ids) := (new_any wr v ids hi hp).mono fun e w' h => by
  unfold AskPost at h
  unfold Born
  split at h
  · rename_i hf
    obtain ⟨rb, mb, g, rfl, R, hB⟩ := h
    rw [if_pos hf]
    exact ⟨rb, mb, rfl, ⟨g, R.same (Nat.le_refl _) (fun _ _ _ => rfl) (fun b _ hS => by have := hb.size; omega) (fun b hb' => by have := hb.size; have := hB.size; omega)⟩, inv_new (fourB_four hf hp), bel_below hb hB⟩
  · rename_i hf
    obtain ⟨v, rfl, ⟨b, rfl, _⟩, hB⟩ := h
    rw [if_neg hf]
    exact ⟨b, rfl, bel_below hb hB⟩
end Go.Proofs.YtahiahjhpakeiaaGreatDoor
