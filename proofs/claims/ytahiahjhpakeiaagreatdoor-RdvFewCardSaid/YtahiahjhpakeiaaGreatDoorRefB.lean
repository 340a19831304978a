
/-
  The document's ring in memory: four rows of 32, read as the members by their addresses. No program is named here.
  The reference's Dist, Within, Sorted.
-/
import Derived.Test.YtahiahjhpakeiaaGreatDoorBase
import Derived.Test.YtahiahjhpakeiaaGreatDoorRingA
import Derived.LoopTactic
import Derived.Outline
import Derived.Deep.RegionWith
import Derived.Deep.Cut
import Derived.BigQuiet
namespace Go.Proofs.YtahiahjhpakeiaaGreatDoor
open Go.RowKit Go.Maps
set_option linter.unusedVariables false
set_option linter.unusedSimpArgs false

/-- A slice of 32 elements of s cells each. -/
structure Row32 (Q : Nat → Prop) (w : World) (s : Nat) (g : Nat → Value) (b off cap : Nat) : Prop where
  c0 : 32 ≤ cap
  c1 : cap ≤ maxLen
  q : Q b
  z : b < w.heap.size
  cell : ∀ j, j < 32 * s → w.cell? ⟨b, off + j, none⟩ = some (g j)
theorem Row32.imp {Q Q' : Nat → Prop} {w w' : World} {s : Nat} {g : Nat → Value} {b off cap : Nat} (h : Row32 Q w s g b off cap) (hQ : Q b → Q' b) (hs : w.heap.size ≤ w'.heap.size) (hb : w'.heap[b]? = w.heap[b]?) : Row32 Q' w' s g b off cap :=
  ⟨h.c0, h.c1, hQ h.q, Nat.lt_of_lt_of_le h.z hs, fun j hj => (World.cell?_of_block hb).trans (h.cell j hj)⟩
theorem Row32.congr {Q : Nat → Prop} {w : World} {s : Nat} {g g' : Nat → Value} {b off cap : Nat} (h : Row32 Q w s g b off cap) (e : ∀ j, j < 32 * s → g j = g' j) : Row32 Q w s g' b off cap :=
  ⟨h.c0, h.c1, h.q, h.z, fun j hj => by rw [h.cell j hj, e j hj]⟩

/-- Cell j of the peers' row; V: the lists' headers. -/
def peerC (f : RS) (V : Nat → Value) (j : Nat) : Value :=
  if j % 3 = 0 then .int .u64 (idR f (j / 3 : Nat)) else if j % 3 = 1 then .int .i64 (predR f (j / 3 : Nat)) else V (j / 3)
theorem peerC0 (f : RS) (V : Nat → Value) (k : Nat) : peerC f V (k * 3) = .int .u64 (idR f k) := by
  unfold peerC; rw [if_pos (by omega), show k * 3 / 3 = k by omega]
theorem peerC1 (f : RS) (V : Nat → Value) (k : Nat) : peerC f V (k * 3 + 1) = .int .i64 (predR f k) := by
  unfold peerC; rw [if_neg (by omega), if_pos (by omega), show (k * 3 + 1) / 3 = k by omega]
theorem peerC2 (f : RS) (V : Nat → Value) (k : Nat) : peerC f V (k * 3 + 2) = V k := by
  unfold peerC; rw [if_neg (by omega), if_neg (by omega), show (k * 3 + 2) / 3 = k by omega]

/-- Where the four rows are. -/
structure Where where
  b1 : Nat
  o1 : Nat
  k1 : Nat
  b2 : Nat
  o2 : Nat
  k2 : Nat
  b3 : Nat
  o3 : Nat
  k3 : Nat
  b4 : Nat
  o4 : Nat
  k4 : Nat
def Where.used (p : Where) : Value := .slice (some ⟨p.b1, p.o1, none⟩) 32 p.k1
def Where.live (p : Where) : Value := .slice (some ⟨p.b2, p.o2, none⟩) 32 p.k2
def Where.ids (p : Where) : Value := .slice (some ⟨p.b3, p.o3, none⟩) 32 p.k3
def Where.peers (p : Where) : Value := .slice (some ⟨p.b4, p.o4, none⟩) 32 p.k4
def Where.val (p : Where) : Value := .agg #[p.used, p.live, p.ids, p.peers]

/-- The document's ring: in rows of Q's. -/
structure RefRows (Q : Nat → Prop) (w : World) (p : Where) (f : RS) (V : Nat → Value) : Prop where
  used : Row32 Q w 1 (fun k => .bool (f (k : Nat)).isSome) p.b1 p.o1 p.k1
  live : Row32 Q w 1 (fun k => .bool (livesR f (k : Nat))) p.b2 p.o2 p.k2
  ids : Row32 Q w 1 (fun k => .int .u64 (idR f (k : Nat))) p.b3 p.o3 p.k3
  peers : Row32 Q w 3 (peerC f V) p.b4 p.o4 p.k4
/-- The lists in blocks of Q's. -/
def RefLists (Q : Nat → Prop) (w : World) (f : RS) (V : Nat → Value) : Prop := ∀ k : Nat, k < 32 → SlIn Q (succR f k) w (V k)
structure RefIs (Q : Nat → Prop) (w : World) (p : Where) (f : RS) (V : Nat → Value) : Prop where
  rows : RefRows Q w p f V
  list : RefLists Q w f V

theorem RefRows.same {Q Q' : Nat → Prop} {w w' : World} {p : Where} {f : RS} {V : Nat → Value} (h : RefRows Q w p f V) (hQ : ∀ b, b < w.heap.size → Q b → Q' b) (hs : w.heap.size ≤ w'.heap.size)
    (hb : ∀ b, b < w.heap.size → Q b → w'.heap[b]? = w.heap[b]?) : RefRows Q' w' p f V where
  used := h.used.imp (hQ _ h.used.z) hs (hb _ h.used.z h.used.q)
  live := h.live.imp (hQ _ h.live.z) hs (hb _ h.live.z h.live.q)
  ids := h.ids.imp (hQ _ h.ids.z) hs (hb _ h.ids.z h.ids.q)
  peers := h.peers.imp (hQ _ h.peers.z) hs (hb _ h.peers.z h.peers.q)
theorem RefLists.same {Q Q' : Nat → Prop} {w w' : World} {f : RS} {V : Nat → Value} (h : RefLists Q w f V) (hQ : ∀ b, b < w.heap.size → Q b → Q' b) (hs : w.heap.size ≤ w'.heap.size)
    (hb : ∀ b, b < w.heap.size → Q b → w'.heap[b]? = w.heap[b]?) : RefLists Q' w' f V := fun k hk => (h k hk).imp hQ hs hb
theorem RefIs.same {Q Q' : Nat → Prop} {w w' : World} {p : Where} {f : RS} {V : Nat → Value} (h : RefIs Q w p f V) (hQ : ∀ b, b < w.heap.size → Q b → Q' b) (hs : w.heap.size ≤ w'.heap.size)
    (hb : ∀ b, b < w.heap.size → Q b → w'.heap[b]? = w.heap[b]?) : RefIs Q' w' p f V := ⟨h.rows.same hQ hs hb, h.list.same hQ hs hb⟩
theorem RefRows.below {Q : Nat → Prop} {w w' : World} {p : Where} {f : RS} {V : Nat → Value} (h : RefRows Q w p f V) (hb : Below w.heap.size w w') : RefRows Q w' p f V :=
  h.same (fun _ _ h => h) hb.size fun b hb' _ => hb.block b hb'
theorem RefLists.below {Q : Nat → Prop} {w w' : World} {f : RS} {V : Nat → Value} (h : RefLists Q w f V) (hb : Below w.heap.size w w') : RefLists Q w' f V :=
  h.same (fun _ _ h => h) hb.size fun b hb' _ => hb.block b hb'
theorem RefIs.below {Q : Nat → Prop} {w w' : World} {p : Where} {f : RS} {V : Nat → Value} (h : RefIs Q w p f V) (hb : Below w.heap.size w w') : RefIs Q w' p f V := ⟨h.rows.below hb, h.list.below hb⟩
theorem RefIs.kept {S Q : Nat → Prop} {w w' : World} {p : Where} {f : RS} {V : Nat → Value} (h : RefIs Q w p f V) (hk : Kept S w w') (hS : ∀ b, b < w.heap.size → Q b → ¬ S b) : RefIs Q w' p f V :=
  h.same (fun _ _ h => h) hk.size fun b hb' hq => hk.block b hb' (hS b hb' hq)

/-- What a call of the document's leaves: a ring in new rows, its lists old or new. -/
def RefNew (Q : Nat → Prop) (w : World) (f : RS) (x : Value) (w' : World) : Prop :=
  ∃ p V, x = p.val ∧ RefIs (fun b => (Q b ∧ b < w.heap.size) ∨ w.heap.size ≤ b) w' p f V ∧ Below w.heap.size w w'
theorem RefNew.old {Q : Nat → Prop} {w w' : World} {p : Where} {f : RS} {V : Nat → Value} (h : RefIs Q w p f V) (hb : Below w.heap.size w w') : RefNew Q w f p.val w' :=
  ⟨p, V, rfl, h.same (fun b hb' hq => Or.inl ⟨hq, hb'⟩) hb.size fun b hb' _ => hb.block b hb', hb⟩
/-- A list's header, opened. -/
theorem SlIn.slice {Q : Nat → Prop} {l : List Int} {w : World} {v : Value} (h : SlIn Q l w v) : ∃ a cap, v = .slice a l.length cap ∧ True := by
  obtain ⟨a, cap, rfl, _⟩ := h; exact ⟨a, cap, rfl, trivial⟩

section
variable {Q : Nat → Prop} {w : World} {p : Where} {f : RS} {V : Nat → Value}
theorem RefRows.at_used (h : RefRows Q w p f V) {k : Nat} (hk : k < 32) : w.cell? ⟨p.b1, p.o1 + k, none⟩ = some (.bool (f k).isSome) := h.used.cell k (by omega)
theorem RefRows.at_live (h : RefRows Q w p f V) {k : Nat} (hk : k < 32) : w.cell? ⟨p.b2, p.o2 + k, none⟩ = some (.bool (livesR f k)) := h.live.cell k (by omega)
theorem RefRows.at_id (h : RefRows Q w p f V) {k : Nat} (hk : k < 32) : w.cell? ⟨p.b3, p.o3 + k, none⟩ = some (.int .u64 (idR f k)) := h.ids.cell k (by omega)
theorem RefRows.at_peer (h : RefRows Q w p f V) {k : Nat} (hk : k < 32) : w.cell? ⟨p.b4, p.o4 + k * 3, none⟩ = some (.int .u64 (idR f k)) ∧ w.cell? ⟨p.b4, p.o4 + k * 3 + 1, none⟩ = some (.int .i64 (predR f k)) ∧ w.cell? ⟨p.b4, p.o4 + k * 3 + 2, none⟩ = some (V k) := by
  refine ⟨?_, ?_, ?_⟩
  · rw [h.peers.cell (k * 3) (by omega), peerC0]
  · rw [Nat.add_assoc, h.peers.cell (k * 3 + 1) (by omega), peerC1]
  · rw [Nat.add_assoc, h.peers.cell (k * 3 + 2) (by omega), peerC2]
end

/-! Writes into a row of the call's own. -/
theorem Row32.set {Q : Nat → Prop} {w : World} {s : Nat} {g : Nat → Value} {b off cap : Nat} (h : Row32 Q w s g b off cap) {j : Nat} (hj : j < 32 * s) (v : Value) : Row32 Q (w.setCell ⟨b, off + j, none⟩ v) s (fun i => if i = j then v else g i) b off cap :=
  ⟨h.c0, h.c1, h.q, by rw [size_set]; exact h.z, fun i hi => by
    by_cases e : i = j
    · subst e; rw [if_pos rfl]; exact World.cell?_setCell_same _ _ _ (h.cell i hi)
    · rw [if_neg e, cell_set_off _ _ _ _ _ (by omega)]; exact h.cell i hi⟩
theorem Row32.other {Q : Nat → Prop} {w : World} {s : Nat} {g : Nat → Value} {b off cap : Nat} (h : Row32 Q w s g b off cap) (c : Nat) (o : Nat) (hne : c ≠ b) (v : Value) : Row32 Q (w.setCell ⟨c, o, none⟩ v) s g b off cap :=
  ⟨h.c0, h.c1, h.q, by rw [size_set]; exact h.z, fun i hi => by rw [cell_set_block _ _ _ _ _ _ hne]; exact h.cell i hi⟩
/-- The rows are four blocks from m on, into which one may write. -/
structure FreshRows (m : Nat) (w : World) (p : Where) : Prop where
  m1 : m ≤ p.b1
  m2 : m ≤ p.b2
  m3 : m ≤ p.b3
  m4 : m ≤ p.b4
  n12 : p.b1 ≠ p.b2
  n13 : p.b1 ≠ p.b3
  n14 : p.b1 ≠ p.b4
  n23 : p.b2 ≠ p.b3
  n24 : p.b2 ≠ p.b4
  n34 : p.b3 ≠ p.b4
  f1 : ∀ o, w.frozen? ⟨p.b1, o, none⟩ = false
  f2 : ∀ o, w.frozen? ⟨p.b2, o, none⟩ = false
  f3 : ∀ o, w.frozen? ⟨p.b3, o, none⟩ = false
  f4 : ∀ o, w.frozen? ⟨p.b4, o, none⟩ = false
theorem FreshRows.same {m : Nat} {w w' : World} {p : Where} (h : FreshRows m w p) (h1 : w'.heap[p.b1]? = w.heap[p.b1]?) (h2 : w'.heap[p.b2]? = w.heap[p.b2]?) (h3 : w'.heap[p.b3]? = w.heap[p.b3]?) (h4 : w'.heap[p.b4]? = w.heap[p.b4]?) : FreshRows m w' p :=
  { h with f1 := fun o => (World.frozen?_of_block h1).trans (h.f1 o), f2 := fun o => (World.frozen?_of_block h2).trans (h.f2 o), f3 := fun o => (World.frozen?_of_block h3).trans (h.f3 o), f4 := fun o => (World.frozen?_of_block h4).trans (h.f4 o) }
theorem FreshRows.set {m : Nat} {w : World} {p : Where} (h : FreshRows m w p) (a : Addr) (v : Value) : FreshRows m (w.setCell a v) p :=
  { h with f1 := fun o => by rw [World.frozen?_setCell]; exact h.f1 o, f2 := fun o => by rw [World.frozen?_setCell]; exact h.f2 o, f3 := fun o => by rw [World.frozen?_setCell]; exact h.f3 o, f4 := fun o => by rw [World.frozen?_setCell]; exact h.f4 o }
theorem FreshRows.below {Q : Nat → Prop} {m : Nat} {w w' : World} {p : Where} {f : RS} {V : Nat → Value} (h : FreshRows m w p) (hr : RefRows Q w p f V) (hb : Below w.heap.size w w') : FreshRows m w' p :=
  h.same (hb.block _ hr.used.z) (hb.block _ hr.live.z) (hb.block _ hr.ids.z) (hb.block _ hr.peers.z)
/-- What of a member the rows tell. -/
theorem peerC_eq {f f' : RS} {V V' : Nat → Value} {j : Nat} (h0 : idR f' (j / 3 : Nat) = idR f (j / 3 : Nat)) (h1 : predR f' (j / 3 : Nat) = predR f (j / 3 : Nat)) (h2 : V' (j / 3) = V (j / 3)) : peerC f V j = peerC f' V' j := by
  unfold peerC; rw [h0, h1, h2]
end Go.Proofs.YtahiahjhpakeiaaGreatDoor
namespace Go.Proofs.YtahiahjhpakeiaaGreatDoor
open Go.RowKit Go.WideShapes Go.ChangeShapes
set_option linter.unusedVariables false
set_option linter.unusedSimpArgs false
attribute [local go_sem] later_cell later_frozen later_lt

noncomputable def u64I : TypeInfo := (Tryz.prog.info? 42).get (by kernel_rfl)
theorem u64I_at : Tryz.prog.info? 42 = some u64I := by kernel_rfl
theorem rdist_any (a b : Int) (w : World) (ha : isPlace a) (hb : isPlace b) :
    Calls Tryz.prog 116 #[.int .u64 a, .int .u64 b] w fun e w' => e = .returned (.int .u64 (dist a b)) ∧ w = w' := by
  have e1 : a ≤ b → IntKind.u64.wrap (b - a) = dist a b := by rw [IntKind.wrap_u64]; intro h; rfl
  have e2 : b < a → IntKind.u64.wrap (IntKind.u64.wrap (18446744073709551615 - IntKind.u64.wrap (a - b)) + 1) = dist a b := by
    simp only [IntKind.wrap_u64]; unfold dist isPlace at *; omega
  have E1 := Lib.hid e1
  have E2 := Lib.hid e2
  clear e1 e2
  go_enter Tryz.func116, Tryz.ntmps116
  go_wp2
  · go_ret
    exact ⟨congrArg (fun z => Ending.returned (.int .u64 z)) (E1.out (by assumption)), rfl⟩
  · go_ret
    exact ⟨congrArg (fun z => Ending.returned (.int .u64 z)) (E2.out (by assumption)), rfl⟩

theorem rwithin_eq {x a b : Int} (hx : isPlace x) (ha : isPlace a) (hb : isPlace b) :
    withinB x a b = (if a == b then x != a else if a < b then decide (a < x) && decide (x < b) else decide (a < x) || decide (x < b)) := by
  by_cases h : a = b
  · simp [withinB, h]
  · have e : (a == b) = false := by simp [h]
    unfold withinB; rw [e]; simp only [Bool.false_eq_true, if_false]
    rw [Bool.eq_iff_iff, Bool.and_eq_true, bne_iff_ne, decide_eq_true_eq]
    unfold isPlace dist at *
    by_cases h2 : a < b
    · rw [if_pos h2, Bool.and_eq_true, decide_eq_true_eq, decide_eq_true_eq]; omega
    · rw [if_neg h2, Bool.or_eq_true, decide_eq_true_eq, decide_eq_true_eq]; omega

theorem rwithin_any (x a b : Int) (w : World) (hx : isPlace x) (ha : isPlace a) (hb : isPlace b) :
    Calls Tryz.prog 101 #[.int .u64 x, .int .u64 a, .int .u64 b] w fun e w' => e = .returned (.bool (withinB x a b)) ∧ w = w' := by
  have E := Lib.hid (rwithin_eq hx ha hb)
  go_enter Tryz.func101, Tryz.ntmps101
  go_wp2
  all_goals (go_ret; go_light; exact ⟨by rw [E.out]; simp_all <;> (intros; first | omega | (exfalso; omega)), rfl⟩)

/-! ### The reference's Sorted -/
/-- The least of some numbers, so many of them. -/
def Pre (l out : List Int) : Prop := Up out ∧ (∀ x ∈ out, x ∈ l) ∧ ∀ x ∈ l, x ∈ out ∨ ∀ y ∈ out, y < x
def Least (l out : List Int) (k : Nat) (fb : Bool) (z : Int) : Prop :=
  if fb then (∃ j, j < k ∧ nth l j = z) ∧ (∀ y ∈ out, y < z) ∧ ∀ j, j < k → nth l j ∈ out ∨ z ≤ nth l j else ∀ j, j < k → nth l j ∈ out
theorem pre_nil (l : List Int) : Pre l [] := ⟨List.Pairwise.nil, fun x hx => by simp at hx, fun x _ => Or.inr fun y hy => by simp at hy⟩
theorem least_zero (l out : List Int) : Least l out 0 false 0 := fun j hj => absurd hj (by omega)
theorem up_last {out : List Int} (h : Up out) (h0 : 0 < out.length) {x : Int} : nth out (out.length - 1) < x ↔ ∀ y ∈ out, y < x := by
  constructor
  · intro hx y hy
    obtain ⟨j, hj, rfl⟩ := nth_mem.1 hy
    by_cases e : j = out.length - 1
    · rw [e]; exact hx
    · have := up_nth h (i := j) (j := out.length - 1) (by omega) (by omega); omega
  · intro hx
    exact hx _ (nth_mem.2 ⟨_, by omega, rfl⟩)
theorem least_take {l out : List Int} {k : Nat} {fb : Bool} {z : Int} (hk : k < l.length) (h : Least l out k fb z) (h1 : ∀ y ∈ out, y < nth l k) (h2 : fb = false ∨ nth l k < z) : Least l out (k + 1) true (nth l k) := by
  unfold Least at *
  rw [if_pos rfl]
  refine ⟨⟨k, Nat.lt_succ_self _, rfl⟩, h1, fun j hj => ?_⟩
  by_cases e : j = k
  · subst e; exact Or.inr (Int.le_refl _)
  · cases fb with
    | false => exact Or.inl (h j (by omega))
    | true =>
      rw [if_pos rfl] at h
      rcases h.2.2 j (by omega) with h3 | h3
      · exact Or.inl h3
      · rcases h2 with h2 | h2
        · cases h2
        · exact Or.inr (by omega)
theorem least_skip {l out : List Int} {k : Nat} {fb : Bool} {z : Int} (hp : Pre l out) (hk : k < l.length) (h : Least l out k fb z) (h1 : (¬ ∀ y ∈ out, y < nth l k) ∨ fb = true ∧ ¬ nth l k < z) : Least l out (k + 1) fb z := by
  have hx : nth l k ∈ out ∨ fb = true ∧ z ≤ nth l k := by
    rcases h1 with h1 | ⟨h1, h2⟩
    · exact Or.inl ((hp.2.2 _ (nth_mem.2 ⟨k, hk, rfl⟩)).resolve_right h1)
    · exact Or.inr ⟨h1, by omega⟩
  unfold Least at *
  cases fb with
  | false =>
    simp only [Bool.false_eq_true, if_false, false_and, or_false] at *
    intro j hj
    by_cases e : j = k
    · subst e; exact hx
    · exact h j (by omega)
  | true =>
    rw [if_pos rfl] at *
    refine ⟨by obtain ⟨j, hj, e⟩ := h.1; exact ⟨j, by omega, e⟩, h.2.1, fun j hj => ?_⟩
    by_cases e : j = k
    · subst e; rcases hx with hx | hx
      · exact Or.inl hx
      · exact Or.inr hx.2
    · exact h.2.2 j (by omega)
theorem pre_push {l out : List Int} {z : Int} (hp : Pre l out) (h : Least l out l.length true z) : Pre l (out ++ [z]) := by
  unfold Least at h
  rw [if_pos rfl] at h
  obtain ⟨⟨j, hj, e⟩, h2, h3⟩ := h
  refine ⟨List.pairwise_append.2 ⟨hp.1, by simp, fun a ha b hb => by simp at hb; subst hb; exact h2 a ha⟩, fun x hx => ?_, fun x hx => ?_⟩
  · rcases List.mem_append.1 hx with h | h
    · exact hp.2.1 x h
    · simp at h; subst h; exact nth_mem.2 ⟨j, hj, e⟩
  · obtain ⟨i, hi, rfl⟩ := nth_mem.1 hx
    rcases h3 i hi with h4 | h4
    · exact Or.inl (List.mem_append_left _ h4)
    · rcases Int.lt_or_eq_of_le h4 with h5 | h5
      · refine Or.inr fun y hy => ?_
        rcases List.mem_append.1 hy with h | h
        · have := h2 y h; omega
        · simp at h; omega
      · exact Or.inl (by simp [h5])
theorem pre_done {l out : List Int} {z : Int} (hp : Pre l out) (h : Least l out l.length false z) : out = setI l := by
  refine up_uniq hp.1 (setI_up l) fun x => ?_
  rw [mem_setI]
  constructor
  · exact hp.2.1 x
  · intro hx
    obtain ⟨i, hi, rfl⟩ := nth_mem.1 hx
    exact h i hi
theorem pre_len {l out : List Int} (hp : Pre l out) : out.length ≤ l.length :=
  Nat.le_trans (up_sub_len (setI_up l) hp.1 fun x hx => mem_setI.2 (hp.2.1 x hx)) (setI_len l)

set_option maxHeartbeats 4000000 in
theorem rsort_any (w : World) (v : Value) (l : List Int) (h : SlAt 0 (fun i => .int .u64 (nth l i)) l.length w v) (hl : l.length ≤ 1000) :
    Calls Tryz.prog 91 #[v] w fun e w' => ∃ v', e = .returned v' ∧ SlAt w.heap.size (fun i => .int .u64 (nth (setI l) i)) (setI l).length w' v' ∧ Below w.heap.size w w' := by
  obtain ⟨i0, hi, hz0, hz1, hz2⟩ : ∃ i0, Tryz.prog.info? 42 = some i0 ∧ i0.zero = some (Value.int .u64 0) ∧ i0.size = 1 ∧ i0.bytes = 8 := ⟨u64I, u64I_at, by kernel_rfl, by kernel_rfl, by kernel_rfl⟩
  obtain ⟨a, cap, rfl, hc, hm⟩ := h.slice
  have hA := Lib.hid h
  clear h
  unfold maxLen at hm
  go_enter Tryz.func91, Tryz.ntmps91
  go_wp2_with fail
  go_loopw [3, 4] (fun vo i wr => ∃ out : List Int, i = .int .i64 out.length ∧ wr.ownsRow w.heap.size 42 1 vo out.length (out.map (Value.int .u64)) ∧ Below w.heap.size w wr ∧ Hid (Pre l out)) (fun _ i _ => l.length + 1 - (intOf i).toNat)
  case atStart => exact ⟨[], rfl, by simpa using World.ownsRow_made w #[] 0 (Nat.le_refl _) (Nat.zero_le _) (by simp), by (repeat (first | exact Below.refl _ _ | (with_reducible assumption) | (with_reducible refine bel_later ?_ _) | (with_reducible refine bel_alloc ?_ _) | (with_reducible refine bel_drew ?_) | (with_reducible refine bel_drewN ?_ _) | (with_reducible refine bel_set ?_ (by first | (simp; done) | (simp; omega) | (dsimp only; omega)) _))), pre_nil l⟩
  case round =>
    obtain ⟨out, rfl, ho, hB, hP⟩ := hrel
    have hlen := pre_len hP.out
    have hs := own_ints ho
    obtain ⟨ao, co, rfl, hco, hcom⟩ := hs.slice
    have hO := Lib.hid ho
    have hS := Lib.hid hs
    have hsz := hB.size
    clear ho hs
    go_wp2_with fail
    obtain ⟨w1, hw1⟩ : ∃ w1 : World, w1 = wr := ⟨_, rfl⟩
    rw [← hw1] at hO hB hS hsz
    have hBH := Lib.hid hB
    clear hB
    rw [← hw1]
    clear hw1
    go_loopw [5, 6, 18] (fun f ls i wr => ∃ (k : Nat) (fb : Bool) (z : Int), k ≤ l.length ∧ i = .int .i64 k ∧ f = .bool fb ∧ ls = .int .u64 z ∧ wr = w1 ∧ Hid (Least l out k fb z)) (fun _ _ i _ => l.length - (intOf i).toNat)
    case atStart => exact ⟨0, false, 0, Nat.zero_le _, rfl, rfl, rfl, rfl, least_zero l out⟩
    case round =>
      obtain ⟨k, fb, z, hk, rfl, rfl, rfl, rfl, hL⟩ := hrel
      by_cases hlt : k < l.length
      · obtain ⟨b, off, rfl, _, hb, hcell⟩ := hA.out.at k hlt _ hBH.out
        by_cases h0 : out.length = 0
        · have h0b : ((out.length : Int) == 0) = true := by simp [h0]
          have hall : ∀ y ∈ out, y < nth l k := fun y hy => by rw [List.length_eq_zero_iff.1 h0] at hy; simp at hy
          cases fb
          · have TK := Lib.hid (least_take hlt hL.out hall (Or.inl rfl))
            clear hall
            go_wp2_with fail
            go_roundw
            case rel => go_light; exact ⟨k + 1, true, nth l k, by omega, by go_num, rfl, rfl, by first | trivial | rfl, TK.out⟩
            case measure => go_light; simp [intOf]; omega
          · by_cases hz : nth l k < z
            · have TK := Lib.hid (least_take hlt hL.out hall (Or.inr hz))
              clear hall
              go_wp2_with fail
              go_roundw
              case rel => go_light; exact ⟨k + 1, true, nth l k, by omega, by go_num, rfl, rfl, by first | trivial | rfl, TK.out⟩
              case measure => go_light; simp [intOf]; omega
            · have TK := Lib.hid (least_skip hP.out hlt hL.out (Or.inr ⟨rfl, hz⟩))
              obtain ⟨fb, rfl⟩ : ∃ fb, fb = true := ⟨_, rfl⟩
              clear hall
              go_wp2_with fail
              go_roundw
              case rel => go_light; exact ⟨k + 1, true, z, by omega, by go_num, rfl, rfl, by first | trivial | rfl, TK.out⟩
              case measure => go_light; simp [intOf]; omega
        · have h0b : ((out.length : Int) == 0) = false := by simp [h0]
          obtain ⟨n', hn'⟩ : ∃ n' : Nat, n' = out.length - 1 := ⟨_, rfl⟩
          have hidx : (out.length : Int) - 1 = (n' : Int) := by omega
          obtain ⟨b2, o2, rfl, _, hb2, hc2⟩ := hS.out.at n' (by omega) _ (Below.refl _ _)
          have hup := up_last hP.out.1 (x := nth l k) (by omega)
          rw [← hn'] at hup
          clear hn'
          by_cases hx : nth out n' < nth l k
          · have hall := hup.1 hx
            cases fb
            · have TK := Lib.hid (least_take hlt hL.out hall (Or.inl rfl))
              clear hall hup
              go_wp2_with fail
              go_roundw
              case rel => go_light; exact ⟨k + 1, true, nth l k, by omega, by go_num, rfl, rfl, by first | trivial | rfl, TK.out⟩
              case measure => go_light; simp [intOf]; omega
            · by_cases hz : nth l k < z
              · have TK := Lib.hid (least_take hlt hL.out hall (Or.inr hz))
                clear hall hup
                go_wp2_with fail
                go_roundw
                case rel => go_light; exact ⟨k + 1, true, nth l k, by omega, by go_num, rfl, rfl, by first | trivial | rfl, TK.out⟩
                case measure => go_light; simp [intOf]; omega
              · have TK := Lib.hid (least_skip hP.out hlt hL.out (Or.inr ⟨rfl, hz⟩))
                clear hall hup
                go_wp2_with fail
                go_roundw
                case rel => go_light; exact ⟨k + 1, true, z, by omega, by go_num, rfl, rfl, by first | trivial | rfl, TK.out⟩
                case measure => go_light; simp [intOf]; omega
          · have TK := Lib.hid (least_skip hP.out hlt hL.out (Or.inl fun h => hx (hup.2 h)))
            clear hup
            go_wp2_with fail
            go_roundw
            case rel => go_light; exact ⟨k + 1, fb, z, by omega, by go_num, rfl, rfl, by first | trivial | rfl, TK.out⟩
            case measure => go_light; simp [intOf]; omega
      · obtain rfl : k = l.length := by omega
        cases fb
        · have e := pre_done hP.out hL.out
          have HR := hS.out
          rw [e] at HR
          have HR2 := Lib.hid HR
          have E := Lib.hid e
          clear HR e
          go_wp2_with fail
          go_ret
          exact ⟨_, rfl, by rw [E.out]; exact HR2.out, hBH.out⟩
        · have PP := Lib.hid (pre_push hP.out hL.out)
          have hl2 := pre_len PP.out
          have hl3 : out.length + 1 ≤ l.length := by simpa using hl2
          clear hl2
          go_wp2_with (at_builtin; refine wpList_app rfl _ _ 27 rfl w.heap.size 42 i0 (.int .u64 0) 8 Tryz.underlying27 hi hz0 hz1 hz2 rfl _ out.length _ rfl (hO.out.alloc _) 0 _ 1 _ rfl (sl_new _ .u64 [z] 42 _ 1 rfl rfl (by simp [maxLen])) (fun _ => rfl) ?qc1 ?qc2 ?qc3 ?_)
          case qc1 => simp only [maxLen]; omega
          case qc2 => omega
          case qc3 => simp; omega
          intro v' w2 ho hg
          have hB1 : Below w.heap.size w w2 := (hBH.out.alloc hsz _).grown hg (by simp; omega) (fun j hj => by have := hO.out.lt j hj; omega)
          go_wp2_with fail
          go_roundw
          case rel =>
            go_light
            refine ⟨out ++ [z], by simp, ?_, hB1, PP.out⟩
            simpa [nth] using ho
          case measure => go_light; simp [intOf]; omega
end Go.Proofs.YtahiahjhpakeiaaGreatDoor
/-
  The document's layer 9 at the document's ring: Lives, Id, Head, Follow, Nearer, Rectify.
-/

namespace Go.Proofs.YtahiahjhpakeiaaGreatDoor
open Go.RowKit Go.Maps Go.Sort
set_option linter.unusedVariables false
set_option linter.unusedSimpArgs false
attribute [local go_sem] later_cell later_frozen later_lt cell_set_off cell_set_block

variable {Q : Nat → Prop} {w : World} {p : Where} {f : RS} {V : Nat → Value}
theorem livesR_out {f : RS} (hd : Dom f) {n : Int} (h : ¬ (0 ≤ n ∧ n < 32)) : livesR f n = false := by
  cases e : livesR f n
  · rfl
  · exact absurd (livesR_dom hd e) h
theorem idR_out {f : RS} (hd : Dom f) {n : Int} (h : ¬ (0 ≤ n ∧ n < 32)) : idR f n = 0 := by
  unfold idR
  cases e : f n with
  | none => rfl
  | some m => have := hd n m e; exact absurd ⟨this.1, this.2.1⟩ h
theorem rlives_any (h : RefRows Q w p f V) (hd : Dom f) (n : Int) : Calls Tryz.prog 32 #[(.agg #[.slice (some ⟨p.b2, p.o2, none⟩) 32 p.k2, .slice (some ⟨p.b3, p.o3, none⟩) 32 p.k3]), .int .i64 n] w fun e w' => e = .returned (.bool (livesR f n)) ∧ RowKit.Below w.heap.size w w' := by
  by_cases hn : 0 ≤ n ∧ n < 32
  · obtain ⟨m, rfl⟩ : ∃ m : Nat, n = m := ⟨n.toNat, by omega⟩
    have c0 := h.at_live (k := m) (by omega)
    have hz := h.live.z
    have hm1 : m < 32 := by omega
    clear hn h
    go_enter Tryz.func32, Tryz.ntmps32
    go_wp2_with fail
    go_ret
    exact ⟨by first | done | rfl, (RowKit.Below.refl _ _).alloc (Nat.le_refl _) _⟩
  · have E := Lib.hid (livesR_out hd hn)
    have h3 : n < 0 ∨ 0 ≤ n ∧ ¬ n < 32 := by omega
    clear h hn
    rcases h3 with h3 | ⟨h3, h4⟩ <;>
    · go_enter Tryz.func32, Tryz.ntmps32
      go_wp2_with fail
      go_ret
      exact ⟨by rw [E.out]; first | done | rfl, (RowKit.Below.refl _ _).alloc (Nat.le_refl _) _⟩
theorem rid_any (h : RefRows Q w p f V) (hd : Dom f) (n : Int) : Calls Tryz.prog 102 #[(.agg #[.slice (some ⟨p.b2, p.o2, none⟩) 32 p.k2, .slice (some ⟨p.b3, p.o3, none⟩) 32 p.k3]), .int .i64 n] w fun e w' => e = .returned (.int .u64 (idR f n)) ∧ RowKit.Below w.heap.size w w' := by
  by_cases hn : 0 ≤ n ∧ n < 32
  · obtain ⟨m, rfl⟩ : ∃ m : Nat, n = m := ⟨n.toNat, by omega⟩
    have c0 := h.at_id (k := m) (by omega)
    have hz := h.ids.z
    have hm1 : m < 32 := by omega
    clear hn h
    go_enter Tryz.func102, Tryz.ntmps102
    go_wp2_with fail
    go_ret
    exact ⟨by first | done | rfl, (RowKit.Below.refl _ _).alloc (Nat.le_refl _) _⟩
  · have E := Lib.hid (idR_out hd hn)
    have h3 : n < 0 ∨ 0 ≤ n ∧ ¬ n < 32 := by omega
    clear h hn
    rcases h3 with h3 | ⟨h3, h4⟩ <;>
    · go_enter Tryz.func102, Tryz.ntmps102
      go_wp2_with fail
      go_ret
      exact ⟨by rw [E.out]; first | done | rfl, (RowKit.Below.refl _ _).alloc (Nat.le_refl _) _⟩
theorem idR_place {f : RS} (h : Dom f) (n : Int) : isPlace (idR f n) := by
  unfold idR isPlace
  cases e : f n with
  | none => simp
  | some m => exact (h n m e).2.2.1
theorem headL_some {f : RS} {l : List Int} {k : Nat} (hk : k < l.length) (h : ∀ j, j < k → livesR f (nth l j) = false) (h1 : livesR f (nth l k) = true) : headL f l = nth l k := by
  induction l generalizing k with
  | nil => simp at hk
  | cons x l ih =>
    cases k with
    | zero => rw [nth_zero] at h1 ⊢; simp [headL, h1]
    | succ k =>
      have h0 := h 0 (by omega)
      rw [nth_zero] at h0
      rw [nth_succ] at h1 ⊢
      simp only [headL, h0]
      exact ih (by simp at hk; omega) (fun j hj => by simpa [nth_succ] using h (j + 1) (by omega)) h1
theorem headL_none {f : RS} {l : List Int} (h : ∀ j, j < l.length → livesR f (nth l j) = false) : headL f l = -1 := by
  induction l with
  | nil => rfl
  | cons x l ih =>
    have h0 := h 0 (by simp)
    rw [nth_zero] at h0
    simp only [headL, h0]
    exact ih fun j hj => by simpa [nth_succ] using h (j + 1) (by simp; omega)
theorem rhead_any (h : RefRows Q w p f V) (hd : Dom f) (l : List Int) (hlm : l.length ≤ 1000000) (lv : Value) (hl : SlAt 0 (fun i => .int .i64 (nth l i)) l.length w lv) (id pred : Int) :
    Calls Tryz.prog 100 #[.agg #[.int .u64 id, .int .i64 pred, lv], (.agg #[.slice (some ⟨p.b2, p.o2, none⟩) 32 p.k2, .slice (some ⟨p.b3, p.o3, none⟩) 32 p.k3])] w fun e w' => e = .returned (.int .i64 (headL f l)) ∧ RowKit.Below w.heap.size w w' := by
  have hlv := Lib.hid fun (wr : World) (hb : RowKit.Below w.heap.size w wr) (n : Int) => rlives_any (h.below hb) hd n
  have hA := Lib.hid hl
  obtain ⟨a, cap, rfl, hc, hm⟩ := hl.slice
  clear h hd hl
  go_enter Tryz.func100, Tryz.ntmps100
  go_wp2_with fail
  obtain ⟨w1, hw1⟩ : ∃ w1, w1 = (w.alloc (.cells #[.int .u64 id, .int .i64 pred, .slice a l.length cap] 126)).alloc (.cells #[.slice (some ⟨p.b2, p.o2, none⟩) 32 p.k2, .slice (some ⟨p.b3, p.o3, none⟩) 32 p.k3] 29) := ⟨_, rfl⟩
  have B1 : RowKit.Below w.heap.size w w1 := by rw [hw1]; (repeat (first | exact Below.refl _ _ | (with_reducible assumption) | (with_reducible refine bel_later ?_ _) | (with_reducible refine bel_alloc ?_ _) | (with_reducible refine bel_drew ?_) | (with_reducible refine bel_drewN ?_ _) | (with_reducible refine bel_set ?_ (by first | (simp; done) | (simp; omega) | (dsimp only; omega)) _)))
  have j0 : w1.cell? ⟨w.heap.size + 1, 0, none⟩ = some (.slice (some ⟨p.b2, p.o2, none⟩) 32 p.k2) := by rw [hw1]; simp [go_sem]
  have j1 : w1.cell? ⟨w.heap.size + 1, 1, none⟩ = some (.slice (some ⟨p.b3, p.o3, none⟩) 32 p.k3) := by rw [hw1]; simp [go_sem]
  have z1 : w.heap.size + 1 < w1.heap.size := by rw [hw1]; simp
  rw [← hw1]
  clear hw1
  go_loopw [6, 10] (fun _ i wr => ∃ k : Nat, k ≤ l.length ∧ i = .int .i64 k ∧ Hid (RowKit.Below w1.heap.size w1 wr) ∧ Hid (∀ j, j < k → livesR f (nth l j) = false)) (fun _ i _ => l.length - (intOf i).toNat)
  case atStart => exact ⟨0, Nat.zero_le _, rfl, RowKit.Below.refl _ _, fun j hj => absurd hj (by omega)⟩
  case round =>
    obtain ⟨k, hk, rfl, hB, hno⟩ := hrel
    have BW := Lib.hid (bel_below B1 hB.out)
    by_cases hlt : k < l.length
    · obtain ⟨b, off, rfl, _, hb, hck⟩ := hA.out.at k hlt wr BW.out
      have j0 : wr.cell? ⟨w.heap.size + 1, 0, none⟩ = some (.slice (some ⟨p.b2, p.o2, none⟩) 32 p.k2) := (hB.out.cell (p := ⟨_, _, none⟩) z1).trans j0
      have j1 : wr.cell? ⟨w.heap.size + 1, 1, none⟩ = some (.slice (some ⟨p.b3, p.o3, none⟩) 32 p.k3) := (hB.out.cell (p := ⟨_, _, none⟩) z1).trans j1
      have zr : w.heap.size + 1 < wr.heap.size := Nat.lt_of_lt_of_le z1 hB.out.size
      cases h1 : livesR f (nth l k)
      · go_wp2_with (go_at_call 32; refine (hlv.out _ BW.out _).mono ?_; rintro e w2 ⟨rfl, hb2⟩; rw [h1])
        go_roundw
        case rel =>
          go_light
          refine ⟨k + 1, by omega, by go_num, bel_below hB.out hb2, fun j hj => ?_⟩
          by_cases e : j = k
          · subst e; exact h1
          · exact hno.out j (by omega)
        case measure => go_light; simp [intOf]; omega
      · have E := Lib.hid (headL_some hlt hno.out h1)
        go_wp2_with (go_at_call 32; refine (hlv.out _ BW.out _).mono ?_; rintro e w2 ⟨rfl, hb2⟩; rw [h1])
        go_ret
        exact ⟨by rw [E.out]; first | done | rfl, bel_below BW.out hb2⟩
    · obtain rfl : k = l.length := by omega
      have E := Lib.hid (headL_none hno.out)
      go_wp2_with fail
      go_ret
      exact ⟨by rw [E.out]; first | done | rfl, BW.out⟩

theorem rnear_any (h : RefRows Q w p f V) (hd : Dom f) (q fr to : Int) (hf : isPlace fr) :
    Calls Tryz.prog 108 #[.int .i64 q, .int .u64 fr, .int .i64 to, (.agg #[.slice (some ⟨p.b2, p.o2, none⟩) 32 p.k2, .slice (some ⟨p.b3, p.o3, none⟩) 32 p.k3])] w fun e w' => e = .returned (.bool (nearR f q fr to)) ∧ RowKit.Below w.heap.size w w' := by
  have hl := Lib.hid fun (wr : World) (hb : RowKit.Below w.heap.size w wr) => rlives_any (h.below hb) hd q
  have hd1 := Lib.hid fun (wr : World) (hb : RowKit.Below w.heap.size w wr) => rid_any (h.below hb) hd q
  have hd2 := Lib.hid fun (wr : World) (hb : RowKit.Below w.heap.size w wr) => rid_any (h.below hb) hd to
  have hw := Lib.hid fun (wr : World) => rwithin_any (idR f q) fr (idR f to) wr (idR_place hd q) hf (idR_place hd to)
  have hc : (q != -1) = false ∧ nearR f q fr to = false ∨ (q != -1) = true ∧ (livesR f q = false ∧ nearR f q fr to = false ∨ livesR f q = true ∧ nearR f q fr to = withinB (idR f q) fr (idR f to)) := by
    unfold nearR
    cases h1 : q != -1 <;> cases h2 : livesR f q <;> simp
  clear h hd hf
  rcases hc with ⟨c1, E⟩ | ⟨c1, ⟨c2, E⟩ | ⟨c2, E⟩⟩
  all_goals
    have EE := Lib.hid E
    clear E
    go_enter Tryz.func108, Tryz.ntmps108
    go_wp2_with fail
    refine wp_region_calm (by kernel_rfl) (by kernel_rfl) ?_
    repeat (first | (go_big_quiet_step ((first | (go_at_call 32; exact calls_calm (hl.out _ (by (repeat (first | exact Below.refl _ _ | (with_reducible assumption) | (with_reducible refine bel_later ?_ _) | (with_reducible refine bel_alloc ?_ _) | (with_reducible refine bel_drew ?_) | (with_reducible refine bel_drewN ?_ _) | (with_reducible refine bel_set ?_ (by first | (simp; done) | (simp; omega) | (dsimp only; omega)) _)))))) | (go_at_call_of 102 (Value.int .i64 q); exact calls_calm (hd1.out _ (by (repeat (first | exact Below.refl _ _ | (with_reducible assumption) | (with_reducible refine bel_later ?_ _) | (with_reducible refine bel_alloc ?_ _) | (with_reducible refine bel_drew ?_) | (with_reducible refine bel_drewN ?_ _) | (with_reducible refine bel_set ?_ (by first | (simp; done) | (simp; omega) | (dsimp only; omega)) _)))))) | (go_at_call_of 102 (Value.int .i64 to); exact calls_calm (hd2.out _ (by (repeat (first | exact Below.refl _ _ | (with_reducible assumption) | (with_reducible refine bel_later ?_ _) | (with_reducible refine bel_alloc ?_ _) | (with_reducible refine bel_drew ?_) | (with_reducible refine bel_drewN ?_ _) | (with_reducible refine bel_set ?_ (by first | (simp; done) | (simp; omega) | (dsimp only; omega)) _)))))) | (go_at_call 101; exact calls_calm_same (hw.out _))))) | (refine wpQuiet_step (fun K hK => ?_); go_simp; first | (refine hK _ ?_; clear hK K) | (apply Exists.intro; refine ⟨fun _ => ?_, hK _ ?_⟩; (first | (go_at_call 32; exact calls_calm (hl.out _ (by (repeat (first | exact Below.refl _ _ | (with_reducible assumption) | (with_reducible refine bel_later ?_ _) | (with_reducible refine bel_alloc ?_ _) | (with_reducible refine bel_drew ?_) | (with_reducible refine bel_drewN ?_ _) | (with_reducible refine bel_set ?_ (by first | (simp; done) | (simp; omega) | (dsimp only; omega)) _)))))) | (go_at_call_of 102 (Value.int .i64 q); exact calls_calm (hd1.out _ (by (repeat (first | exact Below.refl _ _ | (with_reducible assumption) | (with_reducible refine bel_later ?_ _) | (with_reducible refine bel_alloc ?_ _) | (with_reducible refine bel_drew ?_) | (with_reducible refine bel_drewN ?_ _) | (with_reducible refine bel_set ?_ (by first | (simp; done) | (simp; omega) | (dsimp only; omega)) _)))))) | (go_at_call_of 102 (Value.int .i64 to); exact calls_calm (hd2.out _ (by (repeat (first | exact Below.refl _ _ | (with_reducible assumption) | (with_reducible refine bel_later ?_ _) | (with_reducible refine bel_alloc ?_ _) | (with_reducible refine bel_drew ?_) | (with_reducible refine bel_drewN ?_ _) | (with_reducible refine bel_set ?_ (by first | (simp; done) | (simp; omega) | (dsimp only; omega)) _)))))) | (go_at_call 101; exact calls_calm_same (hw.out _))); clear hK K)))
    refine wpQuiet_nil ?_
    intro _ hw'
    obtain ⟨xq, hw''⟩ := hw'
    subst hw''
    go_wp2_with fail
    go_ret
    exact ⟨by rw [EE.out]; first | done | rfl, by (repeat (first | exact Below.refl _ _ | (with_reducible assumption) | (with_reducible refine bel_later ?_ _) | (with_reducible refine bel_alloc ?_ _) | (with_reducible refine bel_drew ?_) | (with_reducible refine bel_drewN ?_ _) | (with_reducible refine bel_set ?_ (by first | (simp; done) | (simp; omega) | (dsimp only; omega)) _)))⟩

theorem rrect_any (h : RefRows Q w p f V) (hd : Dom f) (id pred n : Int) (hf : isPlace id) (a : Option Addr) (ln cap : Nat) :
    Calls Tryz.prog 110 #[.agg #[.int .u64 id, .int .i64 pred, .slice a ln cap], .int .i64 n, (.agg #[.slice (some ⟨p.b2, p.o2, none⟩) 32 p.k2, .slice (some ⟨p.b3, p.o3, none⟩) 32 p.k3])] w fun e w' => e = .returned (.agg #[.int .u64 id, .int .i64 (rectR f id pred n), .slice a ln cap]) ∧ RowKit.Below w.heap.size w w' := by
  have hl := Lib.hid fun (wr : World) (hb : RowKit.Below w.heap.size w wr) => rlives_any (h.below hb) hd pred
  have hd1 := Lib.hid fun (wr : World) (hb : RowKit.Below w.heap.size w wr) => rid_any (h.below hb) hd pred
  have hd2 := Lib.hid fun (wr : World) (hb : RowKit.Below w.heap.size w wr) => rid_any (h.below hb) hd n
  have hw := Lib.hid fun (wr : World) => rwithin_any (idR f n) (idR f pred) id wr (idR_place hd n) (idR_place hd pred) hf
  have hc : (pred == -1) = true ∧ rectR f id pred n = n ∨ (pred == -1) = false ∧ (livesR f pred = false ∧ rectR f id pred n = n ∨ livesR f pred = true ∧ (withinB (idR f n) (idR f pred) id = true ∧ rectR f id pred n = n ∨ withinB (idR f n) (idR f pred) id = false ∧ rectR f id pred n = pred)) := by
    unfold rectR
    cases h1 : pred == -1 <;> cases h2 : livesR f pred <;> cases h3 : withinB (idR f n) (idR f pred) id <;> simp
  clear h hd hf
  rcases hc with ⟨c1, E⟩ | ⟨c1, ⟨c2, E⟩ | ⟨c2, ⟨c3, E⟩ | ⟨c3, E⟩⟩⟩
  all_goals
    have EE := Lib.hid E
    clear E
    go_enter Tryz.func110, Tryz.ntmps110
    go_wp2_with fail
    refine wp_region_calm (by kernel_rfl) (by kernel_rfl) ?_
    repeat (first | (go_big_quiet_step ((first | (go_at_call 32; exact calls_calm (hl.out _ (by (repeat (first | exact Below.refl _ _ | (with_reducible assumption) | (with_reducible refine bel_later ?_ _) | (with_reducible refine bel_alloc ?_ _) | (with_reducible refine bel_drew ?_) | (with_reducible refine bel_drewN ?_ _) | (with_reducible refine bel_set ?_ (by first | (simp; done) | (simp; omega) | (dsimp only; omega)) _)))))) | (go_at_call_of 102 (Value.int .i64 pred); exact calls_calm (hd1.out _ (by (repeat (first | exact Below.refl _ _ | (with_reducible assumption) | (with_reducible refine bel_later ?_ _) | (with_reducible refine bel_alloc ?_ _) | (with_reducible refine bel_drew ?_) | (with_reducible refine bel_drewN ?_ _) | (with_reducible refine bel_set ?_ (by first | (simp; done) | (simp; omega) | (dsimp only; omega)) _)))))) | (go_at_call_of 102 (Value.int .i64 n); exact calls_calm (hd2.out _ (by (repeat (first | exact Below.refl _ _ | (with_reducible assumption) | (with_reducible refine bel_later ?_ _) | (with_reducible refine bel_alloc ?_ _) | (with_reducible refine bel_drew ?_) | (with_reducible refine bel_drewN ?_ _) | (with_reducible refine bel_set ?_ (by first | (simp; done) | (simp; omega) | (dsimp only; omega)) _)))))) | (go_at_call 101; exact calls_calm_same (hw.out _))))) | (refine wpQuiet_step (fun K hK => ?_); go_simp; first | (refine hK _ ?_; clear hK K) | (apply Exists.intro; refine ⟨fun _ => ?_, hK _ ?_⟩; (first | (go_at_call 32; exact calls_calm (hl.out _ (by (repeat (first | exact Below.refl _ _ | (with_reducible assumption) | (with_reducible refine bel_later ?_ _) | (with_reducible refine bel_alloc ?_ _) | (with_reducible refine bel_drew ?_) | (with_reducible refine bel_drewN ?_ _) | (with_reducible refine bel_set ?_ (by first | (simp; done) | (simp; omega) | (dsimp only; omega)) _)))))) | (go_at_call_of 102 (Value.int .i64 pred); exact calls_calm (hd1.out _ (by (repeat (first | exact Below.refl _ _ | (with_reducible assumption) | (with_reducible refine bel_later ?_ _) | (with_reducible refine bel_alloc ?_ _) | (with_reducible refine bel_drew ?_) | (with_reducible refine bel_drewN ?_ _) | (with_reducible refine bel_set ?_ (by first | (simp; done) | (simp; omega) | (dsimp only; omega)) _)))))) | (go_at_call_of 102 (Value.int .i64 n); exact calls_calm (hd2.out _ (by (repeat (first | exact Below.refl _ _ | (with_reducible assumption) | (with_reducible refine bel_later ?_ _) | (with_reducible refine bel_alloc ?_ _) | (with_reducible refine bel_drew ?_) | (with_reducible refine bel_drewN ?_ _) | (with_reducible refine bel_set ?_ (by first | (simp; done) | (simp; omega) | (dsimp only; omega)) _)))))) | (go_at_call 101; exact calls_calm_same (hw.out _))); clear hK K)))
    refine wpQuiet_nil ?_
    intro _ hw'
    obtain ⟨xq, hw''⟩ := hw'
    subst hw''
    have j0 : xq.world.cell? ⟨w.heap.size + 1 + 1, 0, none⟩ = some (.int .u64 0) := by rw [later_cell xq _ _ (by simp)]; simp [go_sem]
    have j1 : xq.world.cell? ⟨w.heap.size + 1 + 1, 1, none⟩ = some (.int .i64 0) := by rw [later_cell xq _ _ (by simp)]; simp [go_sem]
    have j2 : xq.world.cell? ⟨w.heap.size + 1 + 1, 2, none⟩ = some (.slice none 0 0) := by rw [later_cell xq _ _ (by simp)]; simp [go_sem]
    have k0 : xq.world.cell? ⟨w.heap.size, 0, none⟩ = some (.int .u64 id) := by rw [later_cell xq _ _ (by simp; omega)]; simp [go_sem]
    have k1 : xq.world.cell? ⟨w.heap.size, 1, none⟩ = some (.int .i64 pred) := by rw [later_cell xq _ _ (by simp; omega)]; simp [go_sem]
    have k2 : xq.world.cell? ⟨w.heap.size, 2, none⟩ = some (.slice a ln cap) := by rw [later_cell xq _ _ (by simp; omega)]; simp [go_sem]
    go_wp2_with fail
    refine bodyPost_ret (v := .agg #[.int .u64 id, .int .i64 (rectR f id pred n), .slice a ln cap]) ?_ rfl ⟨rfl, ?_⟩
    · rw [EE.out]; simp [results, Tryz.results110, go_sem, k0, k1, k2, j0, j1, j2]
    · (repeat (first | exact Below.refl _ _ | (with_reducible assumption) | (with_reducible refine bel_later ?_ _) | (with_reducible refine bel_alloc ?_ _) | (with_reducible refine bel_drew ?_) | (with_reducible refine bel_drewN ?_ _) | (with_reducible refine bel_set ?_ (by first | (simp; done) | (simp; omega) | (dsimp only; omega)) _)))
end Go.Proofs.YtahiahjhpakeiaaGreatDoor
namespace Go.Proofs.YtahiahjhpakeiaaGreatDoor
open Go.RowKit Go.Maps Go.Sort
set_option linter.unusedVariables false
set_option linter.unusedSimpArgs false

/-- Four cells that hold a ring. -/
structure BoxIs (u : World) (b : Nat) (x0 x1 x2 x3 : Value) : Prop where
  c0 : u.cell? ⟨b, 0, none⟩ = some x0
  c1 : u.cell? ⟨b, 1, none⟩ = some x1
  c2 : u.cell? ⟨b, 2, none⟩ = some x2
  c3 : u.cell? ⟨b, 3, none⟩ = some x3
  f0 : u.frozen? ⟨b, 0, none⟩ = false
  f1 : u.frozen? ⟨b, 1, none⟩ = false
  f2 : u.frozen? ⟨b, 2, none⟩ = false
  f3 : u.frozen? ⟨b, 3, none⟩ = false
  z : b < u.heap.size
abbrev BoxOf (u : World) (b : Nat) (p : Where) : Prop := BoxIs u b (.slice (some ⟨p.b1, p.o1, none⟩) 32 p.k1) (.slice (some ⟨p.b2, p.o2, none⟩) 32 p.k2) (.slice (some ⟨p.b3, p.o3, none⟩) 32 p.k3) (.slice (some ⟨p.b4, p.o4, none⟩) 32 p.k4)
abbrev BoxNil (u : World) (b : Nat) : Prop := BoxIs u b (.slice none 0 0) (.slice none 0 0) (.slice none 0 0) (.slice none 0 0)
theorem BoxIs.block {u u' : World} {b : Nat} {x0 x1 x2 x3 : Value} (h : BoxIs u b x0 x1 x2 x3) (hs : u.heap.size ≤ u'.heap.size) (hb : u'.heap[b]? = u.heap[b]?) : BoxIs u' b x0 x1 x2 x3 :=
  ⟨(World.cell?_of_block hb).trans h.c0, (World.cell?_of_block hb).trans h.c1, (World.cell?_of_block hb).trans h.c2, (World.cell?_of_block hb).trans h.c3, (World.frozen?_of_block hb).trans h.f0, (World.frozen?_of_block hb).trans h.f1, (World.frozen?_of_block hb).trans h.f2, (World.frozen?_of_block hb).trans h.f3, Nat.lt_of_lt_of_le h.z hs⟩
theorem BoxIs.later {u u' : World} {b : Nat} {x0 x1 x2 x3 : Value} (h : BoxIs u b x0 x1 x2 x3) (hb : RowKit.Below u.heap.size u u') : BoxIs u' b x0 x1 x2 x3 := h.block hb.size (hb.block _ h.z)
theorem BoxIs.other {u : World} {b : Nat} {x0 x1 x2 x3 : Value} (h : BoxIs u b x0 x1 x2 x3) {a : Addr} (ha : b ≠ a.block) (v : Value) : BoxIs (u.setCell a v) b x0 x1 x2 x3 := h.block (by rw [size_set]; exact Nat.le_refl _) (Below.heap_setCell _ _ _ _ ha)
/-- A ring is stored. -/
theorem BoxIs.store {u u' : World} {b : Nat} {x0 x1 x2 x3 : Value} (h : BoxIs u b x0 x1 x2 x3) (y0 y1 y2 y3 : Value)
    (hu : u' = (((u.setCell ⟨b, 0, none⟩ y0).setCell ⟨b, 1, none⟩ y1).setCell ⟨b, 2, none⟩ y2).setCell ⟨b, 3, none⟩ y3) : BoxIs u' b y0 y1 y2 y3 := by
  have e1 : (u.setCell ⟨b, 0, none⟩ y0).cell? ⟨b, 1, none⟩ = some x1 := by rw [cell_set_off _ _ _ _ _ (by decide)]; exact h.c1
  have e2 : ((u.setCell ⟨b, 0, none⟩ y0).setCell ⟨b, 1, none⟩ y1).cell? ⟨b, 2, none⟩ = some x2 := by rw [cell_set_off _ _ _ _ _ (by decide), cell_set_off _ _ _ _ _ (by decide)]; exact h.c2
  have e3 : (((u.setCell ⟨b, 0, none⟩ y0).setCell ⟨b, 1, none⟩ y1).setCell ⟨b, 2, none⟩ y2).cell? ⟨b, 3, none⟩ = some x3 := by rw [cell_set_off _ _ _ _ _ (by decide), cell_set_off _ _ _ _ _ (by decide), cell_set_off _ _ _ _ _ (by decide)]; exact h.c3
  have d0 : (u.setCell ⟨b, 0, none⟩ y0).cell? ⟨b, 0, none⟩ = some y0 := World.cell?_setCell_same _ _ _ h.c0
  have d1 : ((u.setCell ⟨b, 0, none⟩ y0).setCell ⟨b, 1, none⟩ y1).cell? ⟨b, 1, none⟩ = some y1 := World.cell?_setCell_same _ _ _ e1
  have d2 : (((u.setCell ⟨b, 0, none⟩ y0).setCell ⟨b, 1, none⟩ y1).setCell ⟨b, 2, none⟩ y2).cell? ⟨b, 2, none⟩ = some y2 := World.cell?_setCell_same _ _ _ e2
  have d3 : ((((u.setCell ⟨b, 0, none⟩ y0).setCell ⟨b, 1, none⟩ y1).setCell ⟨b, 2, none⟩ y2).setCell ⟨b, 3, none⟩ y3).cell? ⟨b, 3, none⟩ = some y3 := World.cell?_setCell_same _ _ _ e3
  subst hu
  refine ⟨?_, ?_, ?_, d3, ?_, ?_, ?_, ?_, ?_⟩
  · rw [cell_set_off _ _ _ _ _ (by decide), cell_set_off _ _ _ _ _ (by decide), cell_set_off _ _ _ _ _ (by decide)]; exact d0
  · rw [cell_set_off _ _ _ _ _ (by decide), cell_set_off _ _ _ _ _ (by decide)]; exact d1
  · rw [cell_set_off _ _ _ _ _ (by decide)]; exact d2
  · simp only [World.frozen?_setCell]; exact h.f0
  · simp only [World.frozen?_setCell]; exact h.f1
  · simp only [World.frozen?_setCell]; exact h.f2
  · simp only [World.frozen?_setCell]; exact h.f3
  · simp only [size_set]; exact h.z
theorem block_set4 {u u' : World} {b : Nat} {y0 y1 y2 y3 : Value} (hu : u' = (((u.setCell ⟨b, 0, none⟩ y0).setCell ⟨b, 1, none⟩ y1).setCell ⟨b, 2, none⟩ y2).setCell ⟨b, 3, none⟩ y3) : u'.heap.size = u.heap.size ∧ ∀ c, c ≠ b → u'.heap[c]? = u.heap[c]? := by
  subst hu
  refine ⟨by simp only [size_set], fun c hc => ?_⟩
  rw [Below.heap_setCell _ _ _ _ hc, Below.heap_setCell _ _ _ _ hc, Below.heap_setCell _ _ _ _ hc, Below.heap_setCell _ _ _ _ hc]
end Go.Proofs.YtahiahjhpakeiaaGreatDoor
