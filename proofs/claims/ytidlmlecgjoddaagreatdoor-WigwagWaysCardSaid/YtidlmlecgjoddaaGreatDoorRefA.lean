/-
  The document's ring in memory: four rows of 32, read as the members by their addresses. No program is named here.
-/
import Derived.Test.YtidlmlecgjoddaaGreatDoorChordH
namespace Go.Proofs.YtidlmlecgjoddaaGreatDoor
open Go.RowKit Go.Maps
set_option linter.unusedVariables false
set_option linter.unusedSimpArgs false

/-- A slice of 32 elements of s cells each. -/
structure Row32 (Q : Nat → Prop) (w : World) (s : Nat) (g : Nat → Value) (b off cap : Nat) : Prop where
  c0 : 32 ≤ cap
  c1 : cap ≤ maxLen
  q : Q b
  z : b < w.heap.size
  cell : ∀ j, j < 32 * s → w.cell? ⟨b, off + j, none⟩ = some (g j)
theorem Row32.imp {Q Q' : Nat → Prop} {w w' : World} {s : Nat} {g : Nat → Value} {b off cap : Nat} (h : Row32 Q w s g b off cap) (hQ : Q b → Q' b) (hs : w.heap.size ≤ w'.heap.size) (hb : w'.heap[b]? = w.heap[b]?) : Row32 Q' w' s g b off cap :=
  ⟨h.c0, h.c1, hQ h.q, Nat.lt_of_lt_of_le h.z hs, fun j hj => (World.cell?_of_block hb).trans (h.cell j hj)⟩
theorem Row32.congr {Q : Nat → Prop} {w : World} {s : Nat} {g g' : Nat → Value} {b off cap : Nat} (h : Row32 Q w s g b off cap) (e : ∀ j, j < 32 * s → g j = g' j) : Row32 Q w s g' b off cap :=
  ⟨h.c0, h.c1, h.q, h.z, fun j hj => by rw [h.cell j hj, e j hj]⟩

/-- Cell j of the peers' row; V: the lists' headers. -/
def peerC (f : RS) (V : Nat → Value) (j : Nat) : Value :=
  if j % 3 = 0 then .int .u64 (idR f (j / 3 : Nat)) else if j % 3 = 1 then .int .i64 (predR f (j / 3 : Nat)) else V (j / 3)
theorem peerC0 (f : RS) (V : Nat → Value) (k : Nat) : peerC f V (k * 3) = .int .u64 (idR f k) := by
  unfold peerC; rw [if_pos (by omega), show k * 3 / 3 = k by omega]
theorem peerC1 (f : RS) (V : Nat → Value) (k : Nat) : peerC f V (k * 3 + 1) = .int .i64 (predR f k) := by
  unfold peerC; rw [if_neg (by omega), if_pos (by omega), show (k * 3 + 1) / 3 = k by omega]
theorem peerC2 (f : RS) (V : Nat → Value) (k : Nat) : peerC f V (k * 3 + 2) = V k := by
  unfold peerC; rw [if_neg (by omega), if_neg (by omega), show (k * 3 + 2) / 3 = k by omega]

/-- Where the four rows are. -/
structure Where where
  b1 : Nat
  o1 : Nat
  k1 : Nat
  b2 : Nat
  o2 : Nat
  k2 : Nat
  b3 : Nat
  o3 : Nat
  k3 : Nat
  b4 : Nat
  o4 : Nat
  k4 : Nat
def Where.used (p : Where) : Value := .slice (some ⟨p.b1, p.o1, none⟩) 32 p.k1
def Where.live (p : Where) : Value := .slice (some ⟨p.b2, p.o2, none⟩) 32 p.k2
def Where.ids (p : Where) : Value := .slice (some ⟨p.b3, p.o3, none⟩) 32 p.k3
def Where.peers (p : Where) : Value := .slice (some ⟨p.b4, p.o4, none⟩) 32 p.k4
def Where.val (p : Where) : Value := .agg #[p.used, p.live, p.ids, p.peers]

/-- The document's ring: in rows of Q's. -/
structure RefRows (Q : Nat → Prop) (w : World) (p : Where) (f : RS) (V : Nat → Value) : Prop where
  used : Row32 Q w 1 (fun k => .bool (f (k : Nat)).isSome) p.b1 p.o1 p.k1
  live : Row32 Q w 1 (fun k => .bool (livesR f (k : Nat))) p.b2 p.o2 p.k2
  ids : Row32 Q w 1 (fun k => .int .u64 (idR f (k : Nat))) p.b3 p.o3 p.k3
  peers : Row32 Q w 3 (peerC f V) p.b4 p.o4 p.k4
/-- The lists in blocks of Q's. -/
def RefLists (Q : Nat → Prop) (w : World) (f : RS) (V : Nat → Value) : Prop := ∀ k : Nat, k < 32 → SlIn Q (succR f k) w (V k)
structure RefIs (Q : Nat → Prop) (w : World) (p : Where) (f : RS) (V : Nat → Value) : Prop where
  rows : RefRows Q w p f V
  list : RefLists Q w f V

theorem RefRows.same {Q Q' : Nat → Prop} {w w' : World} {p : Where} {f : RS} {V : Nat → Value} (h : RefRows Q w p f V) (hQ : ∀ b, b < w.heap.size → Q b → Q' b) (hs : w.heap.size ≤ w'.heap.size)
    (hb : ∀ b, b < w.heap.size → Q b → w'.heap[b]? = w.heap[b]?) : RefRows Q' w' p f V where
  used := h.used.imp (hQ _ h.used.z) hs (hb _ h.used.z h.used.q)
  live := h.live.imp (hQ _ h.live.z) hs (hb _ h.live.z h.live.q)
  ids := h.ids.imp (hQ _ h.ids.z) hs (hb _ h.ids.z h.ids.q)
  peers := h.peers.imp (hQ _ h.peers.z) hs (hb _ h.peers.z h.peers.q)
theorem RefLists.same {Q Q' : Nat → Prop} {w w' : World} {f : RS} {V : Nat → Value} (h : RefLists Q w f V) (hQ : ∀ b, b < w.heap.size → Q b → Q' b) (hs : w.heap.size ≤ w'.heap.size)
    (hb : ∀ b, b < w.heap.size → Q b → w'.heap[b]? = w.heap[b]?) : RefLists Q' w' f V := fun k hk => (h k hk).imp hQ hs hb
theorem RefIs.same {Q Q' : Nat → Prop} {w w' : World} {p : Where} {f : RS} {V : Nat → Value} (h : RefIs Q w p f V) (hQ : ∀ b, b < w.heap.size → Q b → Q' b) (hs : w.heap.size ≤ w'.heap.size)
    (hb : ∀ b, b < w.heap.size → Q b → w'.heap[b]? = w.heap[b]?) : RefIs Q' w' p f V := ⟨h.rows.same hQ hs hb, h.list.same hQ hs hb⟩
theorem RefRows.below {Q : Nat → Prop} {w w' : World} {p : Where} {f : RS} {V : Nat → Value} (h : RefRows Q w p f V) (hb : Below w.heap.size w w') : RefRows Q w' p f V :=
  h.same (fun _ _ h => h) hb.size fun b hb' _ => hb.block b hb'
theorem RefLists.below {Q : Nat → Prop} {w w' : World} {f : RS} {V : Nat → Value} (h : RefLists Q w f V) (hb : Below w.heap.size w w') : RefLists Q w' f V :=
  h.same (fun _ _ h => h) hb.size fun b hb' _ => hb.block b hb'
theorem RefIs.below {Q : Nat → Prop} {w w' : World} {p : Where} {f : RS} {V : Nat → Value} (h : RefIs Q w p f V) (hb : Below w.heap.size w w') : RefIs Q w' p f V := ⟨h.rows.below hb, h.list.below hb⟩
theorem RefIs.kept {S Q : Nat → Prop} {w w' : World} {p : Where} {f : RS} {V : Nat → Value} (h : RefIs Q w p f V) (hk : Kept S w w') (hS : ∀ b, b < w.heap.size → Q b → ¬ S b) : RefIs Q w' p f V :=
  h.same (fun _ _ h => h) hk.size fun b hb' hq => hk.block b hb' (hS b hb' hq)

/-- What a call of the document's leaves: a ring in new rows, its lists old or new. -/
def RefNew (Q : Nat → Prop) (w : World) (f : RS) (x : Value) (w' : World) : Prop :=
  ∃ p V, x = p.val ∧ RefIs (fun b => (Q b ∧ b < w.heap.size) ∨ w.heap.size ≤ b) w' p f V ∧ Below w.heap.size w w'
theorem RefNew.old {Q : Nat → Prop} {w w' : World} {p : Where} {f : RS} {V : Nat → Value} (h : RefIs Q w p f V) (hb : Below w.heap.size w w') : RefNew Q w f p.val w' :=
  ⟨p, V, rfl, h.same (fun b hb' hq => Or.inl ⟨hq, hb'⟩) hb.size fun b hb' _ => hb.block b hb', hb⟩
/-- A list's header, opened. -/
theorem SlIn.slice {Q : Nat → Prop} {l : List Int} {w : World} {v : Value} (h : SlIn Q l w v) : ∃ a cap, v = .slice a l.length cap ∧ True := by
  obtain ⟨a, cap, rfl, _⟩ := h; exact ⟨a, cap, rfl, trivial⟩

section
variable {Q : Nat → Prop} {w : World} {p : Where} {f : RS} {V : Nat → Value}
theorem RefRows.at_used (h : RefRows Q w p f V) {k : Nat} (hk : k < 32) : w.cell? ⟨p.b1, p.o1 + k, none⟩ = some (.bool (f k).isSome) := h.used.cell k (by omega)
theorem RefRows.at_live (h : RefRows Q w p f V) {k : Nat} (hk : k < 32) : w.cell? ⟨p.b2, p.o2 + k, none⟩ = some (.bool (livesR f k)) := h.live.cell k (by omega)
theorem RefRows.at_id (h : RefRows Q w p f V) {k : Nat} (hk : k < 32) : w.cell? ⟨p.b3, p.o3 + k, none⟩ = some (.int .u64 (idR f k)) := h.ids.cell k (by omega)
theorem RefRows.at_peer (h : RefRows Q w p f V) {k : Nat} (hk : k < 32) : w.cell? ⟨p.b4, p.o4 + k * 3, none⟩ = some (.int .u64 (idR f k)) ∧ w.cell? ⟨p.b4, p.o4 + k * 3 + 1, none⟩ = some (.int .i64 (predR f k)) ∧ w.cell? ⟨p.b4, p.o4 + k * 3 + 2, none⟩ = some (V k) := by
  refine ⟨?_, ?_, ?_⟩
  · rw [h.peers.cell (k * 3) (by omega), peerC0]
  · rw [Nat.add_assoc, h.peers.cell (k * 3 + 1) (by omega), peerC1]
  · rw [Nat.add_assoc, h.peers.cell (k * 3 + 2) (by omega), peerC2]
end

/-! Writes into a row of the call's own. -/
theorem Row32.set {Q : Nat → Prop} {w : World} {s : Nat} {g : Nat → Value} {b off cap : Nat} (h : Row32 Q w s g b off cap) {j : Nat} (hj : j < 32 * s) (v : Value) : Row32 Q (w.setCell ⟨b, off + j, none⟩ v) s (fun i => if i = j then v else g i) b off cap :=
  ⟨h.c0, h.c1, h.q, by rw [size_set]; exact h.z, fun i hi => by
    by_cases e : i = j
    · subst e; rw [if_pos rfl]; exact World.cell?_setCell_same _ _ _ (h.cell i hi)
    · rw [if_neg e, cell_set_off _ _ _ _ _ (by omega)]; exact h.cell i hi⟩
theorem Row32.other {Q : Nat → Prop} {w : World} {s : Nat} {g : Nat → Value} {b off cap : Nat} (h : Row32 Q w s g b off cap) (c : Nat) (o : Nat) (hne : c ≠ b) (v : Value) : Row32 Q (w.setCell ⟨c, o, none⟩ v) s g b off cap :=
  ⟨h.c0, h.c1, h.q, by rw [size_set]; exact h.z, fun i hi => by rw [cell_set_block _ _ _ _ _ _ hne]; exact h.cell i hi⟩
/-- The rows are four blocks from m on, into which one may write. -/
structure FreshRows (m : Nat) (w : World) (p : Where) : Prop where
  m1 : m ≤ p.b1
  m2 : m ≤ p.b2
  m3 : m ≤ p.b3
  m4 : m ≤ p.b4
  n12 : p.b1 ≠ p.b2
  n13 : p.b1 ≠ p.b3
  n14 : p.b1 ≠ p.b4
  n23 : p.b2 ≠ p.b3
  n24 : p.b2 ≠ p.b4
  n34 : p.b3 ≠ p.b4
  f1 : ∀ o, w.frozen? ⟨p.b1, o, none⟩ = false
  f2 : ∀ o, w.frozen? ⟨p.b2, o, none⟩ = false
  f3 : ∀ o, w.frozen? ⟨p.b3, o, none⟩ = false
  f4 : ∀ o, w.frozen? ⟨p.b4, o, none⟩ = false
theorem FreshRows.same {m : Nat} {w w' : World} {p : Where} (h : FreshRows m w p) (h1 : w'.heap[p.b1]? = w.heap[p.b1]?) (h2 : w'.heap[p.b2]? = w.heap[p.b2]?) (h3 : w'.heap[p.b3]? = w.heap[p.b3]?) (h4 : w'.heap[p.b4]? = w.heap[p.b4]?) : FreshRows m w' p :=
  { h with f1 := fun o => (World.frozen?_of_block h1).trans (h.f1 o), f2 := fun o => (World.frozen?_of_block h2).trans (h.f2 o), f3 := fun o => (World.frozen?_of_block h3).trans (h.f3 o), f4 := fun o => (World.frozen?_of_block h4).trans (h.f4 o) }
theorem FreshRows.set {m : Nat} {w : World} {p : Where} (h : FreshRows m w p) (a : Addr) (v : Value) : FreshRows m (w.setCell a v) p :=
  { h with f1 := fun o => by rw [World.frozen?_setCell]; exact h.f1 o, f2 := fun o => by rw [World.frozen?_setCell]; exact h.f2 o, f3 := fun o => by rw [World.frozen?_setCell]; exact h.f3 o, f4 := fun o => by rw [World.frozen?_setCell]; exact h.f4 o }
theorem FreshRows.below {Q : Nat → Prop} {m : Nat} {w w' : World} {p : Where} {f : RS} {V : Nat → Value} (h : FreshRows m w p) (hr : RefRows Q w p f V) (hb : Below w.heap.size w w') : FreshRows m w' p :=
  h.same (hb.block _ hr.used.z) (hb.block _ hr.live.z) (hb.block _ hr.ids.z) (hb.block _ hr.peers.z)
/-- What of a member the rows tell. -/
theorem peerC_eq {f f' : RS} {V V' : Nat → Value} {j : Nat} (h0 : idR f' (j / 3 : Nat) = idR f (j / 3 : Nat)) (h1 : predR f' (j / 3 : Nat) = predR f (j / 3 : Nat)) (h2 : V' (j / 3) = V (j / 3)) : peerC f V j = peerC f' V' j := by
  unfold peerC; rw [h0, h1, h2]
end Go.Proofs.YtidlmlecgjoddaaGreatDoor
