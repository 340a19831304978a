/-
  copy and clear at elements of any width. No program is named here. Entries in memory: five cells each, filters in rows of their own; a table: a row of its own. No program is named here.
-/
import Derived.Test.YtahiahjhpakeiaaGreatDoorKept1
import Derived.Test.YtahiahjhpakeiaaGreatDoorKept16
import Derived.Shelf.Spec.SlicesInsertGrow
import Derived.Deep.RegionLaw
section
namespace Go.Proofs.YtahiahjhpakeiaaGreatDoor
open Go.RowKit Go
set_option linter.unusedVariables false
set_option linter.unusedSimpArgs false

section
variable {P : Program}
/-- 'copy(dst, src)' at elements of s cells: all is read before anything is written. -/
theorem run_copy_wide (w : World) (dT sT ty elem : TypeId) (s : Nat) (b o dLen dCap : Nat) (a : Addr) (sLen sCap : Nat) (cs : List Value)
    (hu : P.underlying dT = some (.slice elem)) (hs : (P.info? elem).map (·.size) = some s) (hn : cs.length = Nat.min sLen dLen * s)
    (hsrc : ∀ j v, cs[j]? = some v → w.cell? (a.add j) = some v) (hc : ∀ j, j < cs.length → (w.cell? ⟨b, o + j, none⟩).isSome = true) (hf : ∀ j, j < cs.length → w.frozen? ⟨b, o + j, none⟩ = false) (h1 : ∀ v ∈ cs, v.oneCell' = true) :
    (Builtin.copy_ #[dT, sT] ty #[.slice (some ⟨b, o, none⟩) dLen dCap, .slice (some a) sLen sCap]).run P w = .ok (goInt (Nat.min sLen dLen)) (w.setCells b o cs) := by
  have hl := run_loadCells_list (P := P) w a cs hsrc
  have hst := run_storeCells_cells (P := P) b o cs 0 w (by simpa using hc) (by simpa using hf) h1
  cases hq : P.info? elem with
  | none => simp [hq] at hs
  | some i =>
    have hi : i.size = s := by simpa [hq] using hs
    simp [Builtin.copy_, run_underlying hu, Builtin.lenOf, Builtin.firstCells, sizeOf, typeInfo, hq, hi, ← hn, hl, hst]
/-- 'clear(s)' at elements of any width. -/
theorem run_clear_wide (w : World) (t e ty : TypeId) (z : Value) (ht : P.underlying t = some (.slice e)) (hv : ∀ w, (zeroValue e).run P w = .ok z w) (b o n c : Nat) (hn : 0 < n)
    (hc : ∀ j, j < (Builtin.zeroCells z.cells n).toList.length → (w.cell? ⟨b, o + j, none⟩).isSome = true) (hf : ∀ j, j < (Builtin.zeroCells z.cells n).toList.length → w.frozen? ⟨b, o + j, none⟩ = false)
    (h1 : ∀ v ∈ (Builtin.zeroCells z.cells n).toList, v.oneCell' = true) :
    (Builtin.clear_ #[t] ty #[.slice (some ⟨b, o, none⟩) n c]).run P w = .ok (.tuple #[]) (w.setCells b o (Builtin.zeroCells z.cells n).toList) := by
  have hst := run_storeCells_cells (P := P) b o (Builtin.zeroCells z.cells n).toList 0 w (by simpa using hc) (by simpa using hf) h1
  cases n with
  | zero => omega
  | succ n => simp [Builtin.clear_, run_underlying ht, hv, hst]
end
theorem flat_len {α : Type} {k : Nat} (enc : α → List Value) (hk : ∀ x, (enc x).length = k) (l : List α) : (l.flatMap enc).length = l.length * k := by
  induction l with
  | nil => simp
  | cons x l ih => rw [List.flatMap_cons, List.length_append, hk, ih, List.length_cons, Nat.succ_mul, Nat.add_comm]
theorem flat_take {α : Type} {k : Nat} (enc : α → List Value) (hk : ∀ x, (enc x).length = k) : ∀ (l : List α) (i : Nat), (l.flatMap enc).take (i * k) = (l.take i).flatMap enc
  | [], i => by simp
  | x :: l, 0 => by simp
  | x :: l, i + 1 => by
    rw [List.take_succ_cons, List.flatMap_cons, List.flatMap_cons, ← flat_take enc hk l i, List.take_append, hk, show (i + 1) * k - k = i * k by rw [Nat.succ_mul]; omega,
      List.take_of_length_le (by rw [hk, Nat.succ_mul]; omega)]
theorem flat_drop {α : Type} {k : Nat} (enc : α → List Value) (hk : ∀ x, (enc x).length = k) : ∀ (l : List α) (i : Nat), (l.flatMap enc).drop (i * k) = (l.drop i).flatMap enc
  | [], i => by simp
  | x :: l, 0 => by simp
  | x :: l, i + 1 => by
    rw [List.drop_succ_cons, List.flatMap_cons, ← flat_drop enc hk l i, List.drop_append, hk, show (i + 1) * k - k = i * k by rw [Nat.succ_mul]; omega,
      List.drop_of_length_le (by rw [hk, Nat.succ_mul]; omega), List.nil_append]
theorem flat_at {α : Type} {k : Nat} (enc : α → List Value) (hk : ∀ x, (enc x).length = k) : ∀ (l : List α) (i j : Nat) (x : α), l[i]? = some x → j < k → (l.flatMap enc)[i * k + j]? = (enc x)[j]?
  | [], i, j, x, h, _ => by simp at h
  | y :: l, 0, j, x, h, hj => by
    simp at h
    subst h
    rw [List.flatMap_cons, Nat.zero_mul, Nat.zero_add, List.getElem?_append_left (by rw [hk]; exact hj)]
  | y :: l, i + 1, j, x, h, hj => by
    rw [List.flatMap_cons, List.getElem?_append_right (by rw [hk, Nat.succ_mul]; omega), hk, show (i + 1) * k + j - k = i * k + j by rw [Nat.succ_mul]; omega]
    exact flat_at enc hk l i j x (by simpa using h) hj
end Go.Proofs.YtahiahjhpakeiaaGreatDoor
end
section
namespace Go.Proofs.YtahiahjhpakeiaaGreatDoor
open Go.RowKit Go.Sort
set_option linter.unusedVariables false
set_option linter.unusedSimpArgs false

/-- A text's value. -/
def bs (s : Str) : ByteArray := ⟨s.toArray⟩
theorem bs_toList (s : Str) : (bs s).toList = s := ByteArray.toList_mk s
theorem bs_size (s : Str) : (bs s).size = s.length := rfl
def sV (s : Str) : Value := .string (bs s)
/-- A slice of texts whose block is one of Q. -/
def SlT (Q : Nat → Prop) (l : List Str) (w : World) (v : Value) : Prop :=
  ∃ (a : Option Addr) (cap : Nat), v = .slice a l.length cap ∧ l.length ≤ cap ∧ cap ≤ maxLen ∧ (a = none → cap = 0) ∧
    (l.length = 0 ∨ ∃ b off : Nat, a = some ⟨b, off, none⟩ ∧ Q b ∧ b < w.heap.size ∧ ∀ i, i < l.length → w.cell? ⟨b, off + i, none⟩ = some (sV (nthT l i)))
theorem SlT.slAt {Q : Nat → Prop} {l : List Str} {w : World} {v : Value} (h : SlT Q l w v) : SlAt 0 (fun i => sV (nthT l i)) l.length w v := by
  obtain ⟨a, cap, rfl, h1, h2, h3, h4⟩ := h
  refine ⟨a, cap, rfl, h1, h2, h3, h4.imp id ?_⟩
  rintro ⟨b, off, rfl, _, h5, h6⟩
  exact ⟨b, off, rfl, Nat.zero_le _, h5, h6⟩
theorem SlT.of_slAt {B : Nat} {Q : Nat → Prop} {l : List Str} {w : World} {v : Value} (h : SlAt B (fun i => sV (nthT l i)) l.length w v) (hQ : ∀ b, B ≤ b → b < w.heap.size → Q b) : SlT Q l w v := by
  obtain ⟨a, cap, rfl, h1, h2, h3, h4⟩ := h
  refine ⟨a, cap, rfl, h1, h2, h3, h4.imp id ?_⟩
  rintro ⟨b, off, rfl, h7, h5, h6⟩
  exact ⟨b, off, rfl, hQ b h7 h5, h5, h6⟩
theorem SlT.imp {Q Q' : Nat → Prop} {l : List Str} {w w' : World} {v : Value} (h : SlT Q l w v) (hQ : ∀ b, b < w.heap.size → Q b → Q' b) (hs : w.heap.size ≤ w'.heap.size) (hb : ∀ b, b < w.heap.size → Q b → w'.heap[b]? = w.heap[b]?) : SlT Q' l w' v := by
  obtain ⟨a, cap, rfl, h1, h2, h3, h4⟩ := h
  refine ⟨a, cap, rfl, h1, h2, h3, h4.imp id ?_⟩
  rintro ⟨b, off, rfl, h7, h5, h6⟩
  refine ⟨b, off, rfl, hQ b h5 h7, Nat.lt_of_lt_of_le h5 hs, fun i hi => ?_⟩
  rw [← h6 i hi]
  exact World.cell?_of_block (hb b h5 h7)
theorem SlT.below {Q : Nat → Prop} {l : List Str} {w w' : World} {v : Value} (h : SlT Q l w v) (hb : Below w.heap.size w w') : SlT Q l w' v := h.imp (fun _ _ h => h) hb.size fun b hb' _ => hb.block b hb'
theorem SlT.slice {Q : Nat → Prop} {l : List Str} {w : World} {v : Value} (h : SlT Q l w v) : ∃ a cap, v = .slice a l.length cap ∧ (a = none → cap = 0) := by
  obtain ⟨a, cap, rfl, _, _, h3, _⟩ := h; exact ⟨a, cap, rfl, h3⟩
theorem slT_nil (Q : Nat → Prop) (w : World) : SlT Q [] w (.slice none 0 0) := ⟨none, 0, rfl, Nat.le_refl _, Nat.zero_le _, fun _ => rfl, Or.inl rfl⟩
theorem SlT.one {Q : Nat → Prop} {l : List Str} {w : World} {v : Value} (h : SlT Q l w v) : v.oneCell' = true := by
  obtain ⟨a, cap, rfl, _⟩ := h; rfl

/-- An entry and the header of its filters. -/
structure Row where
  e : Ent
  v : Value
def Row.cells (r : Row) : List Value := [sV r.e.g, .int .i64 r.e.c, r.v, .bool r.e.any, .int .i64 r.e.t]
theorem Row.len (r : Row) : r.cells.length = 5 := rfl
theorem Row.one {r : Row} (h : r.v.oneCell' = true) : ∀ u ∈ r.cells, u.oneCell' = true := by
  intro u hu
  simp only [Row.cells, List.mem_cons, List.not_mem_nil, or_false] at hu
  rcases hu with rfl | rfl | rfl | rfl | rfl
  · rfl
  · rfl
  · exact h
  · rfl
  · rfl
/-- An entry as a value. -/
def EntV (e : Ent) (v : Value) : Value := .agg #[sV e.g, .int .i64 e.c, v, .bool e.any, .int .i64 e.t]
def flat (rs : List Row) : List Value := rs.flatMap Row.cells
theorem flat_length (rs : List Row) : (flat rs).length = rs.length * 5 := flat_len Row.cells Row.len rs
def entsOf (rs : List Row) : List Ent := rs.map (·.e)
theorem entsOf_len (rs : List Row) : (entsOf rs).length = rs.length := by simp [entsOf]
theorem entAt_of {rs : List Row} {k : Nat} (h : k < rs.length) : entAt (entsOf rs) k = rs[k].e := by
  rw [entAt_eq (by rw [entsOf_len]; exact h)]; simp [entsOf]
theorem flat_cell {rs : List Row} {k : Nat} (h : k < rs.length) {j : Nat} (hj : j < 5) : (flat rs)[k * 5 + j]? = rs[k].cells[j]? :=
  flat_at Row.cells Row.len rs k j rs[k] (List.getElem?_eq_getElem h) hj
theorem flat_one {rs : List Row} (h : ∀ r ∈ rs, r.v.oneCell' = true) : ∀ u ∈ flat rs, u.oneCell' = true := by
  intro u hu
  obtain ⟨r, hr, hu⟩ := List.mem_flatMap.1 hu
  exact Row.one (h r hr) u hu
/-- The cells of row k at an address. -/
structure RowAt (w : World) (b o : Nat) (r : Row) : Prop where
  c0 : w.cell? ⟨b, o, none⟩ = some (sV r.e.g)
  c1 : w.cell? ⟨b, o + 1, none⟩ = some (.int .i64 r.e.c)
  c2 : w.cell? ⟨b, o + 2, none⟩ = some r.v
  c3 : w.cell? ⟨b, o + 3, none⟩ = some (.bool r.e.any)
  c4 : w.cell? ⟨b, o + 4, none⟩ = some (.int .i64 r.e.t)
theorem RowAt.same {w w' : World} {b o : Nat} {r : Row} (h : RowAt w b o r) (hb : w'.heap[b]? = w.heap[b]?) : RowAt w' b o r :=
  ⟨(World.cell?_of_block hb).trans h.c0, (World.cell?_of_block hb).trans h.c1, (World.cell?_of_block hb).trans h.c2, (World.cell?_of_block hb).trans h.c3, (World.cell?_of_block hb).trans h.c4⟩
theorem rowAt_of {w : World} {b o : Nat} {r : Row} (h : ∀ j u, r.cells[j]? = some u → w.cell? ⟨b, o + j, none⟩ = some u) : RowAt w b o r :=
  ⟨h 0 _ rfl, h 1 _ rfl, h 2 _ rfl, h 3 _ rfl, h 4 _ rfl⟩
/-- Some entries in memory. -/
def EntsIn (Q : Nat → Prop) (l : List Ent) (w : World) (v : Value) : Prop :=
  ∃ (rs : List Row) (a : Option Addr) (cap : Nat), entsOf rs = l ∧ v = .slice a l.length cap ∧ l.length ≤ cap ∧ cap ≤ maxLen ∧ (a = none → cap = 0) ∧
    (l.length = 0 ∨ ∃ b off : Nat, a = some ⟨b, off, none⟩ ∧ Q b ∧ b < w.heap.size ∧ ∀ k (hk : k < rs.length), RowAt w b (off + k * 5) rs[k]) ∧ ∀ r ∈ rs, SlT Q r.e.fs w r.v
theorem EntsIn.imp {Q Q' : Nat → Prop} {l : List Ent} {w w' : World} {v : Value} (h : EntsIn Q l w v) (hQ : ∀ b, b < w.heap.size → Q b → Q' b) (hs : w.heap.size ≤ w'.heap.size) (hb : ∀ b, b < w.heap.size → Q b → w'.heap[b]? = w.heap[b]?) : EntsIn Q' l w' v := by
  obtain ⟨rs, a, cap, h0, rfl, h1, h2, h3, h4, h5⟩ := h
  refine ⟨rs, a, cap, h0, rfl, h1, h2, h3, h4.imp id ?_, fun r hr => (h5 r hr).imp hQ hs hb⟩
  rintro ⟨b, off, rfl, h7, h8, h6⟩
  exact ⟨b, off, rfl, hQ b h8 h7, Nat.lt_of_lt_of_le h8 hs, fun k hk => (h6 k hk).same (hb b h8 h7)⟩
theorem EntsIn.below {Q : Nat → Prop} {l : List Ent} {w w' : World} {v : Value} (h : EntsIn Q l w v) (hb : Below w.heap.size w w') : EntsIn Q l w' v := h.imp (fun _ _ h => h) hb.size fun b hb' _ => hb.block b hb'
theorem EntsIn.slice {Q : Nat → Prop} {l : List Ent} {w : World} {v : Value} (h : EntsIn Q l w v) : ∃ a cap, v = .slice a l.length cap ∧ l.length ≤ cap ∧ cap ≤ maxLen := by
  obtain ⟨rs, a, cap, h0, rfl, h1, h2, _⟩ := h; exact ⟨a, cap, rfl, h1, h2⟩
/-- Entry k, opened. -/
theorem EntsIn.at {Q : Nat → Prop} {l : List Ent} {w : World} {a : Option Addr} {cap : Nat} (h : EntsIn Q l w (.slice a l.length cap)) (k : Nat) (hk : k < l.length) :
    ∃ (b off : Nat) (fa : Option Addr) (fc : Nat), a = some ⟨b, off, none⟩ ∧ Q b ∧ b < w.heap.size ∧ w.cell? ⟨b, off + k * 5, none⟩ = some (.string (bs (entAt l k).g)) ∧ w.cell? ⟨b, off + k * 5 + 1, none⟩ = some (.int .i64 (entAt l k).c) ∧
      w.cell? ⟨b, off + k * 5 + 2, none⟩ = some (.slice fa (entAt l k).fs.length fc) ∧ w.cell? ⟨b, off + k * 5 + 3, none⟩ = some (.bool (entAt l k).any) ∧ w.cell? ⟨b, off + k * 5 + 4, none⟩ = some (.int .i64 (entAt l k).t) ∧
      SlT Q (entAt l k).fs w (.slice fa (entAt l k).fs.length fc) := by
  obtain ⟨rs, a', cap', h0, e, h1, h2, h3, h4, h5⟩ := h
  injection e with e1 e2 e3
  subst e1
  subst h0
  rw [entsOf_len] at hk
  obtain ⟨b, off, rfl, h7, h8, h6⟩ := h4.resolve_left (by rw [entsOf_len]; omega)
  obtain ⟨fa, fc, e4, _⟩ := (h5 _ (List.getElem_mem hk)).slice
  have hr := h6 k hk
  have hs := h5 _ (List.getElem_mem hk)
  rw [entAt_of hk]
  exact ⟨b, off, fa, fc, rfl, h7, h8, hr.c0, hr.c1, by rw [hr.c2, e4], hr.c3, hr.c4, by rw [← e4]; exact hs⟩
/-- The rows of a slice of one's own. -/
theorem own_rows {w : World} {B e : Nat} {v : Value} {rs : List Row} (h : w.ownsRow B e 5 v rs.length (flat rs)) {Q : Nat → Prop} (hQ : ∀ q, v.ownBlock = some q → Q q) (hf : ∀ r ∈ rs, SlT Q r.e.fs w r.v) : EntsIn Q (entsOf rs) w v := by
  have hc := fun g hg => h.cells (g := g) hg
  rcases h.2 with ⟨rfl, h0⟩ | ⟨g, cap, cur, rfl, hB, hg, hn, hm, hs, ht⟩
  · have : rs = [] := List.length_eq_zero_iff.1 h0
    subst this
    exact ⟨[], none, 0, rfl, rfl, Nat.le_refl _, Nat.zero_le _, fun _ => rfl, Or.inl rfl, by simp⟩
  · refine ⟨rs, _, cap, rfl, by rw [entsOf_len], by rw [entsOf_len]; exact hn, hm, fun h => (by cases h), ?_, hf⟩
    refine Or.inr ⟨g, 0, rfl, hQ g rfl, (Array.getElem?_eq_some_iff.1 hg).1, fun k hk => rowAt_of fun j u hu => ?_⟩
    have hj : j < 5 := by
      have := (List.getElem?_eq_some_iff.1 hu).1
      rwa [Row.len] at this
    have := hc g rfl (k * 5 + j) u (by rw [flat_cell hk hj]; exact hu)
    rw [show ((⟨g, 0, none⟩ : Addr).add (k * 5 + j)) = ⟨g, 0 + k * 5 + j, none⟩ from by unfold Addr.add; by_cases e : k * 5 + j = 0 <;> simp [e]; omega] at this
    exact this

/-- A table: a cell with the header of a row of its own; all its blocks are of R, and R holds no block that is not there. -/
structure TabIn (e : TypeId) (R : Nat → Prop) (w : World) (tb : Nat) (v : Value) (rs : List Row) : Prop where
  tbR : R tb
  cell : w.cell? ⟨tb, 0, none⟩ = some v
  fz : w.frozen? ⟨tb, 0, none⟩ = false
  row : w.ownsRow 0 e 5 v rs.length (flat rs)
  rowR : ∀ q, v.ownBlock = some q → R q ∧ q ≠ tb
  fs : ∀ r ∈ rs, SlT (fun b => R b ∧ b ≠ tb ∧ v.ownBlock ≠ some b) r.e.fs w r.v
  old : ∀ b, R b → b < w.heap.size
  ord : OrdE (entsOf rs)
  few : rs.length ≤ 400
  clean : ∀ r ∈ rs, cleanE r.e = r.e
def TabAt (e : TypeId) (R : Nat → Prop) (w : World) (tb : Nat) (l : List Ent) : Prop := ∃ v rs, entsOf rs = l ∧ TabIn e R w tb v rs
section
variable {e : TypeId} {R : Nat → Prop} {w w' : World} {tb : Nat} {l : List Ent} {v : Value} {rs : List Row}
theorem ownsRow_same {n k base : Nat} {xs : List Value} (h : w.ownsRow base e k v n xs) (hb : ∀ q, v.ownBlock = some q → w'.heap[q]? = w.heap[q]?) : w'.ownsRow base e k v n xs := by
  refine ⟨h.1, ?_⟩
  rcases h.2 with h0 | ⟨g, cap, cur, rfl, hB, hg, hn, hm, hs, ht⟩
  · exact Or.inl h0
  · exact Or.inr ⟨g, cap, cur, rfl, hB, (hb g rfl).trans hg, hn, hm, hs, ht⟩
theorem TabIn.tbz (h : TabIn e R w tb v rs) : tb < w.heap.size := h.old _ h.tbR
theorem TabIn.same (h : TabIn e R w tb v rs) (hs : w.heap.size ≤ w'.heap.size) (hb : ∀ b, R b → w'.heap[b]? = w.heap[b]?) : TabIn e R w' tb v rs where
  tbR := h.tbR
  cell := (World.cell?_of_block (hb _ h.tbR)).trans h.cell
  fz := (World.frozen?_of_block (hb _ h.tbR)).trans h.fz
  row := ownsRow_same h.row fun q hq => hb q (h.rowR q hq).1
  rowR := h.rowR
  fs := fun r hr => (h.fs r hr).imp (fun _ _ h => h) hs fun b _ hq => hb b hq.1
  old := fun b hR => Nat.lt_of_lt_of_le (h.old b hR) hs
  ord := h.ord
  few := h.few
  clean := h.clean
theorem TabIn.below (h : TabIn e R w tb v rs) (hb : Below w.heap.size w w') : TabIn e R w' tb v rs := h.same hb.size fun b hR => hb.block b (h.old b hR)
theorem TabIn.kept {S : Nat → Prop} (h : TabIn e R w tb v rs) (hk : Kept S w w') (hS : ∀ b, R b → ¬ S b) : TabIn e R w' tb v rs := h.same hk.size fun b hR => hk.block b (h.old b hR) (hS b hR)
theorem TabAt.below (h : TabAt e R w tb l) (hb : Below w.heap.size w w') : TabAt e R w' tb l := by
  obtain ⟨v, rs, h0, h1⟩ := h; exact ⟨v, rs, h0, h1.below hb⟩
theorem TabAt.kept {S : Nat → Prop} (h : TabAt e R w tb l) (hk : Kept S w w') (hS : ∀ b, R b → ¬ S b) : TabAt e R w' tb l := by
  obtain ⟨v, rs, h0, h1⟩ := h; exact ⟨v, rs, h0, h1.kept hk hS⟩
theorem TabAt.ord (h : TabAt e R w tb l) : OrdE l := by obtain ⟨v, rs, rfl, h1⟩ := h; exact h1.ord
theorem TabAt.old (h : TabAt e R w tb l) : ∀ b, R b → b < w.heap.size := by obtain ⟨v, rs, rfl, h1⟩ := h; exact h1.old
theorem TabAt.few (h : TabAt e R w tb l) : l.length ≤ 400 := by obtain ⟨v, rs, rfl, h1⟩ := h; rw [entsOf_len]; exact h1.few
theorem TabAt.clean (h : TabAt e R w tb l) : ∀ x ∈ l, cleanE x = x := by
  obtain ⟨v, rs, rfl, h1⟩ := h
  intro x hx
  obtain ⟨r, hr, rfl⟩ := List.mem_map.1 hx
  exact h1.clean r hr
theorem TabIn.rows (h : TabIn e R w tb v rs) : EntsIn R (entsOf rs) w v :=
  own_rows h.row (fun q hq => (h.rowR q hq).1) fun r hr => (h.fs r hr).imp (fun _ _ h => h.1) (Nat.le_refl _) fun _ _ _ => rfl
/-- A new table is empty. -/
theorem tab_new (hc : w.cell? ⟨tb, 0, none⟩ = some (.slice none 0 0)) (hf : w.frozen? ⟨tb, 0, none⟩ = false) (hz : tb < w.heap.size) : TabAt e (fun b => b = tb) w tb [] :=
  ⟨_, [], rfl, ⟨rfl, hc, hf, ⟨rfl, Or.inl ⟨rfl, rfl⟩⟩, (fun q hq => by simp [Value.ownBlock] at hq), by simp, (fun b hb => by subst hb; exact hz), List.Pairwise.nil, Nat.zero_le _, by simp⟩⟩
end
end Go.Proofs.YtahiahjhpakeiaaGreatDoor
end
