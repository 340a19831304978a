
/-
  Several tables, a window and a list of places, side by side.
-/
import Derived.Test.YtacdgfkahppmdaaWin
import Derived.Test.YtacdgfkahppmdaaTabO
namespace Go.Proofs.Ytacdgfkahppmdaa
open Go.RowKit Go.Maps Go.Sort Go.WideShapes Go.ChangeShapes Go.Deep
set_option linter.unusedVariables false
set_option linter.unusedSimpArgs false

/-- Some places in a block of Q. -/
def CellsIn (Q : Nat → Prop) (C : List Int) (w : World) (v : Value) : Prop :=
  ∃ g cap, v = .slice (some ⟨g, 0, none⟩) C.length cap ∧ Q g ∧ g < w.heap.size ∧ ∀ i, i < C.length → w.cell? ⟨g, 0 + i, none⟩ = some (.int .u64 (nth C i))
theorem CellsIn.same {Q Q' : Nat → Prop} {C : List Int} {w w' : World} {v : Value} (h : CellsIn Q C w v) (hQ : ∀ b, b < w.heap.size → Q b → Q' b) (hs : w.heap.size ≤ w'.heap.size) (hb : ∀ b, b < w.heap.size → Q b → w'.heap[b]? = w.heap[b]?) : CellsIn Q' C w' v := by
  obtain ⟨g, cap, rfl, h1, h2, h3⟩ := h
  exact ⟨g, cap, rfl, hQ g h2 h1, Nat.lt_of_lt_of_le h2 hs, fun i hi => (World.cell?_of_block (hb g h2 h1)).trans (h3 i hi)⟩
def Hand (D : Nat → Prop) (W w : World) (X : Nat) (ls : List (List Ent)) (xb N : Nat) (f : Int → Option Value) (C : List Int) (cv : Value) : Prop :=
  ∃ Qw : Nat → Prop, Fam D W w X ls ∧ Win Qw w xb N f ∧ (∀ b, Qw b → D b) ∧ (∀ b, D b → W.heap.size ≤ b) ∧ (C = [] ∨ CellsIn (fun b => D b ∧ ¬ Qw b) C w cv)
section
variable {D : Nat → Prop} {W w w' : World} {X xb N : Nat} {ls : List (List Ent)} {f : Int → Option Value} {C : List Int} {cv : Value}
theorem Hand.fam (h : Hand D W w X ls xb N f C cv) : Fam D W w X ls := by obtain ⟨_, h, _⟩ := h; exact h
theorem Hand.bel (h : Hand D W w X ls xb N f C cv) : Below W.heap.size W w := h.fam.bel
theorem Hand.later (h : Hand D W w X ls xb N f C cv) (hb : Below w.heap.size w w') : Hand D W w' X ls xb N f C cv := by
  obtain ⟨Qw, h1, h2, h3, h4, h5⟩ := h
  exact ⟨Qw, (h1.later hb).less fun b hD => Or.inl hD, h2.same (fun _ _ h => h) hb.size fun b hb' _ => hb.block b hb', h3, h4, h5.imp id fun h => h.same (fun _ _ h => h) hb.size fun b hb' _ => hb.block b hb'⟩
theorem Hand.put (h : Hand D W w X ls xb N f C cv) {i : Nat} {l : List Ent} (hi : ls[i]? = some l) (x : Ent) (fv : Value) (hf : SlS 0 x.fs w fv) (hl : x.fs.length ≤ 1000000) (hn : fullB l x = false) :
    Calls Try.prog 9 #[.pointer (some ⟨X + i, 0, none⟩), EntV x fv] w fun e w' => e = .returned .nilIface ∧ Hand D W w' X (ls.set i (putE l (cleanE x))) xb N f C cv ∧ Kept (fun b => ¬ D b) w w' := by
  obtain ⟨Qw, h1, h2, h3, h4, h5⟩ := h
  refine (h1.put hi x fv hf hl hn).mono ?_
  rintro e w' ⟨rfl, hF, hk⟩
  exact ⟨rfl, ⟨Qw, hF, h2.same (fun _ _ h => h) hk.size fun b hb hq => hk.block b hb fun hn => hn (h3 b hq), h3, h4, h5.imp id fun h => h.same (fun _ _ h => h) hk.size fun b hb hq => hk.block b hb fun hn => hn hq.1⟩, hk⟩
theorem Hand.move (h : Hand D W w X ls xb N f C cv) {i : Nat} {l : List Ent} (hi : ls[i]? = some l) (hs : ∀ e ∈ l, e.g.length ≤ 1000000) (x y : Int) :
    Calls Try.prog 15 #[.pointer (some ⟨X + i, 0, none⟩), .int .u64 x, .int .u64 y] w fun e w' => ∃ v, e = .returned v ∧ ∃ D', Hand D' W w' X (ls.set i (stayE (inE x y) l)) xb N f C cv ∧ EntsIn D' ((l.filter (inE x y)).map cleanE) w' v := by
  obtain ⟨Qw, h1, h2, h3, h4, h5⟩ := h
  have hz := h1.bel.size
  refine (h1.move hi hs x y).mono ?_
  rintro e w' ⟨v, rfl, hE, hF, hk⟩
  refine ⟨v, rfl, _, ⟨Qw, hF, h2.same (fun _ _ h => h) hk.size fun b hb hq => hk.block b hb fun hn => hn (h3 b hq), (fun b hq => Or.inl (h3 b hq)), ?_, h5.imp id fun h => h.same (fun _ _ h => ⟨Or.inl h.1, h.2⟩) hk.size fun b hb hq => hk.block b hb fun hn => hn hq.1⟩, hE.imp (fun _ _ h => Or.inr h) (Nat.le_refl _) fun _ _ _ => rfl⟩
  rintro b (hb | hb)
  · exact h4 b hb
  · exact Nat.le_trans hz hb.1
theorem Hand.come (h : Hand D W w X ls xb N f C cv) (p n L cm : Int) (hp0 : 0 ≤ p) (hp : p < 32) (hn1 : 1 ≤ n) (hn : n ≤ 1000) (hf : (f p).getD zOne = .agg #[.int .i64 L, .int .u64 cm]) (hL0 : 0 ≤ L) (hL : L < n) (hN : N ≤ 1000) :
    Calls Try.prog 19 #[.pointer (some ⟨xb, 0, none⟩), .int .i64 p, .int .i64 n] w fun e w' => e = .returned (.tuple #[.int .i64 1, .nilIface]) ∧ ∃ (D' : Nat → Prop) (cm' : Int), Hand D' W w' X ls xb (N + 1) (setX f p (.agg #[.int .i64 n, .int .u64 cm'])) C cv := by
  obtain ⟨Qw, h1, h2, h3, h4, h5⟩ := h
  have hz := h1.bel.size
  refine (come_any w xb N f p n L cm h2 hp0 hp hn1 hn hf hL0 hL hN).mono ?_
  rintro e w' ⟨rfl, hk, cm', hW⟩
  refine ⟨rfl, _, cm', _, h1.other hk (fun b hq _ => h3 b hq) (fun b hq => h4 b (h3 b hq)), hW, ?_, ?_, h5.imp id fun h => h.same (fun b hb hq => ⟨Or.inl hq.1, ?_⟩) hk.size fun b hb hq => hk.block b hb hq.2⟩
  · rintro b (hb | hb)
    · exact Or.inl (h3 b hb)
    · exact Or.inr hb
  · rintro b (hb | hb)
    · exact h4 b hb
    · exact Nat.le_trans hz hb.1
  · rintro (h | h)
    · exact hq.2 h
    · omega
/-- A list of places of the call's own, made now. -/
theorem Hand.cells (h : Hand D W w X ls xb N f [] (.slice none 0 0)) (hb : Below w.heap.size w w') {C : List Int} {g cap : Nat} (hg : w.heap.size ≤ g) (hg2 : g < w'.heap.size) (hc : ∀ i, i < C.length → w'.cell? ⟨g, 0 + i, none⟩ = some (.int .u64 (nth C i))) :
    ∃ D', Hand D' W w' X ls xb N f C (.slice (some ⟨g, 0, none⟩) C.length cap) := by
  obtain ⟨Qw, h1, h2, h3, h4, _⟩ := h
  have hz := h1.bel.size
  refine ⟨_, fun b => Qw b ∧ b < w.heap.size, h1.later hb, h2.same (fun b hb hq => ⟨hq, hb⟩) hb.size fun b hb' _ => hb.block b hb', fun b hq => Or.inl (h3 b hq.1), ?_, Or.inr ⟨g, cap, rfl, ⟨Or.inr ⟨hg, hg2⟩, fun hq => by omega⟩, hg2, hc⟩⟩
  rintro b (hb | hb)
  · exact h4 b hb
  · exact Nat.le_trans hz hb.1
/-- Place i of the list. -/
theorem Hand.at (h : Hand D W w X ls xb N f C cv) {i : Nat} (hi : i < C.length) : ∃ g cap, cv = .slice (some ⟨g, 0, none⟩) C.length cap ∧ g < w.heap.size ∧ w.cell? ⟨g, 0 + i, none⟩ = some (.int .u64 (nth C i)) := by
  obtain ⟨Qw, h1, h2, h3, h4, h5⟩ := h
  rcases h5 with rfl | ⟨g, cap, rfl, k1, k2, k3⟩
  · simp at hi
  · exact ⟨g, cap, rfl, k2, k3 i hi⟩
end
end Go.Proofs.Ytacdgfkahppmdaa
