
/-
  Each call on a ring as one step: the code that it answers, the ring that it leaves.
-/
import Derived.Test.YthbijjpaljjapaaDoorActs
namespace Go.Proofs.YthbijjpaljjapaaDoor
open Go.RowKit Go.Maps Go.Sort Go.WideShapes Go.ChangeShapes Go.Deep
set_option linter.unusedVariables false
set_option linter.unusedSimpArgs false

def stabC (f : RS) (n : Int) : Int := if livesR f n = true then 0 else 6
def stabE (f : RS) (n : Int) : RS := if livesR f n = true then stabR f n else f
/-- A call's answer: no error, or the fault of a code. -/
def CodeIs (B : Nat) (w : World) (v : Value) (c : Int) : Prop := (c = 0 ∧ v = .nilIface) ∨ (c ≠ 0 ∧ IsErr B w v c)
def ActPost (S : Nat → Prop) (w : World) (rb mb : Nat) (f : RS) (c : Int) (e : Ending) (w' : World) : Prop := ∃ v, e = .returned v ∧ CodeIs w.heap.size w' v c ∧ (∃ g, RAt S w' rb mb g f) ∧ Kept S w w'
variable {S : Nat → Prop} {w : World} {rb mb : Nat} {g : Int → Nat} {f : RS}
theorem join_act (h : RAt S w rb mb g f) (hh : Heads f) (n id via : Int) (hn : okInt n) (hv : okInt via) (hid : isPlace id) :
    Calls Tryd.prog 7 #[.pointer (some ⟨rb, 0, none⟩), .int .i64 n, .int .u64 id, .int .i64 via] w (ActPost S w rb mb (joinR f n id via) (joinC f n id via)) :=
  (join_at h hh n id via hn hv hid).mono fun e w' hp => by
    unfold JoinPost at hp
    split at hp
    · rename_i hc
      obtain ⟨rfl, hk, hg⟩ := hp
      exact ⟨_, rfl, Or.inl ⟨hc, rfl⟩, hg, hk⟩
    · rename_i hc
      obtain ⟨v, rfl, hE, hb⟩ := hp
      rw [joinR_not hc]
      exact ⟨_, rfl, Or.inr ⟨hc, hE⟩, ⟨g, h.below hb⟩, (Kept.refl S w).below hb⟩
theorem fail_act (h : RAt S w rb mb g f) (n : Int) (hn : okInt n) :
    Calls Tryd.prog 8 #[.pointer (some ⟨rb, 0, none⟩), .int .i64 n] w (ActPost S w rb mb (failR f n) (failC f n)) :=
  (fail_at h n hn).mono fun e w' hp => by
    obtain ⟨h1, h2, h3⟩ := hp
    split at h1
    · rename_i hc
      exact ⟨_, h1, Or.inl ⟨hc, rfl⟩, ⟨g, h2⟩, h3⟩
    · rename_i hc
      obtain ⟨v, rfl, hE⟩ := h1
      exact ⟨_, rfl, Or.inr ⟨hc, hE⟩, ⟨g, h2⟩, h3⟩
theorem stab_act (h : RAt S w rb mb g f) (hh : Heads f) (n : Int) (hn : okInt n) :
    Calls Tryd.prog 9 #[.pointer (some ⟨rb, 0, none⟩), .int .i64 n] w (ActPost S w rb mb (stabE f n) (stabC f n)) :=
  (stab_at h n hn hh).mono fun e w' hp => by
    unfold StabPost at hp
    unfold stabE stabC
    split at hp
    · rename_i hc
      obtain ⟨rfl, h1, h2⟩ := hp
      rw [if_pos hc, if_pos hc]
      exact ⟨_, rfl, Or.inl ⟨rfl, rfl⟩, ⟨g, h1⟩, h2⟩
    · rename_i hc
      obtain ⟨v, rfl, hE, hb⟩ := hp
      rw [if_neg hc, if_neg hc]
      exact ⟨_, rfl, Or.inr ⟨by decide, hE⟩, ⟨g, h.below hb⟩, (Kept.refl S w).below hb⟩
theorem inv_stabE {f : RS} (I : Inv f) (n : Int) : Inv (stabE f n) := by
  unfold stabE; split
  · rename_i h; exact inv_stab I h
  · exact I
/-- What a call leaves. -/
def actR (ks : List Int) (f : RS) (a : ActD) : RS :=
  if a.kind ∉ ks then f else if a.kind = 1 then joinR f a.n a.id a.via else if a.kind = 2 then failR f a.n else if a.kind = 3 then stabE f a.n else if a.kind = 4 then roundR f else f
theorem inv_act {ks : List Int} {f : RS} (I : Inv f) {a : ActD} (h : a.ok) : Inv (actR ks f a) := by
  unfold actR
  split
  · exact I
  split
  · exact inv_joinR I h.id
  split
  · exact inv_failR I _
  split
  · exact inv_stabE I _
  split
  · exact inv_round I
  · exact I
/-- A ring of a call's own: it is in memory, and all that always holds of it holds. -/
structure RingOk (B : Nat) (w0 w : World) (rb mb : Nat) (f : RS) : Prop where
  ring : ∃ g, RAt (fun b => B ≤ b) w rb mb g f
  inv : Inv f
  below : RowKit.Below B w0 w
theorem RingOk.step {W wr w' : World} {f' : RS} (h : RingOk W.heap.size W wr rb mb f) (I : Inv f') (hr : ∃ g, RAt (fun b => W.heap.size ≤ b) w' rb mb g f') (hk : Kept (fun b => W.heap.size ≤ b) wr w') : RingOk W.heap.size W w' rb mb f' :=
  ⟨hr, I, kept_below h.below hk⟩
theorem RingOk.later {W wr w' : World} (h : RingOk W.heap.size W wr rb mb f) (hb : RowKit.Below wr.heap.size wr w') : RingOk W.heap.size W w' rb mb f := by
  obtain ⟨g, hg⟩ := h.ring
  exact ⟨⟨g, hg.below hb⟩, h.inv, h.below.trans (hb.mono h.below.size)⟩
/-- New, as the laws use it: a ring of four, or an error. -/
def Born (W : World) (ids : List Int) (e : Ending) (w' : World) : Prop :=
  if fourB ids = true then ∃ rb mb, e = .returned (.tuple #[.pointer (some ⟨rb, 0, none⟩), .nilIface]) ∧ RingOk W.heap.size W w' rb mb (newF ids (setI ids) 4)
  else ∃ b, e = .returned (.tuple #[.pointer none, .iface 72 (.pointer (some ⟨b, 0, none⟩))]) ∧ RowKit.Below W.heap.size W w'
theorem fourB_four {ids : List Int} (h : fourB ids = true) (hp : ∀ x ∈ ids, isPlace x) : Four ids (setI ids) := by
  unfold fourB at h
  simp at h
  exact four_of h.1 h.2 hp
theorem born_any (W wr : World) (hb : RowKit.Below W.heap.size W wr) (v : Value) (ids : List Int) (hi : SlAt 0 (fun i => .int .u64 (nth ids i)) ids.length wr v) (hp : ∀ x ∈ ids, isPlace x) :
    Calls Tryd.prog 4 #[v] wr (Born W ids) := (new_any wr v ids hi hp).mono fun e w' h => by
  unfold AskPost at h
  unfold Born
  split at h
  · rename_i hf
    obtain ⟨rb, mb, g, rfl, R, hB⟩ := h
    rw [if_pos hf]
    exact ⟨rb, mb, rfl, ⟨g, R.same (Nat.le_refl _) (fun _ _ _ => rfl) (fun b _ hS => by have := hb.size; omega) (fun b hb' => by have := hb.size; have := hB.size; omega)⟩, inv_new (fourB_four hf hp), bel_below hb hB⟩
  · rename_i hf
    obtain ⟨v, rfl, ⟨b, rfl, _⟩, hB⟩ := h
    rw [if_neg hf]
    exact ⟨b, rfl, bel_below hb hB⟩
end Go.Proofs.YthbijjpaljjapaaDoor
