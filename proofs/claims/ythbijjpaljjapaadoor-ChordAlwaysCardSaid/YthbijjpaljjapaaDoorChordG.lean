
/-
  What Round leaves of a ring.
-/
import Derived.Test.YthbijjpaljjapaaDoorChordF
namespace Go.Proofs.YthbijjpaljjapaaDoor
open Go.RowKit Go.Maps Go.Sort
set_option linter.unusedVariables false
set_option linter.unusedSimpArgs false
attribute [local go_sem] later_cell later_frozen later_lt

theorem lives_stabT {f : RS} (hh : Heads f) {n : Int} (hn : livesR f n = true) : livesR f (stabT f n) = true := by
  unfold stabT
  split
  · rename_i h
    unfold nearR at h
    rw [Bool.and_eq_true, Bool.and_eq_true] at h
    exact h.1.2
  · exact hh n hn
theorem succR_stab {f : RS} (n j : Int) : succR (stabR f n) j = if j = n then followL (stabT f n) (succR f (stabT f n)) else succR f j := by
  unfold stabR
  rw [succR_set]
  have e : ∀ j, succR (stab1 f n) j = if j = n then followL (stabT f n) (succR f (stabT f n)) else succR f j := fun j => by unfold stab1; rw [succR_set]
  split
  · rename_i h; rw [h, e]
  · rw [e]
theorem heads_stab {f : RS} (hh : Heads f) {n : Int} (hn : livesR f n = true) : Heads (stabR f n) := fun j hj => by
  rw [livesR_stab] at hj ⊢
  unfold headR
  rw [headL_congr (livesR_stab f n), succR_stab]
  split
  · have := lives_stabT hh hn
    unfold followL
    simp only [List.take_succ_cons, headL, this, if_true]
  · exact hh j hj
/-- Some look, one behind the other. -/
def looksR (f : RS) (l : List Int) : RS := l.foldl stabR f
theorem looks_snoc (f : RS) (l : List Int) (n : Int) : looksR f (l ++ [n]) = stabR (looksR f l) n := by unfold looksR; rw [List.foldl_append]; rfl
theorem lives_looks (f : RS) (l : List Int) (j : Int) : livesR (looksR f l) j = livesR f j := by
  induction l generalizing f with
  | nil => rfl
  | cons n l ih => show livesR (looksR (stabR f n) l) j = _; rw [ih, livesR_stab]
theorem id_looks (f : RS) (l : List Int) (j : Int) : idR (looksR f l) j = idR f j := by
  induction l generalizing f with
  | nil => rfl
  | cons n l ih => show idR (looksR (stabR f n) l) j = _; rw [ih, idR_stab]
theorem heads_looks {f : RS} (hh : Heads f) {l : List Int} (hl : ∀ x ∈ l, livesR f x = true) : Heads (looksR f l) := by
  induction l generalizing f with
  | nil => exact hh
  | cons n l ih =>
    show Heads (looksR (stabR f n) l)
    exact ih (heads_stab hh (hl n (by simp))) fun x hx => by rw [livesR_stab]; exact hl x (List.mem_cons_of_mem _ hx)
theorem roundR_eq (f : RS) : roundR f = looksR f (liveL f) := rfl

variable {S : Nat → Prop} {w w' : World} {rb mb : Nat} {g : Int → Nat} {f : RS}
/-- The ring's blocks of now, and what is new from now on. -/
abbrev Now (S : Nat → Prop) (w w1 : World) (b : Nat) : Prop := (S b ∧ b < w.heap.size) ∨ w1.heap.size ≤ b
theorem RingIs.now (h : RAt S w rb mb g f) (hb : Below w.heap.size w w') : RAt (Now S w w') w' rb mb g f :=
  h.same hb.size (fun b hb' _ => hb.block b hb') (fun b hb' hS => Or.inl ⟨hS, hb'⟩) fun b hb' => Or.inr hb'
theorem RingIs.back {w2 : World} (h : RAt (Now S w w') w2 rb mb g f) (hu : ∀ b, w.heap.size ≤ b → S b) (h1 : w.heap.size ≤ w'.heap.size) (h2 : w'.heap.size ≤ w2.heap.size) : RAt S w2 rb mb g f :=
  h.same (Nat.le_refl _) (fun _ _ _ => rfl) (fun b _ hS => by
    rcases hS with ⟨hS, _⟩ | hS
    · exact hS
    · exact hu b (by omega)) fun b hb' => hu b (by omega)
theorem Kept.back {w1 w2 : World} (hb : Below w.heap.size w w1) (h : Kept (Now S w w1) w1 w2) : Kept S w w2 :=
  ((Kept.refl S w).below hb).trans ⟨h.os, h.tape, h.output, h.size, fun b hb' hS => h.block b hb' fun hN => by
    rcases hN with ⟨hN, _⟩ | hN
    · exact hS hN
    · omega⟩

def RoundPost (S : Nat → Prop) (w : World) (rb mb : Nat) (g : Int → Nat) (f : RS) (e : Ending) (w' : World) : Prop := e = .returned (.tuple #[]) ∧ RAt S w' rb mb g (roundR f) ∧ Kept S w w'
set_option maxRecDepth 100000 in
theorem round_at (h : RAt S w rb mb g f) (hh : Heads f) : Calls Tryd.prog 10 #[.pointer (some ⟨rb, 0, none⟩)] w (RoundPost S w rb mb g f) := by
  have cl := Lib.hid (live_at h)
  have H := Lib.hid h
  have HH := Lib.hid hh
  have hlen := length_liveL f
  have hmem := Lib.hid (fun x (hx : x ∈ liveL f) => (mem_liveL h.dom).1 hx)
  have HP : Hid (∀ w', RAt S w' rb mb g (looksR f (liveL f)) → Kept S w w' → RoundPost S w rb mb g f (.returned (.tuple #[])) w') := fun w' h1 h2 => ⟨rfl, h1, h2⟩
  obtain ⟨L, hL⟩ : ∃ L, L = liveL f := ⟨_, rfl⟩
  rw [← hL] at cl hlen hmem HP
  clear h hh hL
  go_enter Tryd.func10, Tryd.ntmps10
  go_wp2_with fail
  refine cl.out.mono ?_
  rintro e w1 ⟨v, rfl, hs, hB⟩
  obtain ⟨a, q, rfl, _⟩ := hs.slice
  have HS := Lib.hid hs
  have HN := Lib.hid (H.out.now hB)
  have HB := Lib.hid hB
  clear hs hB
  go_wp2_with fail
  go_loopw [3, 7] (fun _ i wr => ∃ k : Nat, k ≤ L.length ∧ i = .int .i64 k ∧ Hid (RAt (Now S w w1) wr rb mb g (looksR f (L.take k))) ∧ Hid (Kept (Now S w w1) w1 wr)) (fun _ i _ => L.length - (intOf i).toNat)
  case atStart => exact ⟨0, Nat.zero_le _, rfl, HN.out, Kept.refl _ _⟩
  case round =>
    obtain ⟨k, hk, rfl, hR, hK⟩ := hrel
    by_cases hlt : k < L.length
    · have hck : ∃ b off : Nat, a = some ⟨b, off, none⟩ ∧ b < wr.heap.size ∧ wr.cell? ⟨b, off + k, none⟩ = some (.int .i64 (nth L k)) := by
        obtain ⟨b, off, e, hb0, hb1, hc⟩ := HS.out.at k hlt w1 (Below.refl _ _)
        refine ⟨b, off, e, Nat.lt_of_lt_of_le hb1 hK.out.size, ?_⟩
        rw [← hc]
        exact World.cell?_of_block (hK.out.block b hb1 fun hN => by rcases hN with ⟨_, h⟩ | h <;> omega)
      obtain ⟨b, off, rfl, hb, hc⟩ := hck
      have hin : nth L k ∈ L := nth_mem.2 ⟨k, hlt, rfl⟩
      have hlf := hmem.out _ hin
      have hdm := livesR_dom H.out.dom hlf
      have hhk : Heads (looksR f (L.take k)) := heads_looks HH.out fun x hx => hmem.out x (List.mem_of_mem_take hx)
      have cs := stab_at hR.out (nth L k) (okInt_dom (by omega) (by omega)) hhk
      have CS := Lib.hid cs
      have hlv : Hid (livesR (looksR f (L.take k)) (nth L k) = true) := show livesR (looksR f (L.take k)) (nth L k) = true by rw [lives_looks]; exact hlf
      have hsn : Hid (looksR f (L.take (k + 1)) = stabR (looksR f (L.take k)) (nth L k)) := show _ = _ by rw [List.take_succ_eq_append_getElem hlt, looks_snoc, nth_eq hlt]
      clear cs hhk hdm hlf hin
      go_wp2_with fail
      refine CS.out.mono ?_
      intro e w2 hp
      unfold StabPost at hp
      rw [if_pos hlv.out] at hp
      obtain ⟨rfl, hR2, hK2⟩ := hp
      have R2 := Lib.hid hR2
      have K2 := Lib.hid (hK.out.trans hK2)
      clear hR2 hK2
      go_wp2_with fail
      go_roundw
      case rel => go_light; exact ⟨k + 1, by omega, by go_num, by show RAt _ _ _ _ _ _; rw [hsn.out]; exact R2.out, K2.out⟩
      case measure => go_light; simp [intOf]; omega
    · obtain rfl : k = L.length := by omega
      go_wp2_with fail
      go_end0
      refine HP.out _ ?_ (Kept.back HB.out hK.out)
      have := hR.out
      rw [List.take_length] at this
      exact this.back H.out.up HB.out.size hK.out.size
end Go.Proofs.YthbijjpaljjapaaDoor
