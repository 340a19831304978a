/-
  slices.Sort at []int; what Live answers: the members that live, rising. What Round leaves of a ring. slices.Clone at []int; what a member tells. slices.Index at api.Id; the closure of chord.New: which address has the place so many behind. The ring of the base members, in plain words. Nobody skips a base member: what always holds of the members, whatever calls there were. No program is named here.
-/
import Derived.Test.YtahiahjhpakeiaaGreatDoorShelfChord
import Derived.Test.YtahiahjhpakeiaaGreatDoorKept3
import Derived.Test.YtahiahjhpakeiaaGreatDoorKept5
section
namespace Go.Proofs.YtahiahjhpakeiaaGreatDoor
open Go.RowKit Go.Maps Go.Sort
set_option linter.unusedVariables false
set_option linter.unusedSimpArgs false
attribute [local go_sem] later_cell later_frozen later_lt

/-- A slice of whole numbers of the call's own, as the sort wants it. -/
def OwnI (B : Nat) (w : World) (v : Value) (l : List Int) : Prop :=
  (v = .slice none 0 0 ∧ l = []) ∨ ∃ g cap, v = .slice (some ⟨g, 0, none⟩) l.length cap ∧ B ≤ g ∧ g < w.heap.size ∧ l.length ≤ cap ∧ cap ≤ maxLen ∧ Holds (Value.int .i64) w g 0 l.toArray
theorem OwnI.of_row {w : World} {B : Nat} {v : Value} {l : List Int} {n : Nat} (h : w.ownsRow B 3 1 v n (l.map (Value.int .i64))) : OwnI B w v l := by
  have hl := h.1
  simp at hl
  subst hl
  have hc := fun g hg => h.cells (g := g) hg
  rcases h.2 with ⟨rfl, h0⟩ | ⟨g, cap, cur, rfl, hB, hg, hn, hm, hs, ht⟩
  · exact Or.inl ⟨rfl, List.length_eq_zero_iff.1 h0⟩
  · refine Or.inr ⟨g, cap, rfl, hB, (Array.getElem?_eq_some_iff.1 hg).1, hn, hm, holds_of fun j hj => ⟨?_, ?_⟩⟩
    · have := hc g rfl j (.int .i64 (nth l j)) (by simp [hj, nth_eq hj])
      rw [show ((⟨g, 0, none⟩ : Addr).add j) = ⟨g, 0 + j, none⟩ from by unfold Addr.add; by_cases e : j = 0 <;> simp [e]] at this
      exact this
    · unfold World.frozen?
      rw [hg]
      rfl
theorem OwnI.slAt {w : World} {B : Nat} {v : Value} {l : List Int} (h : OwnI B w v l) : SlAt B (fun i => .int .i64 (nth l i)) l.length w v := by
  rcases h with ⟨rfl, rfl⟩ | ⟨g, cap, rfl, h1, h2, h3, h4, h5⟩
  · exact ⟨none, 0, rfl, Nat.le_refl _, Nat.zero_le _, fun _ => rfl, Or.inl rfl⟩
  · exact ⟨_, cap, rfl, h3, h4, (fun h => by cases h), Or.inr ⟨g, 0, rfl, h1, h2, fun i hi => by have := (h5 i (by simpa using hi)).1; rwa [getD_arr] at this⟩⟩
theorem sorti_any (w : World) (v : Value) (l : List Int) (B : Nat) (h : OwnI B w v l) (hl : l.length ≤ 4000000000) :
    Calls Tryz.prog 93 #[v] w fun e w' => e = .returned (.tuple #[]) ∧ OwnI B w' v (l.mergeSort fun x y => decide (x ≤ y)) ∧ Below B w w' := by
  rcases h with ⟨rfl, rfl⟩ | ⟨g, cap, rfl, h1, h2, h3, h4, h5⟩
  · refine (I64.Sort_int_nil none 0 w).mono ?_
    rintro e w' ⟨rfl, rfl⟩
    exact ⟨rfl, Or.inl ⟨rfl, by simp⟩, Below.refl _ _⟩
  · refine Calls.mono (show Calls Tryz.prog 93 #[.slice (some ⟨g, 0, none⟩) l.length cap] w _ from Any.slices_Sort_int Tryz.lays189 g 0 cap l w h5 h2 (by omega)) ?_
    rintro e w' ⟨rfl, n, os, rfl⟩
    have hh : Holds (Value.int .i64) (putRow (Value.int .i64) (Sort.ahead w n) g 0 (l.mergeSort fun x y => decide (x ≤ y)).toArray) g 0 (l.mergeSort fun x y => decide (x ≤ y)).toArray := holds_putRow _ _ _ _ l.toArray _ (holds_ahead _ _ _ _ _ _ h5) (by simp)
    refine ⟨rfl, Or.inr ⟨g, cap, by simp, h1, by simp; omega, by simpa using h3, h4, holds_grow _ _ _ _ _ _ (by simpa using h2) hh⟩, ?_⟩
    exact ((below_ahead w n).trans (below_putRow _ g 0 _ h1)).trans (below_grow _ os (by simp; omega))

theorem up_map_range (n : Nat) : Up ((List.range n).map Int.ofNat) := by
  refine List.pairwise_map.2 ?_
  exact List.pairwise_lt_range.imp (by intro a b h; simpa using h)
theorem liveL_up (f : RS) : Up (liveL f) := List.Pairwise.filter _ (up_map_range 32)
theorem sort_up {l : List Int} (h : l.Nodup) : Up (l.mergeSort fun x y => decide (x ≤ y)) := by
  have hs : (l.mergeSort fun x y => decide (x ≤ y)).Pairwise (· ≤ ·) := by
    have := List.pairwise_mergeSort (le := fun x y : Int => decide (x ≤ y)) (by intro a b c; simp; omega) (by intro a b; simp; omega) l
    exact this.imp (by intro a b h; simpa using h)
  have hn : (l.mergeSort fun x y => decide (x ≤ y)).Nodup := (List.mergeSort_perm l _).nodup_iff.2 h
  exact (List.pairwise_and_iff.2 ⟨hs, hn⟩).imp (by intro a b h; have := h.1; have := h.2; omega)
theorem sort_liveL {f : RS} (hd : Dom f) {l : List Int} (h : l.Nodup) (hm : ∀ x, x ∈ l ↔ livesR f x = true) : (l.mergeSort fun x y => decide (x ≤ y)) = liveL f :=
  up_uniq (sort_up h) (liveL_up f) fun x => by rw [List.mem_mergeSort, hm, mem_liveL hd]

theorem live_len {f : RS} (hd : Dom f) {c : List Int} (h : c.Nodup) (hm : ∀ x ∈ c, livesR f x = true) : c.length ≤ 32 := by
  have := up_sub_len (liveL_up f) (sort_up h) fun x hx => (mem_liveL hd).2 (hm x (List.mem_mergeSort.1 hx))
  rw [List.length_mergeSort] at this
  exact Nat.le_trans this (length_liveL f)
variable {S : Nat → Prop} {w : World} {rb mb : Nat} {g : Int → Nat} {f : RS}
def NewList (w : World) (l : List Int) (e : Ending) (w' : World) : Prop := ∃ v, e = .returned v ∧ SlAt w.heap.size (fun i => .int .i64 (nth l i)) l.length w' v ∧ Below w.heap.size w w'
/-- What is gathered: those that live and have come. -/
def Got (f : RS) (left : Int → Bool) (c : List Int) : Prop := c.Nodup ∧ ∀ x, x ∈ c ↔ livesR f x = true ∧ left x = false
set_option maxHeartbeats 4000000 in
set_option maxRecDepth 100000 in
theorem live_at (h : RAt S w rb mb g f) : Calls Tryz.prog 41 #[.pointer (some ⟨rb, 0, none⟩)] w (NewList w (liveL f)) := by
  obtain ⟨i0, hi, hz0, hz1, hz2⟩ : ∃ i0, Tryz.prog.info? 3 = some i0 ∧ i0.zero = some (Value.int .i64 0) ∧ i0.size = 1 ∧ i0.bytes = 8 := ⟨intI, intI_at, by kernel_rfl, by kernel_rfl, by kernel_rfl⟩
  have r0 := h.root
  have z0 := h.rbz
  have hmb := h.mbz
  have hmap := Lib.hid h.map
  have H := Lib.hid h
  clear h
  go_enter Tryz.func41, Tryz.ntmps41
  go_wp2_with (first
    | (at_range; refine wpList_range_ptr _ rfl _ 130 rfl 3 129 keyInt Tryz.underlying130 mb _ _ rfl hmap.out Tryz.underlying3 ?_; intro w0 cnt0 hrg0 hg0 hs0)
    | go_in)
  go_frame
  have hB0 : Below w.heap.size w w0 := (Below.refl _ w).grown hg0 (Nat.le_refl _) (fun k hk => by cases hk)
  go_loopw [3] (fun vo wr => ∃ (c : List Int) (left : Int → Bool) (cnt : Nat), Ranging Tryz.prog 3 wr mb w.heap.size (cntM f) (ptrM f g) left cnt ∧ wr.ownsRow (w.heap.size + 1) 3 1 vo c.length (c.map (Value.int .i64)) ∧ Below w.heap.size w wr ∧ Hid (Got f left c))
    (fun _ wr => wr.rangeLeft mb w.heap.size)
  case atStart =>
    refine ⟨[], _, _, hrg0, World.ownsRow_nil _ _ _ _, hB0, ⟨List.nodup_nil, fun x => ⟨fun hx => by simp at hx, fun hx => ?_⟩⟩⟩
    obtain ⟨hx1, hx2⟩ := hx
    obtain ⟨m, hm, _⟩ := livesR_some hx1
    simp [ptrM, hm] at hx2
  case round =>
    obtain ⟨c, left, cnt, hrg, ho, hB, hG⟩ := hrel
    have hO := Lib.hid ho
    have hRG := Lib.hid hrg
    have hle := hrg.left_eq
    clear ho hrg
    go_wp2_with (first
      | (at_next; refine wpList_next_ptr _ rfl _ rfl 3 keyInt Tryz.underlying3 mb w.heap.size _ _ _ _ rfl hRG.out ?_ ?_)
      | go_in)
    · intro _ hl0
      have hnd := hG.out.1
      have hall : ∀ x, x ∈ c ↔ livesR f x = true := fun x => by rw [hG.out.2 x, hl0 x]; simp
      have hlen := live_len H.out.dom hnd (fun x hx => (hall x).1 hx)
      have E := Lib.hid (sort_liveL H.out.dom hnd hall)
      have co := OwnI.of_row hO.out
      have cs := Lib.hid (sorti_any wr _ c _ co (by omega))
      clear co hall hnd
      go_wp2_with fail
      refine cs.out.mono ?_
      rintro e w5 ⟨rfl, o5, hB5⟩
      have O5 := Lib.hid o5
      clear o5
      go_wp2_with fail
      go_ret
      refine ⟨_, rfl, ?_, hB.trans (hB5.mono (by omega))⟩
      rw [← E.out]
      exact O5.out.slAt.base (by omega)
    · intro i b w1 cnt1 hoi hli hfi hrg1 hlt hg1 hs1 hen
      obtain ⟨m, hm, hbm⟩ : ∃ m, f i = some m ∧ g i = b := by
        unfold ptrM at hfi
        cases e : f i with
        | none => rw [e] at hfi; cases hfi
        | some m => rw [e] at hfi; exact ⟨m, rfl, by simpa using hfi⟩
      subst hbm
      have hB1 : Below w.heap.size w w1 := hB.grown hg1 hB.size (fun k hk => by cases hk; exact Nat.le_refl _)
      have c0 := ((H.out.below hB1).at hm hoi).1
      have zi := ((H.out.below hB1).at hm hoi).2.2.2.1
      have O1 := Lib.hid (hO.out.kept hg1 (by
        rcases ho : Value.ownBlock u3 with _ | k
        · exact Or.inl rfl
        · have := (hO.out.lt k ho).1
          exact Or.inr (fun e => by cases e; omega)))
      have hlf : livesR f i = m.live := by unfold livesR; rw [hm]
      have R1 := Lib.hid hrg1
      have HLT := Lib.hid hlt
      have hsz1 := hB1.size
      clear hs1
      try go_frame
      cases hml : m.live with
      | false =>
        have G2 : Hid (Got f (fun j => left j && !(j == i)) c) := show Got f (fun j => left j && !(j == i)) c from ⟨hG.out.1, fun x => by
          rw [hG.out.2 x]
          by_cases e : x = i
          · subst e; rw [hlf, hml]; simp
          · simp [e]⟩
        rw [hml] at c0
        clear hlf hml
        go_wp2_with fail
        go_roundw
        case rel => exact ⟨c, _, cnt1, R1.out, O1.out, hB1, G2⟩
        case measure => rw [R1.out.left_eq, hle]; exact HLT.out
      | true =>
        have hic : i ∉ c := fun h => by have := ((hG.out.2 i).1 h).2; rw [hli] at this; cases this
        have G2 : Hid (Got f (fun j => left j && !(j == i)) (c ++ [i])) := show Got f (fun j => left j && !(j == i)) (c ++ [i]) from ⟨by
          rw [List.nodup_append]
          exact ⟨hG.out.1, by simp, fun a ha b hb => by simp at hb; subst hb; exact fun e => hic (e ▸ ha)⟩, fun x => by
          rw [List.mem_append, hG.out.2 x]
          by_cases e : x = i
          · subst e; rw [hlf, hml]; simp
          · simp [e]⟩
        have hlen := live_len H.out.dom G2.out.1 (fun x hx => ((G2.out.2 x).1 hx).1)
        rw [List.length_append] at hlen
        simp only [List.length_cons, List.length_nil] at hlen
        rw [hml] at c0
        clear hlf hml hic
        go_wp2_with (at_builtin; refine wpList_app rfl _ _ 36 rfl (w.heap.size + 1) 3 i0 (.int .i64 0) 8 Tryz.underlying36 hi hz0 hz1 hz2 rfl _ c.length _ rfl (O1.out.alloc _) 0 _ 1 _ rfl (sl_new _ .i64 [i] 3 _ 1 rfl rfl (by simp [maxLen])) (fun _ => rfl) ?qc1 ?qc2 ?qc3 ?_)
        case qc1 => simp only [maxLen]; omega
        case qc2 => omega
        case qc3 => simp; omega
        intro v' w3 ho3 hg3
        have hlt3 : ∀ k, Value.ownBlock u3 = some k → w.heap.size + 1 ≤ k := fun k hk => (O1.out.lt k hk).1
        have R3 := Lib.hid ((R1.out.kept (World.grownBy_alloc w1 _ none) (by simp) (by simp)).kept hg3 (fun e => by have := hlt3 mb e.symm; omega) (fun e => by have := hlt3 _ e.symm; omega))
        have hB3 : Below w.heap.size w w3 := (hB1.alloc hsz1 _).grown hg3 (by simp; omega) (fun k hk => by have := hlt3 k hk; omega)
        have HO3 := Lib.hid ho3
        clear ho3
        go_wp2_with fail
        go_roundw
        case rel =>
          refine ⟨c ++ [i], _, cnt1, R3.out, ?_, hB3, G2⟩
          have := HO3.out
          simpa [nth] using this
        case measure => rw [R3.out.left_eq, hle]; exact HLT.out
end Go.Proofs.YtahiahjhpakeiaaGreatDoor
namespace Go.Proofs.YtahiahjhpakeiaaGreatDoor
open Go.RowKit Go.Maps Go.Sort
set_option linter.unusedVariables false
set_option linter.unusedSimpArgs false
attribute [local go_sem] later_cell later_frozen later_lt

theorem lives_stabT {f : RS} (hh : Heads f) {n : Int} (hn : livesR f n = true) : livesR f (stabT f n) = true := by
  unfold stabT
  split
  · rename_i h
    unfold nearR at h
    rw [Bool.and_eq_true, Bool.and_eq_true] at h
    exact h.1.2
  · exact hh n hn
theorem succR_stab {f : RS} (n j : Int) : succR (stabR f n) j = if j = n then followL (stabT f n) (succR f (stabT f n)) else succR f j := by
  unfold stabR
  rw [succR_set]
  have e : ∀ j, succR (stab1 f n) j = if j = n then followL (stabT f n) (succR f (stabT f n)) else succR f j := fun j => by unfold stab1; rw [succR_set]
  split
  · rename_i h; rw [h, e]
  · rw [e]
theorem heads_stab {f : RS} (hh : Heads f) {n : Int} (hn : livesR f n = true) : Heads (stabR f n) := fun j hj => by
  rw [livesR_stab] at hj ⊢
  unfold headR
  rw [headL_congr (livesR_stab f n), succR_stab]
  split
  · have := lives_stabT hh hn
    unfold followL
    simp only [List.take_succ_cons, headL, this, if_true]
  · exact hh j hj
/-- Some look, one behind the other. -/
def looksR (f : RS) (l : List Int) : RS := l.foldl stabR f
theorem looks_snoc (f : RS) (l : List Int) (n : Int) : looksR f (l ++ [n]) = stabR (looksR f l) n := by unfold looksR; rw [List.foldl_append]; rfl
theorem lives_looks (f : RS) (l : List Int) (j : Int) : livesR (looksR f l) j = livesR f j := by
  induction l generalizing f with
  | nil => rfl
  | cons n l ih => show livesR (looksR (stabR f n) l) j = _; rw [ih, livesR_stab]
theorem heads_looks {f : RS} (hh : Heads f) {l : List Int} (hl : ∀ x ∈ l, livesR f x = true) : Heads (looksR f l) := by
  induction l generalizing f with
  | nil => exact hh
  | cons n l ih =>
    show Heads (looksR (stabR f n) l)
    exact ih (heads_stab hh (hl n (by simp))) fun x hx => by rw [livesR_stab]; exact hl x (List.mem_cons_of_mem _ hx)
theorem roundR_eq (f : RS) : roundR f = looksR f (liveL f) := rfl

variable {S : Nat → Prop} {w w' : World} {rb mb : Nat} {g : Int → Nat} {f : RS}
/-- The ring's blocks of now, and what is new from now on. -/
abbrev Now (S : Nat → Prop) (w w1 : World) (b : Nat) : Prop := (S b ∧ b < w.heap.size) ∨ w1.heap.size ≤ b
theorem RingIs.now (h : RAt S w rb mb g f) (hb : Below w.heap.size w w') : RAt (Now S w w') w' rb mb g f :=
  h.same hb.size (fun b hb' _ => hb.block b hb') (fun b hb' hS => Or.inl ⟨hS, hb'⟩) fun b hb' => Or.inr hb'
theorem RingIs.back {w2 : World} (h : RAt (Now S w w') w2 rb mb g f) (hu : ∀ b, w.heap.size ≤ b → S b) (h1 : w.heap.size ≤ w'.heap.size) (h2 : w'.heap.size ≤ w2.heap.size) : RAt S w2 rb mb g f :=
  h.same (Nat.le_refl _) (fun _ _ _ => rfl) (fun b _ hS => by
    rcases hS with ⟨hS, _⟩ | hS
    · exact hS
    · exact hu b (by omega)) fun b hb' => hu b (by omega)
theorem Kept.back {w1 w2 : World} (hb : Below w.heap.size w w1) (h : Kept (Now S w w1) w1 w2) : Kept S w w2 :=
  ((Kept.refl S w).below hb).trans ⟨h.os, h.tape, h.output, h.size, fun b hb' hS => h.block b hb' fun hN => by
    rcases hN with ⟨hN, _⟩ | hN
    · exact hS hN
    · omega⟩

def RoundPost (S : Nat → Prop) (w : World) (rb mb : Nat) (g : Int → Nat) (f : RS) (e : Ending) (w' : World) : Prop := e = .returned (.tuple #[]) ∧ RAt S w' rb mb g (roundR f) ∧ Kept S w w'
set_option maxRecDepth 100000 in
theorem round_at (h : RAt S w rb mb g f) (hh : Heads f) : Calls Tryz.prog 36 #[.pointer (some ⟨rb, 0, none⟩)] w (RoundPost S w rb mb g f) := by
  have cl := Lib.hid (live_at h)
  have H := Lib.hid h
  have HH := Lib.hid hh
  have hlen := length_liveL f
  have hmem := Lib.hid (fun x (hx : x ∈ liveL f) => (mem_liveL h.dom).1 hx)
  have HP : Hid (∀ w', RAt S w' rb mb g (looksR f (liveL f)) → Kept S w w' → RoundPost S w rb mb g f (.returned (.tuple #[])) w') := fun w' h1 h2 => ⟨rfl, h1, h2⟩
  obtain ⟨L, hL⟩ : ∃ L, L = liveL f := ⟨_, rfl⟩
  rw [← hL] at cl hlen hmem HP
  clear h hh hL
  go_enter Tryz.func36, Tryz.ntmps36
  go_wp2_with fail
  refine cl.out.mono ?_
  rintro e w1 ⟨v, rfl, hs, hB⟩
  obtain ⟨a, q, rfl, _⟩ := hs.slice
  have HS := Lib.hid hs
  have HN := Lib.hid (H.out.now hB)
  have HB := Lib.hid hB
  clear hs hB
  go_wp2_with fail
  go_loopw [3, 7] (fun _ i wr => ∃ k : Nat, k ≤ L.length ∧ i = .int .i64 k ∧ Hid (RAt (Now S w w1) wr rb mb g (looksR f (L.take k))) ∧ Hid (Kept (Now S w w1) w1 wr)) (fun _ i _ => L.length - (intOf i).toNat)
  case atStart => exact ⟨0, Nat.zero_le _, rfl, HN.out, Kept.refl _ _⟩
  case round =>
    obtain ⟨k, hk, rfl, hR, hK⟩ := hrel
    by_cases hlt : k < L.length
    · have hck : ∃ b off : Nat, a = some ⟨b, off, none⟩ ∧ b < wr.heap.size ∧ wr.cell? ⟨b, off + k, none⟩ = some (.int .i64 (nth L k)) := by
        obtain ⟨b, off, e, hb0, hb1, hc⟩ := HS.out.at k hlt w1 (Below.refl _ _)
        refine ⟨b, off, e, Nat.lt_of_lt_of_le hb1 hK.out.size, ?_⟩
        rw [← hc]
        exact World.cell?_of_block (hK.out.block b hb1 fun hN => by rcases hN with ⟨_, h⟩ | h <;> omega)
      obtain ⟨b, off, rfl, hb, hc⟩ := hck
      have hin : nth L k ∈ L := nth_mem.2 ⟨k, hlt, rfl⟩
      have hlf := hmem.out _ hin
      have hdm := livesR_dom H.out.dom hlf
      have hhk : Heads (looksR f (L.take k)) := heads_looks HH.out fun x hx => hmem.out x (List.mem_of_mem_take hx)
      have cs := stab_at hR.out (nth L k) (okInt_dom (by omega) (by omega)) hhk
      have CS := Lib.hid cs
      have hlv : Hid (livesR (looksR f (L.take k)) (nth L k) = true) := show livesR (looksR f (L.take k)) (nth L k) = true by rw [lives_looks]; exact hlf
      have hsn : Hid (looksR f (L.take (k + 1)) = stabR (looksR f (L.take k)) (nth L k)) := show _ = _ by rw [List.take_succ_eq_append_getElem hlt, looks_snoc, nth_eq hlt]
      clear cs hhk hdm hlf hin
      go_wp2_with fail
      refine CS.out.mono ?_
      intro e w2 hp
      unfold StabPost at hp
      rw [if_pos hlv.out] at hp
      obtain ⟨rfl, hR2, hK2⟩ := hp
      have R2 := Lib.hid hR2
      have K2 := Lib.hid (hK.out.trans hK2)
      clear hR2 hK2
      go_wp2_with fail
      go_roundw
      case rel => go_light; exact ⟨k + 1, by omega, by go_num, by show RAt _ _ _ _ _ _; rw [hsn.out]; exact R2.out, K2.out⟩
      case measure => go_light; simp [intOf]; omega
    · obtain rfl : k = L.length := by omega
      go_wp2_with fail
      go_end0
      refine HP.out _ ?_ (Kept.back HB.out hK.out)
      have := hR.out
      rw [List.take_length] at this
      exact this.back H.out.up HB.out.size hK.out.size
end Go.Proofs.YtahiahjhpakeiaaGreatDoor
namespace Go.Proofs.YtahiahjhpakeiaaGreatDoor
open Go.RowKit Go.Maps Go.Sort
set_option linter.unusedVariables false
set_option linter.unusedSimpArgs false
attribute [local go_sem] later_cell later_frozen later_lt cell_set_off cell_set_block

theorem clonei_any (w : World) (v : Value) (l : List Int) (h : SlAt 0 (fun i => .int .i64 (nth l i)) l.length w v) (hl : l.length ≤ 4000000000) :
    Calls Tryz.prog 73 #[v] w fun e w' => ∃ v', e = .returned v' ∧ w'.ownsRow w.heap.size 3 1 v' l.length (l.map (Value.int .i64)) ∧ Below w.heap.size w w' := by
  obtain ⟨i0, hi, hz0, hz1, hz2⟩ : ∃ i0, Tryz.prog.info? 3 = some i0 ∧ i0.zero = some (Value.int .i64 0) ∧ i0.size = 1 ∧ i0.bytes = 8 := ⟨intI, intI_at, by kernel_rfl, by kernel_rfl, by kernel_rfl⟩
  have hm := map_range_nth .i64 l
  have hA := Lib.hid h
  obtain ⟨a, cap, rfl, h1, h2, h6, h3⟩ := h
  have q22 : ∀ (w : World) (a : Option Addr) (n c n' c' : Nat), (binOp .eql 36 (.slice a n c) (.slice none n' c')).run Tryz.prog w = .ok (.bool a.isNone) w := fun w a n c n' c' => Lib.run_eql_slice_nil w _ _ a n c n' c' Tryz.underlying36
  clear h3
  cases a with
  | none =>
    have hc0 := h6 rfl
    have hl0 : l = [] := List.length_eq_zero_iff.1 (by omega)
    subst hl0
    clear hA h6 h1 h2 hl hm
    go_enter Tryz.func73, Tryz.ntmps73
    go_wp2
    go_ret
    exact ⟨_, rfl, ⟨rfl, Or.inl ⟨rfl, rfl⟩⟩, Below.refl _ _⟩
  | some a =>
    clear h6
    go_enter Tryz.func73, Tryz.ntmps73
    go_wp2_with (at_builtin; refine wpList_app rfl _ _ 36 rfl w.heap.size 3 i0 (.int .i64 0) 8 Tryz.underlying36 hi hz0 hz1 hz2 rfl _ 0 [] rfl (World.ownsRow_made w #[] 0 (Nat.le_refl _) (Nat.zero_le _) (by simp)) 0 _ _ _ rfl (hA.out.below (bel_alloc (Below.refl _ _) _)) (fun _ => rfl) ?qc1 ?qc2 ?qc3 ?_)
    case qc1 => simp [maxLen]; omega
    case qc2 => omega
    case qc3 => simp
    intro v' w1 ho hg
    go_wp2
    go_ret
    refine ⟨_, rfl, ?_, ((Below.refl _ w).alloc (Nat.le_refl _) _).grown hg (by simp) (by intro k hk; simp [Value.ownBlock] at hk; omega)⟩
    simpa [hm] using ho

variable {S : Nat → Prop} {w : World} {rb mb : Nat} {g : Int → Nat} {f : RS}
end Go.Proofs.YtahiahjhpakeiaaGreatDoor
namespace Go.Proofs.YtahiahjhpakeiaaGreatDoor
open Go.RowKit Go.Maps Go.Sort
set_option linter.unusedVariables false
set_option linter.unusedSimpArgs false
attribute [local go_sem] later_cell later_frozen later_lt

/-- Where a place is in a list; -1: it isn't. -/
def idxI (l : List Int) (x : Int) : Int := Lib.idxBy (fun x y => x == y) l x
theorem getL (l : List Int) (j : Nat) : l[j]! = nth l j := by
  unfold nth
  by_cases h : j < l.length
  · rw [getElem!_pos _ j h]; simp [h]
  · rw [getElem!_neg _ j h]; simp [h]
theorem index_any (w : World) (v : Value) (l : List Int) (h : SlAt 0 (fun i => .int .u64 (nth l i)) l.length w v) (hl : l.length ≤ 4000000000) (x : Int) :
    Calls Tryz.prog 90 #[v, .int .u64 x] w fun e w' => e = .returned (.int .i64 (idxI l x)) ∧ w = w' := by
  rcases h.parts with ⟨h0, a, cap, rfl, _⟩ | ⟨h0, b, off, cap, rfl, h1, h2, _, _, hc⟩
  · have e : idxI l x = -1 := by rw [List.length_eq_zero_iff.1 h0]; rfl
    rw [e]
    exact (AnyE.slices_Index_empty Tryz.indexU a cap (.int .u64 x) w).mono fun e w' h => ⟨h.1, h.2.symm⟩
  · have := AnyE.slices_Index Tryz.indexU (Value.int .u64) (fun x y => x == y) (EqlAt.int _ _ .u64) b off l.length cap l x w (Nat.le_refl _) (by omega) (fun j hj => by rw [getL]; exact hc j hj)
    rw [List.take_length] at this
    exact Calls.mono this fun e w' h => ⟨h.1, h.2.symm⟩
theorem idxI_at {l : List Int} (hn : l.Nodup) {k : Nat} (hk : k < l.length) : idxI l (nth l k) = k := by
  have := Lib.idxByFrom_hit (fun x y : Int => x == y) (nth l k) l k 0 hk (by rw [getL]; simp) (fun j hj => by
    rw [getL]
    simp only [beq_eq_false_iff_ne, ne_eq]
    rw [nth_eq hk, nth_eq (by omega)]
    intro e
    have := (List.getElem_inj hn).1 e
    omega)
  unfold idxI Lib.idxBy
  rw [this]
  simp
/-- The address of the place i behind the first, round the circle of four. -/
def atI (ids s : List Int) (i : Int) : Int := idxI ids (nth s ((i + 4) % 4).toNat)
theorem at_any (w : World) (b1 b2 : Nat) (ids s : List Int) (v1 v2 : Value) (h1 : w.cell? ⟨b1, 0, none⟩ = some v1) (h2 : w.cell? ⟨b2, 0, none⟩ = some v2) (z1 : b1 < w.heap.size) (z2 : b2 < w.heap.size)
    (hi : SlAt 0 (fun i => .int .u64 (nth ids i)) ids.length w v1) (hs : SlAt 0 (fun i => .int .u64 (nth s i)) s.length w v2) (hi4 : ids.length = 4) (hs4 : s.length = 4) (i : Int) (h0 : -1 ≤ i) (h10 : i ≤ 10) :
    Calls Tryz.prog 89 #[.int .i64 i, .pointer (some ⟨b1, 0, none⟩), .pointer (some ⟨b2, 0, none⟩)] w fun e w' => e = .returned (.int .i64 (atI ids s i)) ∧ Below w.heap.size w w' := by
  obtain ⟨j, hj, hj4⟩ : ∃ j : Nat, (i + 4) % 4 = (j : Int) ∧ j < 4 := ⟨((i + 4) % 4).toNat, by omega, by omega⟩
  have ht : (i + 4).tmod 4 = (j : Int) := by rw [Int.tmod_eq_emod_of_nonneg (by omega)]; exact hj
  have hE : atI ids s i = idxI ids (nth s j) := by unfold atI; rw [hj]; rfl
  rw [hE]
  clear hE hj
  have ci := Lib.hid (fun wr (hb : Below w.heap.size w wr) => index_any wr v1 ids (hi.below hb) (by omega) (nth s j))
  obtain ⟨a2, c2, rfl, _⟩ := hs.slice
  obtain ⟨b, off, rfl, _, hb, hc⟩ := hs.at j (by omega) w (Below.refl _ _)
  obtain ⟨a1, c1, rfl, _⟩ := hi.slice
  rw [hs4] at h2
  rw [hi4] at h1 ci
  clear hi hs
  go_enter Tryz.func89, Tryz.ntmps89
  go_wp2_with fail
  refine wp_region_calm (by kernel_rfl) (by kernel_rfl) ?_
  repeat (first | (go_big_quiet_step ((go_at_call 90; exact calls_calm_same (ci.out _ (by (repeat (first | exact Below.refl _ _ | (with_reducible assumption) | (with_reducible refine bel_later ?_ _) | (with_reducible refine bel_alloc ?_ _) | (with_reducible refine bel_drew ?_) | (with_reducible refine bel_drewN ?_ _) | (with_reducible refine bel_set ?_ (by first | (simp; done) | (simp; omega) | (dsimp only; omega)) _)))))))) | (refine wpQuiet_step (fun K hK => ?_); go_simp; first | (refine hK _ ?_; clear hK K) | (apply Exists.intro; refine ⟨fun _ => ?_, hK _ ?_⟩; (go_at_call 90; exact calls_calm_same (ci.out _ (by (repeat (first | exact Below.refl _ _ | (with_reducible assumption) | (with_reducible refine bel_later ?_ _) | (with_reducible refine bel_alloc ?_ _) | (with_reducible refine bel_drew ?_) | (with_reducible refine bel_drewN ?_ _) | (with_reducible refine bel_set ?_ (by first | (simp; done) | (simp; omega) | (dsimp only; omega)) _)))))); clear hK K)))
  refine wpQuiet_nil ?_
  intro _ hw'
  obtain ⟨xq, hw''⟩ := hw'
  subst hw''
  go_wp2_with fail
  go_ret
  exact ⟨rfl, by (repeat (first | exact Below.refl _ _ | (with_reducible assumption) | (with_reducible refine bel_later ?_ _) | (with_reducible refine bel_alloc ?_ _) | (with_reducible refine bel_drew ?_) | (with_reducible refine bel_drewN ?_ _) | (with_reducible refine bel_set ?_ (by first | (simp; done) | (simp; omega) | (dsimp only; omega)) _)))⟩
end Go.Proofs.YtahiahjhpakeiaaGreatDoor
namespace Go.Proofs.YtahiahjhpakeiaaGreatDoor
open Go.RowKit Go.Maps Go.Sort
set_option linter.unusedVariables false
set_option linter.unusedSimpArgs false

/-- What the base member of the i-th place knows. -/
def memAt (ids s : List Int) (i : Nat) : Mem := ⟨true, nth s i, atI ids s (i - 1), [atI ids s (i + 1), atI ids s (i + 2), atI ids s (i + 3)]⟩
def newF (ids s : List Int) : Nat → RS
  | 0 => fun _ => none
  | k + 1 => setM (newF ids s k) (atI ids s k) (memAt ids s k)
/-- Four places, sorted. -/
structure Four (ids s : List Int) : Prop where
  li : ids.length = 4
  ls : s.length = 4
  nodup : ids.Nodup
  up : Up s
  mem : ∀ x, x ∈ s ↔ x ∈ ids
  place : ∀ x ∈ ids, isPlace x
theorem Four.pos {ids s : List Int} (h : Four ids s) {j : Nat} (hj : j < 4) : ∃ k : Nat, k < 4 ∧ nth ids k = nth s j ∧ idxI ids (nth s j) = k := by
  have h1 : nth s j ∈ ids := (h.mem _).1 (nth_mem.2 ⟨j, by rw [h.ls]; exact hj, rfl⟩)
  obtain ⟨k, hk, e⟩ := nth_mem.1 h1
  exact ⟨k, by rw [← h.li]; exact hk, e, by rw [← e]; exact idxI_at h.nodup hk⟩
theorem Four.at {ids s : List Int} (h : Four ids s) (i : Int) : 0 ≤ atI ids s i ∧ atI ids s i < 4 := by
  obtain ⟨k, hk, _, e⟩ := h.pos (j := ((i + 4) % 4).toNat) (by omega)
  unfold atI
  rw [e]; omega
theorem Four.inj {ids s : List Int} (h : Four ids s) {i j : Nat} (hi : i < 4) (hj : j < 4) (e : atI ids s i = atI ids s j) : i = j := by
  have ei : (((i : Int) + 4) % 4).toNat = i := by omega
  have ej : (((j : Int) + 4) % 4).toNat = j := by omega
  unfold atI at e
  rw [ei, ej] at e
  obtain ⟨k, _, e1, e2⟩ := h.pos hi
  obtain ⟨k', _, e3, e4⟩ := h.pos hj
  rw [e2, e4] at e
  have : k = k' := by omega
  subst this
  rw [e1] at e3
  rcases Nat.lt_trichotomy i j with h1 | h1 | h1
  · have := up_nth h.up h1 (by rw [h.ls]; exact hj); omega
  · exact h1
  · have := up_nth h.up h1 (by rw [h.ls]; exact hi); omega
theorem newF_old {ids s : List Int} (h : Four ids s) : ∀ (k : Nat), k ≤ 4 → ∀ j, k ≤ j → j < 4 → newF ids s k (atI ids s j) = none
  | 0, _, _, _, _ => rfl
  | k + 1, hk, j, hj, hj4 => by
    show setM _ _ _ _ = none
    rw [setM_ne _ _ (fun e => by have := h.inj (i := j) (j := k) hj4 (by omega) e; omega)]
    exact newF_old h k (by omega) j (by omega) hj4
theorem newF_dom {ids s : List Int} (h : Four ids s) : ∀ k, k ≤ 4 → Dom (newF ids s k)
  | 0, _ => fun n m e => by cases e
  | k + 1, hk => fun n m e => by
    have hd := newF_dom h k (by omega)
    by_cases en : n = atI ids s k
    · subst en
      have e' : some (memAt ids s k) = some m := by rw [← e]; exact (setM_same _ _ _).symm
      cases e'
      have a0 := h.at k
      have a1 := h.at (k + 1)
      have a2 := h.at (k + 2)
      have a3 := h.at (k + 3)
      have a4 := h.at (k - 1)
      refine ⟨a0.1, by omega, ?_, by simp [memAt], ⟨by show -1 ≤ atI ids s (k - 1); omega, by show atI ids s (k - 1) < 32; omega⟩, fun x hx => ?_⟩
      · obtain ⟨k', hk', e1, _⟩ := h.pos (j := k) (by omega)
        show isPlace (nth s k)
        rw [← e1]
        exact h.place _ (nth_mem.2 ⟨k', by rw [h.li]; exact hk', rfl⟩)
      · simp only [memAt, List.mem_cons, List.not_mem_nil, or_false] at hx
        rcases hx with rfl | rfl | rfl <;> omega
    · have e' : newF ids s k n = some m := by rw [← e]; exact (setM_ne _ _ en).symm
      exact hd n m e'
end Go.Proofs.YtahiahjhpakeiaaGreatDoor
end
section
namespace Go.Proofs.YtahiahjhpakeiaaGreatDoor
set_option linter.unusedVariables false
set_option linter.unusedSimpArgs false

/-! ### Places -/
theorem within_iff {x a b : Int} : withinB x a b = true ↔ a = b ∧ x ≠ a ∨ a ≠ b ∧ x ≠ a ∧ dist a x < dist a b := by
  unfold withinB
  by_cases h : a = b
  · simp [h]
  · simp [h]
theorem within_no {x a b : Int} : withinB x a b = false ↔ (a = b → x = a) ∧ (a ≠ b → x = a ∨ dist a b ≤ dist a x) := by
  rw [← Bool.not_eq_true, within_iff]
  constructor
  · intro h
    refine ⟨fun e => ?_, fun e => ?_⟩
    · exact Decidable.byContradiction fun hx => h (Or.inl ⟨e, hx⟩)
    · by_cases hx : x = a
      · exact Or.inl hx
      · refine Or.inr ?_
        by_cases h1 : dist a x < dist a b
        · exact absurd (Or.inr ⟨e, hx, h1⟩) h
        · omega
  · rintro ⟨h1, h2⟩ (⟨e, hx⟩ | ⟨e, hx, hd⟩)
    · exact hx (h1 e)
    · rcases h2 e with h | h
      · exact hx h
      · omega
theorem skip_trans {X Y Z b b0 b1 : Int} (pX : isPlace X) (pY : isPlace Y) (pZ : isPlace Z) (pb : isPlace b) (p0 : isPlace b0) (p1 : isPlace b1) (h01 : b0 ≠ b1)
    (y0 : b0 ≠ Y) (y1 : b1 ≠ Y) (yb : b ≠ Y) (n0 : withinB b0 X Y = false) (n1 : withinB b1 X Y = false) (nb : withinB b X Y = false)
    (m0 : withinB b0 Y Z = false) (m1 : withinB b1 Y Z = false) (mb : withinB b Y Z = false) : withinB b X Z = false := by
  rw [within_no] at *
  unfold isPlace at *
  unfold dist at *
  by_cases hXY : X = Y
  · have := n0.1 hXY; have := n1.1 hXY; omega
  · have a0 := n0.2 hXY
    have a1 := n1.2 hXY
    have ab := nb.2 hXY
    by_cases hYZ : Y = Z
    · have := m0.1 hYZ; have := m1.1 hYZ; omega
    · have c0 := m0.2 hYZ
      have c1 := m1.2 hYZ
      have cb := mb.2 hYZ
      clear n0 n1 nb m0 m1 mb
      refine ⟨fun e => ?_, fun e => ?_⟩ <;> omega
/-- A step that doesn't skip a place comes nearer to it. -/
theorem step_near {X H t : Int} (pX : isPlace X) (pH : isPlace H) (pt : isPlace t) (hXH : X ≠ H) (htX : t ≠ X) (h : withinB t X H = false) : dist H t < dist X t := by
  have := (within_no.1 h).2 hXH
  unfold isPlace at *
  unfold dist at *
  omega

/-! ### Chains -/
def Ch (R : Int → Int → Prop) : Int → List Int → Prop
  | _, [] => True
  | x, y :: l => R x y ∧ Ch R y l
theorem Ch.take {R : Int → Int → Prop} : ∀ {x : Int} {l : List Int} (n : Nat), Ch R x l → Ch R x (l.take n)
  | _, [], n, _ => by simp [Ch]
  | _, _ :: _, 0, _ => trivial
  | _, _ :: _, n + 1, h => ⟨h.1, h.2.take n⟩
theorem Ch.imp {R R' : Int → Int → Prop} (h : ∀ x y, R x y → R' x y) : ∀ {x : Int} {l : List Int}, Ch R x l → Ch R' x l
  | _, [], _ => trivial
  | _, _ :: _, hc => ⟨h _ _ hc.1, hc.2.imp h⟩
/-- One that goes is left out. -/
theorem Ch.drop {R : Int → Int → Prop} {y : Int} (ht : ∀ a c, R a y → R y c → R a c) : ∀ {l : List Int} {x : Int}, (Ch R x l → Ch R x (l.filter (· != y))) ∧ (R x y → Ch R y l → Ch R x (l.filter (· != y)))
  | [], x => ⟨fun _ => trivial, fun _ _ => trivial⟩
  | c :: l, x => by
    by_cases e : c = y
    · subst e
      refine ⟨fun h => ?_, fun h1 h2 => ?_⟩
      · simpa using (Ch.drop ht).2 h.1 h.2
      · simpa using (Ch.drop ht).2 h1 h2.2
    · have e' : (c :: l).filter (· != y) = c :: l.filter (· != y) := by simp [List.filter_cons, e]
      refine ⟨fun h => ?_, fun h1 h2 => ?_⟩
      · rw [e']; exact ⟨h.1, (Ch.drop ht).1 h.2⟩
      · rw [e']; exact ⟨ht _ _ h1 h2.1, (Ch.drop ht).1 h2.2⟩
theorem filter_take {p : Int → Bool} : ∀ (l : List Int) (n : Nat), ∃ m, (l.take n).filter p = (l.filter p).take m
  | [], n => ⟨0, by simp⟩
  | x :: l, 0 => ⟨0, by simp⟩
  | x :: l, n + 1 => by
    obtain ⟨m, hm⟩ := filter_take (p := p) l n
    by_cases h : p x = true
    · exact ⟨m + 1, by simp [List.filter_cons, h, hm]⟩
    · exact ⟨m, by simp [List.filter_cons, h, hm]⟩

/-! ### What always holds -/
def NoSkip (f : RS) (x y : Int) : Prop := ∀ b, 0 ≤ b → b < 4 → withinB (idR f b) (idR f x) (idR f y) = false
structure Inv (f : RS) : Prop where
  dom : Dom f
  heads : Heads f
  base : ∀ b, 0 ≤ b → b < 4 → livesR f b = true
  uniq : ∀ x y, livesR f x = true → livesR f y = true → idR f x = idR f y → x = y
  used : ∀ n m, f n = some m → ∀ x ∈ m.succ, (f x).isSome = true
  skip : ∀ n, livesR f n = true → Ch (NoSkip f) n ((succR f n).filter (livesR f))

theorem place_id {f : RS} (h : Dom f) (n : Int) : isPlace (idR f n) := by
  unfold idR
  cases e : f n with
  | none => exact ⟨by simp, by simp⟩
  | some m => exact (h n m e).2.2.1
theorem headL_filter (f : RS) (l : List Int) : headL f l = (l.filter (livesR f)).headD (-1) := by
  induction l with
  | nil => rfl
  | cons x l ih =>
    by_cases h : livesR f x = true
    · simp [headL, List.filter_cons, h]
    · simp [headL, List.filter_cons, h, ih]
section
variable {f : RS} (I : Inv f)
include I
theorem Inv.bases {b c : Int} (hb : 0 ≤ b ∧ b < 4) (hc : 0 ≤ c ∧ c < 4) (h : b ≠ c) : idR f b ≠ idR f c := fun e => h (I.uniq b c (I.base b hb.1 hb.2) (I.base c hc.1 hc.2) e)
/-- A pair that skips nobody lies at two places. -/
theorem Inv.apart {x y : Int} (h : NoSkip f x y) : idR f x ≠ idR f y := fun e => by
  have h0 := h 0 (by omega) (by omega)
  have h1 := h 1 (by omega) (by omega)
  have := (within_no.1 h0).1 e
  have := (within_no.1 h1).1 e
  have := I.bases (b := 0) (c := 1) (by omega) (by omega) (by omega)
  omega
theorem Inv.head {n : Int} (hn : livesR f n = true) : NoSkip f n (headR f n) ∧ livesR f (headR f n) = true := by
  have h1 := I.heads n hn
  have h2 := I.skip n hn
  refine ⟨?_, h1⟩
  unfold headR at h1 ⊢
  rw [headL_filter] at h1 ⊢
  cases e : (succR f n).filter (livesR f) with
  | nil =>
    rw [e] at h1
    rw [show ([] : List Int).headD (-1) = -1 from rfl, livesR_neg I.dom] at h1
    cases h1
  | cons y l => rw [e] at h2; exact h2.1
theorem Inv.head_ne {n : Int} (hn : livesR f n = true) : idR f n ≠ idR f (headR f n) := I.apart (I.head hn).1
theorem Inv.trans {x y z : Int} (hy : livesR f y = true) (hy4 : ¬ (0 ≤ y ∧ y < 4)) (h1 : NoSkip f x y) (h2 : NoSkip f y z) : NoSkip f x z := fun b hb0 hb4 => by
  have ne : ∀ c : Int, 0 ≤ c → c < 4 → idR f c ≠ idR f y := fun c h0 h4 e => hy4 (by have := I.uniq c y (I.base c h0 h4) hy e; omega)
  have P := place_id I.dom
  exact skip_trans (b0 := idR f 0) (b1 := idR f 1) (P x) (P y) (P z) (P b) (P 0) (P 1) (I.bases (b := 0) (c := 1) (by omega) (by omega) (by omega)) (ne 0 (by omega) (by omega)) (ne 1 (by omega) (by omega)) (ne b hb0 hb4)
    (h1 0 (by omega) (by omega)) (h1 1 (by omega) (by omega)) (h1 b hb0 hb4) (h2 0 (by omega) (by omega)) (h2 1 (by omega) (by omega)) (h2 b hb0 hb4)
end
theorem noSkip_congr {f g : RS} (h : ∀ j, idR g j = idR f j) (x y : Int) : NoSkip f x y → NoSkip g x y := fun hs b h0 h4 => by rw [h, h, h]; exact hs b h0 h4
theorem within_sub {q x s b : Int} (pq : isPlace q) (px : isPlace x) (ps : isPlace s) (pb : isPlace b) (hxs : x ≠ s) (h : withinB q x s = true) (hb : withinB b x s = false) : withinB b x q = false := by
  rw [within_iff] at h
  rw [within_no] at hb ⊢
  have := hb.2 hxs
  unfold isPlace at *
  unfold dist at *
  refine ⟨fun e => ?_, fun e => ?_⟩ <;> omega
theorem within_sub2 {q x s b : Int} (pq : isPlace q) (px : isPlace x) (ps : isPlace s) (pb : isPlace b) (hxs : x ≠ s) (h : withinB q x s = true) (hb : withinB b x s = false) : withinB b q s = false := by
  rw [within_iff] at h
  rw [within_no] at hb ⊢
  have := hb.2 hxs
  unfold isPlace at *
  unfold dist at *
  refine ⟨fun e => ?_, fun e => ?_⟩ <;> omega

/-! ### Looking -/
theorem stabT_facts {f : RS} (I : Inv f) {n : Int} (hn : livesR f n = true) : livesR f (stabT f n) = true ∧ NoSkip f n (stabT f n) ∧ (stabT f n = headR f n ∨ withinB (idR f (stabT f n)) (idR f n) (idR f (headR f n)) = true) := by
  have hh := I.head hn
  unfold stabT
  split
  · rename_i h
    unfold nearR at h
    rw [Bool.and_eq_true, Bool.and_eq_true] at h
    have P := place_id I.dom
    exact ⟨h.1.2, fun b h0 h4 => within_sub (P _) (P _) (P _) (P _) (I.head_ne hn) h.2 (hh.1 b h0 h4), Or.inr h.2⟩
  · exact ⟨hh.2, hh.1, Or.inl rfl⟩
theorem isSome_stab (f : RS) (n : Int) {j : Int} (h : (f j).isSome = true) : (stabR f n j).isSome = true := by
  unfold stabR stab1
  rw [isSome_set, isSome_set]
  split <;> simp_all
theorem succR_mem {f : RS} (I : Inv f) {n : Int} : ∀ x ∈ succR f n, (f x).isSome = true := fun x hx => by
  unfold succR at hx
  cases e : f n with
  | none => rw [e] at hx; simp at hx
  | some m => rw [e] at hx; exact I.used n m e x hx
theorem live_isSome {f : RS} {n : Int} (h : livesR f n = true) : (f n).isSome = true := by
  obtain ⟨m, hm, _⟩ := livesR_some h; rw [hm]; rfl
theorem predR_dom {f : RS} (h : Dom f) {n : Int} (hn : livesR f n = true) : -1 ≤ predR f n ∧ predR f n < 32 := by
  obtain ⟨m, hm, _⟩ := livesR_some hn
  unfold predR; rw [hm]; exact (h n m hm).2.2.2.2.1
theorem succR_dom {f : RS} (h : Dom f) (n : Int) : (succR f n).length ≤ 3 ∧ ∀ x ∈ succR f n, 0 ≤ x ∧ x < 32 := by
  unfold succR
  cases e : f n with
  | none => exact ⟨by simp, fun x hx => by simp at hx⟩
  | some m => exact ⟨(h n m e).2.2.2.1, (h n m e).2.2.2.2.2⟩
theorem dom_stab {f : RS} (I : Inv f) {n : Int} (hn : livesR f n = true) : Dom (stabR f n) := by
  have hT := (stabT_facts I hn).1
  have dn := livesR_dom I.dom hn
  have dT := livesR_dom I.dom hT
  have P := place_id I.dom
  have h1 : Dom (stab1 f n) := fun j m e => by
    unfold stab1 at e
    by_cases ej : j = n
    · subst ej
      rw [setM_same] at e
      cases e
      exact ⟨dn.1, dn.2, P _, follow_len _ _, predR_dom I.dom hn, follow_mem dT (succR_dom I.dom _).2⟩
    · rw [setM_ne _ _ ej] at e; exact I.dom j m e
  intro j m e
  unfold stabR at e
  by_cases ej : j = stabT f n
  · rw [ej, setM_same] at e
    cases e
    rw [ej]
    exact ⟨dT.1, dT.2, P _, (succR_dom h1 _).1, rect_dom (predR_dom I.dom hT) dn, (succR_dom h1 _).2⟩
  · rw [setM_ne _ _ ej] at e; exact h1 j m e
theorem inv_stab {f : RS} (I : Inv f) {n : Int} (hn : livesR f n = true) : Inv (stabR f n) where
  dom := dom_stab I hn
  heads := heads_stab I.heads hn
  base := fun b h0 h4 => by rw [livesR_stab]; exact I.base b h0 h4
  uniq := fun x y hx hy e => by
    rw [livesR_stab] at hx hy
    rw [idR_stab, idR_stab] at e
    exact I.uniq x y hx hy e
  used := fun j m e x hx => by
    refine isSome_stab f n ?_
    have hs : x ∈ succR (stabR f n) j := by unfold succR; rw [e]; exact hx
    rw [succR_stab] at hs
    split at hs
    · rcases List.mem_cons.1 (List.mem_of_mem_take hs) with rfl | h
      · exact live_isSome (stabT_facts I hn).1
      · exact succR_mem I x h
    · exact succR_mem I x hs
  skip := fun j hj => by
    rw [livesR_stab] at hj
    have e : livesR (stabR f n) = livesR f := funext (livesR_stab f n)
    rw [e]
    refine Ch.imp (fun x y => noSkip_congr (idR_stab f n) x y) ?_
    rw [succR_stab]
    split
    · rename_i ej
      rw [ej]
      obtain ⟨h1, h2, _⟩ := stabT_facts I hn
      obtain ⟨m, hm⟩ := filter_take (p := livesR f) (stabT f n :: succR f (stabT f n)) 3
      unfold followL
      rw [hm]
      refine Ch.take m ?_
      rw [List.filter_cons_of_pos h1]
      exact ⟨h2, I.skip _ h1⟩
    · exact I.skip j hj
theorem inv_looks {f : RS} (I : Inv f) {l : List Int} (hl : ∀ x ∈ l, livesR f x = true) : Inv (looksR f l) := by
  induction l generalizing f with
  | nil => exact I
  | cons n l ih => exact ih (inv_stab I (hl n (by simp))) fun x hx => by rw [livesR_stab]; exact hl x (List.mem_cons_of_mem _ hx)
theorem inv_round {f : RS} (I : Inv f) : Inv (roundR f) := inv_looks I fun x hx => (mem_liveL I.dom).1 hx

/-! ### Joining -/
/-- Those that live and lie nearer to a place than one. -/
def nearer (f : RS) (t x : Int) : Nat := (liveL f).countP fun y => decide (dist (idR f y) t < dist (idR f x) t)
theorem nearer_le (f : RS) (t x : Int) : nearer f t x ≤ 32 := Nat.le_trans List.countP_le_length (length_liveL f)
theorem countP_lt {p q : Int → Bool} {z : Int} (hp : p z = false) (hq : q z = true) (h : ∀ x, p x = true → q x = true) : ∀ {l : List Int}, z ∈ l → l.countP p < l.countP q
  | [], hz => by simp at hz
  | x :: l, hz => by
    have hle : l.countP p ≤ l.countP q := List.countP_mono_left fun y _ => h y
    rw [List.countP_cons, List.countP_cons]
    rcases List.mem_cons.1 hz with rfl | hz
    · simp [hp, hq]; omega
    · have := countP_lt hp hq h hz
      have hx := h x
      cases hpx : p x <;> cases hqx : q x <;> simp_all <;> omega
theorem nearer_lt {f : RS} (hd : Dom f) {t x y : Int} (hy : livesR f y = true) (h : dist (idR f y) t < dist (idR f x) t) : nearer f t y < nearer f t x := by
  unfold nearer
  exact countP_lt (z := y) (by simp) (by simpa using h) (fun z hz => by simp at hz ⊢; omega) ((mem_liveL hd).2 hy)
theorem joinAt_some {f : RS} (I : Inv f) {id : Int} (hid : isPlace id) (hno : ∀ x, livesR f x = true → idR f x ≠ id) : ∀ (k : Nat) (x : Int), livesR f x = true → nearer f id x < k →
    ∃ z, joinAt f id k x = some z ∧ livesR f z = true ∧ withinB id (idR f z) (idR f (headR f z)) = true
  | 0, x, _, h => absurd h (by omega)
  | k + 1, x, hx, h => by
    unfold joinAt
    by_cases hw : withinB id (idR f x) (idR f (headR f x)) = true
    · rw [if_pos hw]; exact ⟨x, rfl, hx, hw⟩
    · rw [if_neg hw]
      have P := place_id I.dom
      have hh := I.head hx
      have := nearer_lt I.dom (t := id) (x := x) hh.2 (step_near (P _) (P _) hid (I.head_ne hx) (fun e => hno x hx e.symm) (by simpa using hw))
      exact joinAt_some I hid hno k _ hh.2 (by omega)
theorem joinC_cases {f : RS} (I : Inv f) {n id via : Int} (hid : isPlace id) : joinC f n id via ≠ 5 ∧
    (joinC f n id via = 0 → 0 ≤ n ∧ n < 32 ∧ f n = none ∧ livesR f via = true ∧ (∀ x, livesR f x = true → idR f x ≠ id) ∧
      ∃ z, joinAt f id 33 via = some z ∧ livesR f z = true ∧ withinB id (idR f z) (idR f (headR f z)) = true ∧ joinR f n id via = setM f n ⟨true, id, z, succR f z⟩) := by
  unfold joinR
  unfold joinC
  split
  · exact ⟨by decide, fun h => absurd h (by decide)⟩
  rename_i h1
  split
  · exact ⟨by decide, fun h => absurd h (by decide)⟩
  rename_i h2
  split
  · exact ⟨by decide, fun h => absurd h (by decide)⟩
  rename_i h3
  split
  · exact ⟨by decide, fun h => absurd h (by decide)⟩
  rename_i h4
  have hno : ∀ x, livesR f x = true → idR f x ≠ id := fun x hx e => h4 (List.any_eq_true.2 ⟨x, (mem_liveL I.dom).2 hx, by simpa using e⟩)
  have hv : livesR f via = true := by simpa using h3
  obtain ⟨z, hz, hzl, hzw⟩ := joinAt_some I hid hno 33 via hv (by have := nearer_le f id via; omega)
  rw [hz]
  refine ⟨by simp, fun _ => ⟨by omega, by omega, by simpa using h2, hv, hno, z, rfl, hzl, hzw, by simp⟩⟩
theorem joinR_not {f : RS} {n id via : Int} (h : joinC f n id via ≠ 0) : joinR f n id via = f := by unfold joinR; rw [if_neg h]
theorem dom_join {f : RS} (hd : Dom f) {n id z : Int} (h0 : 0 ≤ n) (h1 : n < 32) (hid : isPlace id) (hz : livesR f z = true) : Dom (setM f n ⟨true, id, z, succR f z⟩) := fun j m e => by
  by_cases ej : j = n
  · subst ej
    rw [setM_same] at e
    cases e
    have := livesR_dom hd hz
    exact ⟨h0, h1, hid, (succR_dom hd z).1, ⟨by show -1 ≤ z; omega, by show z < 32; omega⟩, (succR_dom hd z).2⟩
  · rw [setM_ne _ _ ej] at e; exact hd j m e
section
variable {f : RS} (I : Inv f) {n id z : Int} (hn : f n = none) (h0 : 0 ≤ n) (h1 : n < 32) (hid : isPlace id) (hno : ∀ x, livesR f x = true → idR f x ≠ id) (hz : livesR f z = true) (hw : withinB id (idR f z) (idR f (headR f z)) = true)
theorem join_lives (j : Int) : livesR (setM f n ⟨true, id, z, succR f z⟩) j = if j = n then true else livesR f j := livesR_set _ _ _ _
include hn I in
theorem join_filter (j : Int) : (succR f j).filter (livesR (setM f n ⟨true, id, z, succR f z⟩)) = (succR f j).filter (livesR f) := by
  refine List.filter_congr fun x hx => ?_
  rw [livesR_set, if_neg fun e => ?_]
  have := succR_mem I x hx
  rw [e, hn] at this
  cases this
include hn in
theorem join_id {j : Int} (h : livesR f j = true) : idR (setM f n ⟨true, id, z, succR f z⟩) j = idR f j := by
  rw [idR_set, if_neg]
  rintro rfl
  have := live_isSome h
  rw [hn] at this
  cases this
include hn I in
theorem join_head (j : Int) : headR (setM f n ⟨true, id, z, succR f z⟩) j = if j = n then headR f z else headR f j := by
  unfold headR
  rw [headL_filter, headL_filter, headL_filter, succR_set]
  split <;> rw [join_filter I hn]
include hn I in
theorem join_skip {x y : Int} (hx : livesR f x = true) (hy : livesR f y = true) (h : NoSkip f x y) : NoSkip (setM f n ⟨true, id, z, succR f z⟩) x y := fun b b0 b4 => by
  rw [join_id hn hx, join_id hn hy, join_id hn (I.base b b0 b4)]; exact h b b0 b4
theorem ch_lives {f : RS} {R R' : Int → Int → Prop} (h : ∀ x y, livesR f x = true → livesR f y = true → R x y → R' x y) : ∀ {x : Int} {l : List Int}, livesR f x = true → (∀ y ∈ l, livesR f y = true) → Ch R x l → Ch R' x l
  | _, [], _, _, _ => trivial
  | _, _ :: _, hx, hl, hc => ⟨h _ _ hx (hl _ (by simp)) hc.1, ch_lives h (hl _ (by simp)) (fun y hy => hl y (List.mem_cons_of_mem _ hy)) hc.2⟩
include hn h0 h1 hid hno hz hw I in
theorem inv_join : Inv (setM f n ⟨true, id, z, succR f z⟩) where
  dom := dom_join I.dom h0 h1 hid hz
  heads := fun j hj => by
    rw [join_head I hn]
    rw [join_lives] at hj ⊢
    split
    · split
      · rfl
      · exact I.heads z hz
    · rename_i ej
      rw [if_neg ej] at hj
      split
      · rfl
      · exact I.heads j hj
  base := fun b b0 b4 => by rw [join_lives]; split
                            · rfl
                            · exact I.base b b0 b4
  uniq := fun x y hx hy e => by
    rw [join_lives] at hx hy
    by_cases ex : x = n <;> by_cases ey : y = n
    · rw [ex, ey]
    · rw [if_neg ey] at hy
      rw [join_id hn hy, ex, idR_set, if_pos rfl] at e
      exact absurd e.symm (hno y hy)
    · rw [if_neg ex] at hx
      rw [join_id hn hx, ey, idR_set, if_pos rfl] at e
      exact absurd e (hno x hx)
    · rw [if_neg ex] at hx
      rw [if_neg ey] at hy
      rw [join_id hn hx, join_id hn hy] at e
      exact I.uniq x y hx hy e
  used := fun j m e x hx => by
    rw [isSome_set]
    split
    · rfl
    · by_cases ej : j = n
      · rw [ej, setM_same] at e; cases e; exact succR_mem I x hx
      · rw [setM_ne _ _ ej] at e; exact I.used j m e x hx
  skip := fun j hj => by
    have hl : ∀ k, ∀ y ∈ (succR f k).filter (livesR f), livesR f y = true := fun k y hy => (List.mem_filter.1 hy).2
    by_cases ej : j = n
    · subst ej
      rw [succR_set, if_pos rfl]
      show Ch _ _ ((succR f z).filter _)
      rw [join_filter I hn]
      have hs := I.skip z hz
      have hh := I.head hz
      have hhe : headR f z = ((succR f z).filter (livesR f)).headD (-1) := headL_filter _ _
      have hlz := hl z
      cases e : (succR f z).filter (livesR f) with
      | nil => trivial
      | cons y l =>
        rw [e] at hs hhe hlz
        have hy : headR f z = y := hhe
        have hyl := hlz y (by simp)
        refine ⟨fun b b0 b4 => ?_, ch_lives (fun a c ha hc hac => join_skip I hn ha hc hac) hyl (fun c hc => hlz c (List.mem_cons_of_mem _ hc)) hs.2⟩
        have P := place_id I.dom
        rw [join_id hn hyl, join_id hn (I.base b b0 b4), idR_set, if_pos rfl]
        rw [hy] at hw hh
        exact within_sub2 hid (P _) (P _) (P _) (I.apart hh.1) hw (hh.1 b b0 b4)
    · rw [join_lives, if_neg ej] at hj
      rw [succR_set, if_neg ej, join_filter I hn]
      exact ch_lives (fun a c ha hc hac => join_skip I hn ha hc hac) hj (hl j) (I.skip j hj)
end
theorem inv_joinR {f : RS} (I : Inv f) {n id via : Int} (hid : isPlace id) : Inv (joinR f n id via) := by
  by_cases h : joinC f n id via = 0
  · obtain ⟨h0, h1, hn, hv, hno, z, _, hz, hw, e⟩ := (joinC_cases I hid).2 h
    rw [e]
    exact inv_join I hn h0 h1 hid hno hz hw
  · rw [joinR_not h]; exact I

/-! ### Going -/
theorem lives_dies (f : RS) (n j : Int) : livesR (diesR f n) j = if j = n then false else livesR f j := livesR_set _ _ _ _
theorem id_dies (f : RS) (n j : Int) : idR (diesR f n) j = idR f j := by
  unfold diesR; rw [idR_set]; split
  · rename_i e; rw [e]
  · rfl
theorem succ_dies (f : RS) (n j : Int) : succR (diesR f n) j = succR f j := by
  unfold diesR; rw [succR_set]; split
  · rename_i e; rw [e]
  · rfl
theorem dom_dies {f : RS} (hd : Dom f) {n : Int} (hn : livesR f n = true) : Dom (diesR f n) := fun j m e => by
  unfold diesR at e
  by_cases ej : j = n
  · subst ej
    rw [setM_same] at e
    cases e
    have := livesR_dom hd hn
    exact ⟨this.1, this.2, place_id hd _, (succR_dom hd _).1, predR_dom hd hn, (succR_dom hd _).2⟩
  · rw [setM_ne _ _ ej] at e; exact hd j m e
theorem inv_dies {f : RS} (I : Inv f) {n : Int} (hn : livesR f n = true) (h4 : ¬ n < 4) (hh : ∀ k, livesR (diesR f n) k = true → headR (diesR f n) k ≠ -1) : Inv (diesR f n) where
  dom := dom_dies I.dom hn
  heads := fun j hj => by
    have := hh j hj
    unfold headR at this ⊢
    rcases headL_or (diesR f n) (succR (diesR f n) j) with h | h
    · exact h.1
    · exact absurd h.1 this
  base := fun b b0 b4 => by rw [lives_dies, if_neg (by omega)]; exact I.base b b0 b4
  uniq := fun x y hx hy e => by
    rw [lives_dies] at hx hy
    split at hx
    · cases hx
    split at hy
    · cases hy
    rw [id_dies, id_dies] at e
    exact I.uniq x y hx hy e
  used := fun j m e x hx => by
    have hs : x ∈ succR (diesR f n) j := by unfold succR; rw [e]; exact hx
    rw [succ_dies] at hs
    unfold diesR
    rw [isSome_set]
    split
    · rfl
    · exact succR_mem I x hs
  skip := fun j hj => by
    rw [lives_dies] at hj
    split at hj
    · cases hj
    rename_i ej
    rw [succ_dies]
    have e : (succR f j).filter (livesR (diesR f n)) = ((succR f j).filter (livesR f)).filter (· != n) := by
      rw [List.filter_filter]
      refine List.filter_congr fun x _ => ?_
      rw [lives_dies]
      by_cases ex : x = n <;> simp [ex]
    rw [e]
    refine Ch.imp (fun x y => noSkip_congr (id_dies f n) x y) ?_
    exact (Ch.drop (R := NoSkip f) (y := n) fun a c h1 h2 => I.trans hn (by omega) h1 h2).1 (I.skip j hj)
theorem failC_cases {f : RS} (I : Inv f) (n : Int) : failC f n = 0 ∧ failR f n = diesR f n ∧ livesR f n = true ∧ 4 ≤ n ∧ (∀ k, livesR (diesR f n) k = true → headR (diesR f n) k ≠ -1) ∨ failC f n ≠ 0 ∧ failR f n = f := by
  unfold failR
  by_cases h : failC f n = 0
  · left
    rw [if_pos h]
    unfold failC at h
    split at h
    · exact absurd h (by decide)
    rename_i h1
    split at h
    · exact absurd h (by decide)
    rename_i h2
    split at h
    · exact absurd h (by decide)
    rename_i h3
    have hn : livesR f n = true := by simpa using h1
    refine ⟨?_, rfl, hn, by omega, fun k hk e => h3 (List.any_eq_true.2 ⟨k, (mem_liveL (dom_dies I.dom hn)).2 hk, by simpa using e⟩)⟩
    unfold failC
    rw [if_neg h1, if_neg h2, if_neg h3]
  · right
    rw [if_neg h]
    exact ⟨h, rfl⟩
theorem inv_failR {f : RS} (I : Inv f) (n : Int) : Inv (failR f n) := by
  rcases failC_cases I n with ⟨_, e, hn, h4, hh⟩ | ⟨_, e⟩
  · rw [e]; exact inv_dies I hn (by omega) hh
  · rw [e]; exact I

/-! ### The base ring -/
theorem newF_at {ids s : List Int} (h : Four ids s) : ∀ (k : Nat), k ≤ 4 → ∀ i, i < k → newF ids s k (atI ids s i) = some (memAt ids s i)
  | 0, _, i, hi => absurd hi (by omega)
  | k + 1, hk, i, hi => by
    by_cases e : i = k
    · subst e; exact setM_same _ _ _
    · show setM _ _ _ _ = _
      rw [setM_ne _ _ (fun e2 => e (h.inj (by omega) (by omega) e2))]
      exact newF_at h k (by omega) i (by omega)
theorem newF_inv {ids s : List Int} : ∀ (k : Nat) (n : Int) (m : Mem), newF ids s k n = some m → ∃ i : Nat, i < k ∧ n = atI ids s i ∧ m = memAt ids s i
  | 0, n, m, e => by cases e
  | k + 1, n, m, e => by
    by_cases en : n = atI ids s k
    · subst en
      have e' : some (memAt ids s k) = some m := by rw [← e]; exact (setM_same _ _ _).symm
      cases e'
      exact ⟨k, by omega, rfl, rfl⟩
    · have e' : newF ids s k n = some m := by rw [← e]; exact (setM_ne _ _ en).symm
      obtain ⟨i, hi, h1, h2⟩ := newF_inv k n m e'
      exact ⟨i, by omega, h1, h2⟩

theorem atI_mod (ids s : List Int) (t : Int) : atI ids s t = atI ids s (((t + 4) % 4).toNat : Int) := by
  unfold atI
  rw [show (((((t + 4) % 4).toNat : Nat) : Int) + 4) % 4 = (t + 4) % 4 by omega]
section
variable {ids s : List Int} (h : Four ids s)
include h
theorem Four.mk_at {t : Int} : newF ids s 4 (atI ids s t) = some (memAt ids s ((t + 4) % 4).toNat) := by
  rw [atI_mod]; exact newF_at h 4 (Nat.le_refl _) _ (by omega)
theorem Four.id_at (t : Int) : idR (newF ids s 4) (atI ids s t) = nth s ((t + 4) % 4).toNat := by
  unfold idR; rw [h.mk_at]; rfl
theorem Four.lives_at (t : Int) : livesR (newF ids s 4) (atI ids s t) = true := by
  unfold livesR; rw [h.mk_at]; rfl
theorem Four.onto {b : Int} (h0 : 0 ≤ b) (h4 : b < 4) : ∃ j : Nat, j < 4 ∧ b = atI ids s j ∧ nth s j = nth ids b.toNat := by
  have hb : nth ids b.toNat ∈ s := (h.mem _).2 (nth_mem.2 ⟨b.toNat, by rw [h.li]; omega, rfl⟩)
  obtain ⟨j, hj, e⟩ := nth_mem.1 hb
  rw [h.ls] at hj
  refine ⟨j, hj, ?_, e⟩
  unfold atI
  rw [show (((j : Int) + 4) % 4).toNat = j by omega, e, idxI_at h.nodup (by rw [h.li]; omega)]
  omega
theorem Four.places : isPlace (nth s 0) ∧ isPlace (nth s 3) ∧ nth s 0 < nth s 1 ∧ nth s 1 < nth s 2 ∧ nth s 2 < nth s 3 := by
  have hp : ∀ j, j < 4 → isPlace (nth s j) := fun j hj => h.place _ ((h.mem _).1 (nth_mem.2 ⟨j, by rw [h.ls]; exact hj, rfl⟩))
  exact ⟨hp 0 (by omega), hp 3 (by omega), up_nth h.up (by omega) (by rw [h.ls]; omega), up_nth h.up (by omega) (by rw [h.ls]; omega), up_nth h.up (by omega) (by rw [h.ls]; omega)⟩
theorem Four.skip (t : Int) : NoSkip (newF ids s 4) (atI ids s t) (atI ids s (t + 1)) := fun b h0 h4 => by
  obtain ⟨j, hj, rfl, _⟩ := h.onto h0 h4
  rw [h.id_at, h.id_at, h.id_at]
  obtain ⟨⟨p0, _⟩, ⟨_, p3⟩, l0, l1, l2⟩ := h.places
  obtain ⟨i, hi, e1, e2⟩ : ∃ i : Nat, i < 4 ∧ ((t + 4) % 4).toNat = i ∧ ((t + 1 + 4) % 4).toNat = (i + 1) % 4 := ⟨((t + 4) % 4).toNat, by omega, rfl, by omega⟩
  rw [e1, e2, show (((j : Int) + 4) % 4).toNat = j by omega, within_no]
  have hi' : i = 0 ∨ i = 1 ∨ i = 2 ∨ i = 3 := by omega
  have hj' : j = 0 ∨ j = 1 ∨ j = 2 ∨ j = 3 := by omega
  clear e1 e2 h0 h4 h
  unfold dist
  rcases hi' with rfl | rfl | rfl | rfl <;> rcases hj' with rfl | rfl | rfl | rfl <;> (simp only [Nat.reduceAdd, Nat.reduceMod]; refine ⟨fun e => ?_, fun e => ?_⟩ <;> first | rfl | exact Or.inl trivial | omega)
theorem Four.succ_at (t : Int) : succR (newF ids s 4) (atI ids s t) = [atI ids s (t + 1), atI ids s (t + 2), atI ids s (t + 3)] := by
  unfold succR
  rw [h.mk_at]
  simp only [memAt]
  have e : ∀ k : Int, atI ids s (((t + 4) % 4).toNat + k) = atI ids s (t + k) := fun k => by
    rw [atI_mod ids s (((t + 4) % 4).toNat + k), atI_mod ids s (t + k)]
    congr 3
    omega
  rw [e, e, e]
theorem Four.lives_iff (n : Int) : livesR (newF ids s 4) n = true ↔ 0 ≤ n ∧ n < 4 := by
  constructor
  · intro hn
    obtain ⟨m, hm, _⟩ := livesR_some hn
    obtain ⟨i, hi, rfl, _⟩ := newF_inv 4 n m hm
    exact h.at i
  · rintro ⟨h0, h4⟩
    obtain ⟨j, hj, rfl, _⟩ := h.onto h0 h4
    exact h.lives_at j
theorem Four.head_at (t : Int) : headR (newF ids s 4) (atI ids s t) = atI ids s (t + 1) := by
  unfold headR
  rw [h.succ_at]
  simp only [headL, h.lives_at, if_true]
theorem Four.id_base {b : Int} (h0 : 0 ≤ b) (h4 : b < 4) : idR (newF ids s 4) b = nth ids b.toNat := by
  obtain ⟨j, hj, e, e2⟩ := h.onto h0 h4
  rw [e, h.id_at, show (((j : Int) + 4) % 4).toNat = j by omega, e2]
  rw [← e]
theorem inv_new : Inv (newF ids s 4) where
  dom := newF_dom h 4 (Nat.le_refl _)
  heads := fun n hn => by
    obtain ⟨h0, h4⟩ := (h.lives_iff n).1 hn
    obtain ⟨j, hj, rfl, _⟩ := h.onto h0 h4
    rw [h.head_at]; exact h.lives_at _
  base := fun b h0 h4 => (h.lives_iff b).2 ⟨h0, h4⟩
  uniq := fun x y hx hy e => by
    obtain ⟨x0, x4⟩ := (h.lives_iff x).1 hx
    obtain ⟨y0, y4⟩ := (h.lives_iff y).1 hy
    rw [h.id_base x0 x4, h.id_base y0 y4] at e
    have e1 := idxI_at h.nodup (k := x.toNat) (by rw [h.li]; omega)
    have e2 := idxI_at h.nodup (k := y.toNat) (by rw [h.li]; omega)
    rw [e, e2] at e1
    omega
  used := fun n m e x hx => by
    obtain ⟨i, hi, rfl, rfl⟩ := newF_inv 4 n m e
    simp only [memAt, List.mem_cons, List.not_mem_nil, or_false] at hx
    rcases hx with rfl | rfl | rfl <;> (rw [h.mk_at]; rfl)
  skip := fun n hn => by
    obtain ⟨h0, h4⟩ := (h.lives_iff n).1 hn
    obtain ⟨j, hj, rfl, _⟩ := h.onto h0 h4
    rw [h.succ_at]
    simp only [List.filter_cons, h.lives_at, if_true, List.filter_nil]
    have s1 := h.skip (j + 1)
    have s2 := h.skip (j + 2)
    rw [show (j : Int) + 1 + 1 = j + 2 by omega] at s1
    rw [show (j : Int) + 2 + 1 = j + 3 by omega] at s2
    exact ⟨h.skip j, s1, s2, trivial⟩
end
end Go.Proofs.YtahiahjhpakeiaaGreatDoor
end
