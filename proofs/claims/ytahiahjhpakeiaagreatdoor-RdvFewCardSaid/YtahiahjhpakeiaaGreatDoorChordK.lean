
/-
  slices.Sort at []int; what Live answers: the members that live, rising.
  What Round leaves of a ring.
  slices.Clone at []int; what a member tells.
  slices.Index at api.Id; the closure of chord.New: which address has the place so many behind.
  The ring of the base members, in plain words.
-/
import Derived.Test.YtahiahjhpakeiaaGreatDoorChordE
import Derived.Test.YtahiahjhpakeiaaGreatDoorSortNI
import Derived.Test.YtahiahjhpakeiaaGreatDoorShelfChord
namespace Go.Proofs.YtahiahjhpakeiaaGreatDoor
open Go.RowKit Go.Maps Go.Sort
set_option linter.unusedVariables false
set_option linter.unusedSimpArgs false
attribute [local go_sem] later_cell later_frozen later_lt

/-- A slice of whole numbers of the call's own, as the sort wants it. -/
def OwnI (B : Nat) (w : World) (v : Value) (l : List Int) : Prop :=
  (v = .slice none 0 0 ∧ l = []) ∨ ∃ g cap, v = .slice (some ⟨g, 0, none⟩) l.length cap ∧ B ≤ g ∧ g < w.heap.size ∧ l.length ≤ cap ∧ cap ≤ maxLen ∧ Holds (Value.int .i64) w g 0 l.toArray
theorem OwnI.of_row {w : World} {B : Nat} {v : Value} {l : List Int} {n : Nat} (h : w.ownsRow B 3 1 v n (l.map (Value.int .i64))) : OwnI B w v l := by
  have hl := h.1
  simp at hl
  subst hl
  have hc := fun g hg => h.cells (g := g) hg
  rcases h.2 with ⟨rfl, h0⟩ | ⟨g, cap, cur, rfl, hB, hg, hn, hm, hs, ht⟩
  · exact Or.inl ⟨rfl, List.length_eq_zero_iff.1 h0⟩
  · refine Or.inr ⟨g, cap, rfl, hB, (Array.getElem?_eq_some_iff.1 hg).1, hn, hm, holds_of fun j hj => ⟨?_, ?_⟩⟩
    · have := hc g rfl j (.int .i64 (nth l j)) (by simp [hj, nth_eq hj])
      rw [show ((⟨g, 0, none⟩ : Addr).add j) = ⟨g, 0 + j, none⟩ from by unfold Addr.add; by_cases e : j = 0 <;> simp [e]] at this
      exact this
    · unfold World.frozen?
      rw [hg]
      rfl
theorem OwnI.slAt {w : World} {B : Nat} {v : Value} {l : List Int} (h : OwnI B w v l) : SlAt B (fun i => .int .i64 (nth l i)) l.length w v := by
  rcases h with ⟨rfl, rfl⟩ | ⟨g, cap, rfl, h1, h2, h3, h4, h5⟩
  · exact ⟨none, 0, rfl, Nat.le_refl _, Nat.zero_le _, fun _ => rfl, Or.inl rfl⟩
  · exact ⟨_, cap, rfl, h3, h4, (fun h => by cases h), Or.inr ⟨g, 0, rfl, h1, h2, fun i hi => by have := (h5 i (by simpa using hi)).1; rwa [getD_arr] at this⟩⟩
theorem sorti_any (w : World) (v : Value) (l : List Int) (B : Nat) (h : OwnI B w v l) (hl : l.length ≤ 4000000000) :
    Calls Tryz.prog 93 #[v] w fun e w' => e = .returned (.tuple #[]) ∧ OwnI B w' v (l.mergeSort fun x y => decide (x ≤ y)) ∧ Below B w w' := by
  rcases h with ⟨rfl, rfl⟩ | ⟨g, cap, rfl, h1, h2, h3, h4, h5⟩
  · refine (I64.Sort_int_nil none 0 w).mono ?_
    rintro e w' ⟨rfl, rfl⟩
    exact ⟨rfl, Or.inl ⟨rfl, by simp⟩, Below.refl _ _⟩
  · refine Calls.mono (show Calls Tryz.prog 93 #[.slice (some ⟨g, 0, none⟩) l.length cap] w _ from Any.slices_Sort_int Tryz.lays189 g 0 cap l w h5 h2 (by omega)) ?_
    rintro e w' ⟨rfl, n, os, rfl⟩
    have hh : Holds (Value.int .i64) (putRow (Value.int .i64) (Sort.ahead w n) g 0 (l.mergeSort fun x y => decide (x ≤ y)).toArray) g 0 (l.mergeSort fun x y => decide (x ≤ y)).toArray := holds_putRow _ _ _ _ l.toArray _ (holds_ahead _ _ _ _ _ _ h5) (by simp)
    refine ⟨rfl, Or.inr ⟨g, cap, by simp, h1, by simp; omega, by simpa using h3, h4, holds_grow _ _ _ _ _ _ (by simpa using h2) hh⟩, ?_⟩
    exact ((below_ahead w n).trans (below_putRow _ g 0 _ h1)).trans (below_grow _ os (by simp; omega))

theorem up_map_range (n : Nat) : Up ((List.range n).map Int.ofNat) := by
  refine List.pairwise_map.2 ?_
  exact List.pairwise_lt_range.imp (by intro a b h; simpa using h)
theorem liveL_up (f : RS) : Up (liveL f) := List.Pairwise.filter _ (up_map_range 32)
theorem sort_up {l : List Int} (h : l.Nodup) : Up (l.mergeSort fun x y => decide (x ≤ y)) := by
  have hs : (l.mergeSort fun x y => decide (x ≤ y)).Pairwise (· ≤ ·) := by
    have := List.pairwise_mergeSort (le := fun x y : Int => decide (x ≤ y)) (by intro a b c; simp; omega) (by intro a b; simp; omega) l
    exact this.imp (by intro a b h; simpa using h)
  have hn : (l.mergeSort fun x y => decide (x ≤ y)).Nodup := (List.mergeSort_perm l _).nodup_iff.2 h
  exact (List.pairwise_and_iff.2 ⟨hs, hn⟩).imp (by intro a b h; have := h.1; have := h.2; omega)
theorem sort_liveL {f : RS} (hd : Dom f) {l : List Int} (h : l.Nodup) (hm : ∀ x, x ∈ l ↔ livesR f x = true) : (l.mergeSort fun x y => decide (x ≤ y)) = liveL f :=
  up_uniq (sort_up h) (liveL_up f) fun x => by rw [List.mem_mergeSort, hm, mem_liveL hd]

theorem live_len {f : RS} (hd : Dom f) {c : List Int} (h : c.Nodup) (hm : ∀ x ∈ c, livesR f x = true) : c.length ≤ 32 := by
  have := up_sub_len (liveL_up f) (sort_up h) fun x hx => (mem_liveL hd).2 (hm x (List.mem_mergeSort.1 hx))
  rw [List.length_mergeSort] at this
  exact Nat.le_trans this (length_liveL f)
variable {S : Nat → Prop} {w : World} {rb mb : Nat} {g : Int → Nat} {f : RS}
def NewList (w : World) (l : List Int) (e : Ending) (w' : World) : Prop := ∃ v, e = .returned v ∧ SlAt w.heap.size (fun i => .int .i64 (nth l i)) l.length w' v ∧ Below w.heap.size w w'
/-- What is gathered: those that live and have come. -/
def Got (f : RS) (left : Int → Bool) (c : List Int) : Prop := c.Nodup ∧ ∀ x, x ∈ c ↔ livesR f x = true ∧ left x = false
set_option maxHeartbeats 4000000 in
set_option maxRecDepth 100000 in
theorem live_at (h : RAt S w rb mb g f) : Calls Tryz.prog 41 #[.pointer (some ⟨rb, 0, none⟩)] w (NewList w (liveL f)) := by
  obtain ⟨i0, hi, hz0, hz1, hz2⟩ : ∃ i0, Tryz.prog.info? 3 = some i0 ∧ i0.zero = some (Value.int .i64 0) ∧ i0.size = 1 ∧ i0.bytes = 8 := ⟨intI, intI_at, by kernel_rfl, by kernel_rfl, by kernel_rfl⟩
  have r0 := h.root
  have z0 := h.rbz
  have hmb := h.mbz
  have hmap := Lib.hid h.map
  have H := Lib.hid h
  clear h
  go_enter Tryz.func41, Tryz.ntmps41
  go_wp2_with (first
    | (at_range; refine wpList_range_ptr _ rfl _ 130 rfl 3 129 keyInt Tryz.underlying130 mb _ _ rfl hmap.out Tryz.underlying3 ?_; intro w0 cnt0 hrg0 hg0 hs0)
    | go_in)
  go_frame
  have hB0 : Below w.heap.size w w0 := (Below.refl _ w).grown hg0 (Nat.le_refl _) (fun k hk => by cases hk)
  go_loopw [3] (fun vo wr => ∃ (c : List Int) (left : Int → Bool) (cnt : Nat), Ranging Tryz.prog 3 wr mb w.heap.size (cntM f) (ptrM f g) left cnt ∧ wr.ownsRow (w.heap.size + 1) 3 1 vo c.length (c.map (Value.int .i64)) ∧ Below w.heap.size w wr ∧ Hid (Got f left c))
    (fun _ wr => wr.rangeLeft mb w.heap.size)
  case atStart =>
    refine ⟨[], _, _, hrg0, World.ownsRow_nil _ _ _ _, hB0, ⟨List.nodup_nil, fun x => ⟨fun hx => by simp at hx, fun hx => ?_⟩⟩⟩
    obtain ⟨hx1, hx2⟩ := hx
    obtain ⟨m, hm, _⟩ := livesR_some hx1
    simp [ptrM, hm] at hx2
  case round =>
    obtain ⟨c, left, cnt, hrg, ho, hB, hG⟩ := hrel
    have hO := Lib.hid ho
    have hRG := Lib.hid hrg
    have hle := hrg.left_eq
    clear ho hrg
    go_wp2_with (first
      | (at_next; refine wpList_next_ptr _ rfl _ rfl 3 keyInt Tryz.underlying3 mb w.heap.size _ _ _ _ rfl hRG.out ?_ ?_)
      | go_in)
    · intro _ hl0
      have hnd := hG.out.1
      have hall : ∀ x, x ∈ c ↔ livesR f x = true := fun x => by rw [hG.out.2 x, hl0 x]; simp
      have hlen := live_len H.out.dom hnd (fun x hx => (hall x).1 hx)
      have E := Lib.hid (sort_liveL H.out.dom hnd hall)
      have co := OwnI.of_row hO.out
      have cs := Lib.hid (sorti_any wr _ c _ co (by omega))
      clear co hall hnd
      go_wp2_with fail
      refine cs.out.mono ?_
      rintro e w5 ⟨rfl, o5, hB5⟩
      have O5 := Lib.hid o5
      clear o5
      go_wp2_with fail
      go_ret
      refine ⟨_, rfl, ?_, hB.trans (hB5.mono (by omega))⟩
      rw [← E.out]
      exact O5.out.slAt.base (by omega)
    · intro i b w1 cnt1 hoi hli hfi hrg1 hlt hg1 hs1 hen
      obtain ⟨m, hm, hbm⟩ : ∃ m, f i = some m ∧ g i = b := by
        unfold ptrM at hfi
        cases e : f i with
        | none => rw [e] at hfi; cases hfi
        | some m => rw [e] at hfi; exact ⟨m, rfl, by simpa using hfi⟩
      subst hbm
      have hB1 : Below w.heap.size w w1 := hB.grown hg1 hB.size (fun k hk => by cases hk; exact Nat.le_refl _)
      have c0 := ((H.out.below hB1).at hm hoi).1
      have zi := ((H.out.below hB1).at hm hoi).2.2.2.1
      have O1 := Lib.hid (hO.out.kept hg1 (by
        rcases ho : Value.ownBlock u3 with _ | k
        · exact Or.inl rfl
        · have := (hO.out.lt k ho).1
          exact Or.inr (fun e => by cases e; omega)))
      have hlf : livesR f i = m.live := by unfold livesR; rw [hm]
      have R1 := Lib.hid hrg1
      have HLT := Lib.hid hlt
      have hsz1 := hB1.size
      clear hs1
      try go_frame
      cases hml : m.live with
      | false =>
        have G2 : Hid (Got f (fun j => left j && !(j == i)) c) := show Got f (fun j => left j && !(j == i)) c from ⟨hG.out.1, fun x => by
          rw [hG.out.2 x]
          by_cases e : x = i
          · subst e; rw [hlf, hml]; simp
          · simp [e]⟩
        rw [hml] at c0
        clear hlf hml
        go_wp2_with fail
        go_roundw
        case rel => exact ⟨c, _, cnt1, R1.out, O1.out, hB1, G2⟩
        case measure => rw [R1.out.left_eq, hle]; exact HLT.out
      | true =>
        have hic : i ∉ c := fun h => by have := ((hG.out.2 i).1 h).2; rw [hli] at this; cases this
        have G2 : Hid (Got f (fun j => left j && !(j == i)) (c ++ [i])) := show Got f (fun j => left j && !(j == i)) (c ++ [i]) from ⟨by
          rw [List.nodup_append]
          exact ⟨hG.out.1, by simp, fun a ha b hb => by simp at hb; subst hb; exact fun e => hic (e ▸ ha)⟩, fun x => by
          rw [List.mem_append, hG.out.2 x]
          by_cases e : x = i
          · subst e; rw [hlf, hml]; simp
          · simp [e]⟩
        have hlen := live_len H.out.dom G2.out.1 (fun x hx => ((G2.out.2 x).1 hx).1)
        rw [List.length_append] at hlen
        simp only [List.length_cons, List.length_nil] at hlen
        rw [hml] at c0
        clear hlf hml hic
        go_wp2_with (at_builtin; refine wpList_app rfl _ _ 36 rfl (w.heap.size + 1) 3 i0 (.int .i64 0) 8 Tryz.underlying36 hi hz0 hz1 hz2 rfl _ c.length _ rfl (O1.out.alloc _) 0 _ 1 _ rfl (sl_new _ .i64 [i] 3 _ 1 rfl rfl (by simp [maxLen])) (fun _ => rfl) ?qc1 ?qc2 ?qc3 ?_)
        case qc1 => simp only [maxLen]; omega
        case qc2 => omega
        case qc3 => simp; omega
        intro v' w3 ho3 hg3
        have hlt3 : ∀ k, Value.ownBlock u3 = some k → w.heap.size + 1 ≤ k := fun k hk => (O1.out.lt k hk).1
        have R3 := Lib.hid ((R1.out.kept (World.grownBy_alloc w1 _ none) (by simp) (by simp)).kept hg3 (fun e => by have := hlt3 mb e.symm; omega) (fun e => by have := hlt3 _ e.symm; omega))
        have hB3 : Below w.heap.size w w3 := (hB1.alloc hsz1 _).grown hg3 (by simp; omega) (fun k hk => by have := hlt3 k hk; omega)
        have HO3 := Lib.hid ho3
        clear ho3
        go_wp2_with fail
        go_roundw
        case rel =>
          refine ⟨c ++ [i], _, cnt1, R3.out, ?_, hB3, G2⟩
          have := HO3.out
          simpa [nth] using this
        case measure => rw [R3.out.left_eq, hle]; exact HLT.out
end Go.Proofs.YtahiahjhpakeiaaGreatDoor
namespace Go.Proofs.YtahiahjhpakeiaaGreatDoor
open Go.RowKit Go.Maps Go.Sort
set_option linter.unusedVariables false
set_option linter.unusedSimpArgs false
attribute [local go_sem] later_cell later_frozen later_lt

theorem lives_stabT {f : RS} (hh : Heads f) {n : Int} (hn : livesR f n = true) : livesR f (stabT f n) = true := by
  unfold stabT
  split
  · rename_i h
    unfold nearR at h
    rw [Bool.and_eq_true, Bool.and_eq_true] at h
    exact h.1.2
  · exact hh n hn
theorem succR_stab {f : RS} (n j : Int) : succR (stabR f n) j = if j = n then followL (stabT f n) (succR f (stabT f n)) else succR f j := by
  unfold stabR
  rw [succR_set]
  have e : ∀ j, succR (stab1 f n) j = if j = n then followL (stabT f n) (succR f (stabT f n)) else succR f j := fun j => by unfold stab1; rw [succR_set]
  split
  · rename_i h; rw [h, e]
  · rw [e]
theorem heads_stab {f : RS} (hh : Heads f) {n : Int} (hn : livesR f n = true) : Heads (stabR f n) := fun j hj => by
  rw [livesR_stab] at hj ⊢
  unfold headR
  rw [headL_congr (livesR_stab f n), succR_stab]
  split
  · have := lives_stabT hh hn
    unfold followL
    simp only [List.take_succ_cons, headL, this, if_true]
  · exact hh j hj
/-- Some look, one behind the other. -/
def looksR (f : RS) (l : List Int) : RS := l.foldl stabR f
theorem looks_snoc (f : RS) (l : List Int) (n : Int) : looksR f (l ++ [n]) = stabR (looksR f l) n := by unfold looksR; rw [List.foldl_append]; rfl
theorem lives_looks (f : RS) (l : List Int) (j : Int) : livesR (looksR f l) j = livesR f j := by
  induction l generalizing f with
  | nil => rfl
  | cons n l ih => show livesR (looksR (stabR f n) l) j = _; rw [ih, livesR_stab]
theorem id_looks (f : RS) (l : List Int) (j : Int) : idR (looksR f l) j = idR f j := by
  induction l generalizing f with
  | nil => rfl
  | cons n l ih => show idR (looksR (stabR f n) l) j = _; rw [ih, idR_stab]
theorem heads_looks {f : RS} (hh : Heads f) {l : List Int} (hl : ∀ x ∈ l, livesR f x = true) : Heads (looksR f l) := by
  induction l generalizing f with
  | nil => exact hh
  | cons n l ih =>
    show Heads (looksR (stabR f n) l)
    exact ih (heads_stab hh (hl n (by simp))) fun x hx => by rw [livesR_stab]; exact hl x (List.mem_cons_of_mem _ hx)
theorem roundR_eq (f : RS) : roundR f = looksR f (liveL f) := rfl

variable {S : Nat → Prop} {w w' : World} {rb mb : Nat} {g : Int → Nat} {f : RS}
/-- The ring's blocks of now, and what is new from now on. -/
abbrev Now (S : Nat → Prop) (w w1 : World) (b : Nat) : Prop := (S b ∧ b < w.heap.size) ∨ w1.heap.size ≤ b
theorem RingIs.now (h : RAt S w rb mb g f) (hb : Below w.heap.size w w') : RAt (Now S w w') w' rb mb g f :=
  h.same hb.size (fun b hb' _ => hb.block b hb') (fun b hb' hS => Or.inl ⟨hS, hb'⟩) fun b hb' => Or.inr hb'
theorem RingIs.back {w2 : World} (h : RAt (Now S w w') w2 rb mb g f) (hu : ∀ b, w.heap.size ≤ b → S b) (h1 : w.heap.size ≤ w'.heap.size) (h2 : w'.heap.size ≤ w2.heap.size) : RAt S w2 rb mb g f :=
  h.same (Nat.le_refl _) (fun _ _ _ => rfl) (fun b _ hS => by
    rcases hS with ⟨hS, _⟩ | hS
    · exact hS
    · exact hu b (by omega)) fun b hb' => hu b (by omega)
theorem Kept.back {w1 w2 : World} (hb : Below w.heap.size w w1) (h : Kept (Now S w w1) w1 w2) : Kept S w w2 :=
  ((Kept.refl S w).below hb).trans ⟨h.os, h.tape, h.output, h.size, fun b hb' hS => h.block b hb' fun hN => by
    rcases hN with ⟨hN, _⟩ | hN
    · exact hS hN
    · omega⟩

def RoundPost (S : Nat → Prop) (w : World) (rb mb : Nat) (g : Int → Nat) (f : RS) (e : Ending) (w' : World) : Prop := e = .returned (.tuple #[]) ∧ RAt S w' rb mb g (roundR f) ∧ Kept S w w'
set_option maxRecDepth 100000 in
theorem round_at (h : RAt S w rb mb g f) (hh : Heads f) : Calls Tryz.prog 36 #[.pointer (some ⟨rb, 0, none⟩)] w (RoundPost S w rb mb g f) := by
  have cl := Lib.hid (live_at h)
  have H := Lib.hid h
  have HH := Lib.hid hh
  have hlen := length_liveL f
  have hmem := Lib.hid (fun x (hx : x ∈ liveL f) => (mem_liveL h.dom).1 hx)
  have HP : Hid (∀ w', RAt S w' rb mb g (looksR f (liveL f)) → Kept S w w' → RoundPost S w rb mb g f (.returned (.tuple #[])) w') := fun w' h1 h2 => ⟨rfl, h1, h2⟩
  obtain ⟨L, hL⟩ : ∃ L, L = liveL f := ⟨_, rfl⟩
  rw [← hL] at cl hlen hmem HP
  clear h hh hL
  go_enter Tryz.func36, Tryz.ntmps36
  go_wp2_with fail
  refine cl.out.mono ?_
  rintro e w1 ⟨v, rfl, hs, hB⟩
  obtain ⟨a, q, rfl, _⟩ := hs.slice
  have HS := Lib.hid hs
  have HN := Lib.hid (H.out.now hB)
  have HB := Lib.hid hB
  clear hs hB
  go_wp2_with fail
  go_loopw [3, 7] (fun _ i wr => ∃ k : Nat, k ≤ L.length ∧ i = .int .i64 k ∧ Hid (RAt (Now S w w1) wr rb mb g (looksR f (L.take k))) ∧ Hid (Kept (Now S w w1) w1 wr)) (fun _ i _ => L.length - (intOf i).toNat)
  case atStart => exact ⟨0, Nat.zero_le _, rfl, HN.out, Kept.refl _ _⟩
  case round =>
    obtain ⟨k, hk, rfl, hR, hK⟩ := hrel
    by_cases hlt : k < L.length
    · have hck : ∃ b off : Nat, a = some ⟨b, off, none⟩ ∧ b < wr.heap.size ∧ wr.cell? ⟨b, off + k, none⟩ = some (.int .i64 (nth L k)) := by
        obtain ⟨b, off, e, hb0, hb1, hc⟩ := HS.out.at k hlt w1 (Below.refl _ _)
        refine ⟨b, off, e, Nat.lt_of_lt_of_le hb1 hK.out.size, ?_⟩
        rw [← hc]
        exact World.cell?_of_block (hK.out.block b hb1 fun hN => by rcases hN with ⟨_, h⟩ | h <;> omega)
      obtain ⟨b, off, rfl, hb, hc⟩ := hck
      have hin : nth L k ∈ L := nth_mem.2 ⟨k, hlt, rfl⟩
      have hlf := hmem.out _ hin
      have hdm := livesR_dom H.out.dom hlf
      have hhk : Heads (looksR f (L.take k)) := heads_looks HH.out fun x hx => hmem.out x (List.mem_of_mem_take hx)
      have cs := stab_at hR.out (nth L k) (okInt_dom (by omega) (by omega)) hhk
      have CS := Lib.hid cs
      have hlv : Hid (livesR (looksR f (L.take k)) (nth L k) = true) := show livesR (looksR f (L.take k)) (nth L k) = true by rw [lives_looks]; exact hlf
      have hsn : Hid (looksR f (L.take (k + 1)) = stabR (looksR f (L.take k)) (nth L k)) := show _ = _ by rw [List.take_succ_eq_append_getElem hlt, looks_snoc, nth_eq hlt]
      clear cs hhk hdm hlf hin
      go_wp2_with fail
      refine CS.out.mono ?_
      intro e w2 hp
      unfold StabPost at hp
      rw [if_pos hlv.out] at hp
      obtain ⟨rfl, hR2, hK2⟩ := hp
      have R2 := Lib.hid hR2
      have K2 := Lib.hid (hK.out.trans hK2)
      clear hR2 hK2
      go_wp2_with fail
      go_roundw
      case rel => go_light; exact ⟨k + 1, by omega, by go_num, by show RAt _ _ _ _ _ _; rw [hsn.out]; exact R2.out, K2.out⟩
      case measure => go_light; simp [intOf]; omega
    · obtain rfl : k = L.length := by omega
      go_wp2_with fail
      go_end0
      refine HP.out _ ?_ (Kept.back HB.out hK.out)
      have := hR.out
      rw [List.take_length] at this
      exact this.back H.out.up HB.out.size hK.out.size
end Go.Proofs.YtahiahjhpakeiaaGreatDoor
namespace Go.Proofs.YtahiahjhpakeiaaGreatDoor
open Go.RowKit Go.Maps Go.Sort
set_option linter.unusedVariables false
set_option linter.unusedSimpArgs false
attribute [local go_sem] later_cell later_frozen later_lt cell_set_off cell_set_block

theorem clonei_any (w : World) (v : Value) (l : List Int) (h : SlAt 0 (fun i => .int .i64 (nth l i)) l.length w v) (hl : l.length ≤ 4000000000) :
    Calls Tryz.prog 73 #[v] w fun e w' => ∃ v', e = .returned v' ∧ w'.ownsRow w.heap.size 3 1 v' l.length (l.map (Value.int .i64)) ∧ Below w.heap.size w w' := by
  obtain ⟨i0, hi, hz0, hz1, hz2⟩ : ∃ i0, Tryz.prog.info? 3 = some i0 ∧ i0.zero = some (Value.int .i64 0) ∧ i0.size = 1 ∧ i0.bytes = 8 := ⟨intI, intI_at, by kernel_rfl, by kernel_rfl, by kernel_rfl⟩
  have hm := map_range_nth .i64 l
  have hA := Lib.hid h
  obtain ⟨a, cap, rfl, h1, h2, h6, h3⟩ := h
  have q22 : ∀ (w : World) (a : Option Addr) (n c n' c' : Nat), (binOp .eql 36 (.slice a n c) (.slice none n' c')).run Tryz.prog w = .ok (.bool a.isNone) w := fun w a n c n' c' => Lib.run_eql_slice_nil w _ _ a n c n' c' Tryz.underlying36
  clear h3
  cases a with
  | none =>
    have hc0 := h6 rfl
    have hl0 : l = [] := List.length_eq_zero_iff.1 (by omega)
    subst hl0
    clear hA h6 h1 h2 hl hm
    go_enter Tryz.func73, Tryz.ntmps73
    go_wp2
    go_ret
    exact ⟨_, rfl, ⟨rfl, Or.inl ⟨rfl, rfl⟩⟩, Below.refl _ _⟩
  | some a =>
    clear h6
    go_enter Tryz.func73, Tryz.ntmps73
    go_wp2_with (at_builtin; refine wpList_app rfl _ _ 36 rfl w.heap.size 3 i0 (.int .i64 0) 8 Tryz.underlying36 hi hz0 hz1 hz2 rfl _ 0 [] rfl (World.ownsRow_made w #[] 0 (Nat.le_refl _) (Nat.zero_le _) (by simp)) 0 _ _ _ rfl (hA.out.below (bel_alloc (Below.refl _ _) _)) (fun _ => rfl) ?qc1 ?qc2 ?qc3 ?_)
    case qc1 => simp [maxLen]; omega
    case qc2 => omega
    case qc3 => simp
    intro v' w1 ho hg
    go_wp2
    go_ret
    refine ⟨_, rfl, ?_, ((Below.refl _ w).alloc (Nat.le_refl _) _).grown hg (by simp) (by intro k hk; simp [Value.ownBlock] at hk; omega)⟩
    simpa [hm] using ho

variable {S : Nat → Prop} {w : World} {rb mb : Nat} {g : Int → Nat} {f : RS}
def TellPost (w : World) (f : RS) (n : Int) (e : Ending) (w' : World) : Prop :=
  if livesR f n = true then ∃ v, e = .returned (.tuple #[.agg #[.int .u64 (idR f n), .int .i64 (predR f n), v], .nilIface]) ∧ SlAt w.heap.size (fun i => .int .i64 (nth (succR f n) i)) (succR f n).length w' v ∧ Below w.heap.size w w'
  else ∃ v, e = .returned (.tuple #[.agg #[.int .u64 0, .int .i64 0, .slice none 0 0], v]) ∧ IsErr w.heap.size w' v 6 ∧ Below w.heap.size w w'
end Go.Proofs.YtahiahjhpakeiaaGreatDoor
namespace Go.Proofs.YtahiahjhpakeiaaGreatDoor
open Go.RowKit Go.Maps Go.Sort
set_option linter.unusedVariables false
set_option linter.unusedSimpArgs false
attribute [local go_sem] later_cell later_frozen later_lt

/-- Where a place is in a list; -1: it isn't. -/
def idxI (l : List Int) (x : Int) : Int := Lib.idxBy (fun x y => x == y) l x
theorem getL (l : List Int) (j : Nat) : l[j]! = nth l j := by
  unfold nth
  by_cases h : j < l.length
  · rw [getElem!_pos _ j h]; simp [h]
  · rw [getElem!_neg _ j h]; simp [h]
theorem index_any (w : World) (v : Value) (l : List Int) (h : SlAt 0 (fun i => .int .u64 (nth l i)) l.length w v) (hl : l.length ≤ 4000000000) (x : Int) :
    Calls Tryz.prog 90 #[v, .int .u64 x] w fun e w' => e = .returned (.int .i64 (idxI l x)) ∧ w = w' := by
  rcases h.parts with ⟨h0, a, cap, rfl, _⟩ | ⟨h0, b, off, cap, rfl, h1, h2, _, _, hc⟩
  · have e : idxI l x = -1 := by rw [List.length_eq_zero_iff.1 h0]; rfl
    rw [e]
    exact (AnyE.slices_Index_empty Tryz.indexU a cap (.int .u64 x) w).mono fun e w' h => ⟨h.1, h.2.symm⟩
  · have := AnyE.slices_Index Tryz.indexU (Value.int .u64) (fun x y => x == y) (EqlAt.int _ _ .u64) b off l.length cap l x w (Nat.le_refl _) (by omega) (fun j hj => by rw [getL]; exact hc j hj)
    rw [List.take_length] at this
    exact Calls.mono this fun e w' h => ⟨h.1, h.2.symm⟩
theorem idxI_at {l : List Int} (hn : l.Nodup) {k : Nat} (hk : k < l.length) : idxI l (nth l k) = k := by
  have := Lib.idxByFrom_hit (fun x y : Int => x == y) (nth l k) l k 0 hk (by rw [getL]; simp) (fun j hj => by
    rw [getL]
    simp only [beq_eq_false_iff_ne, ne_eq]
    rw [nth_eq hk, nth_eq (by omega)]
    intro e
    have := (List.getElem_inj hn).1 e
    omega)
  unfold idxI Lib.idxBy
  rw [this]
  simp
/-- The address of the place i behind the first, round the circle of four. -/
def atI (ids s : List Int) (i : Int) : Int := idxI ids (nth s ((i + 4) % 4).toNat)
theorem at_any (w : World) (b1 b2 : Nat) (ids s : List Int) (v1 v2 : Value) (h1 : w.cell? ⟨b1, 0, none⟩ = some v1) (h2 : w.cell? ⟨b2, 0, none⟩ = some v2) (z1 : b1 < w.heap.size) (z2 : b2 < w.heap.size)
    (hi : SlAt 0 (fun i => .int .u64 (nth ids i)) ids.length w v1) (hs : SlAt 0 (fun i => .int .u64 (nth s i)) s.length w v2) (hi4 : ids.length = 4) (hs4 : s.length = 4) (i : Int) (h0 : -1 ≤ i) (h10 : i ≤ 10) :
    Calls Tryz.prog 89 #[.int .i64 i, .pointer (some ⟨b1, 0, none⟩), .pointer (some ⟨b2, 0, none⟩)] w fun e w' => e = .returned (.int .i64 (atI ids s i)) ∧ Below w.heap.size w w' := by
  obtain ⟨j, hj, hj4⟩ : ∃ j : Nat, (i + 4) % 4 = (j : Int) ∧ j < 4 := ⟨((i + 4) % 4).toNat, by omega, by omega⟩
  have ht : (i + 4).tmod 4 = (j : Int) := by rw [Int.tmod_eq_emod_of_nonneg (by omega)]; exact hj
  have hE : atI ids s i = idxI ids (nth s j) := by unfold atI; rw [hj]; rfl
  rw [hE]
  clear hE hj
  have ci := Lib.hid (fun wr (hb : Below w.heap.size w wr) => index_any wr v1 ids (hi.below hb) (by omega) (nth s j))
  obtain ⟨a2, c2, rfl, _⟩ := hs.slice
  obtain ⟨b, off, rfl, _, hb, hc⟩ := hs.at j (by omega) w (Below.refl _ _)
  obtain ⟨a1, c1, rfl, _⟩ := hi.slice
  rw [hs4] at h2
  rw [hi4] at h1 ci
  clear hi hs
  go_enter Tryz.func89, Tryz.ntmps89
  go_wp2_with fail
  refine wp_region_calm (by kernel_rfl) (by kernel_rfl) ?_
  repeat (first | (go_big_quiet_step ((go_at_call 90; exact calls_calm_same (ci.out _ (by (repeat (first | exact Below.refl _ _ | (with_reducible assumption) | (with_reducible refine bel_later ?_ _) | (with_reducible refine bel_alloc ?_ _) | (with_reducible refine bel_drew ?_) | (with_reducible refine bel_drewN ?_ _) | (with_reducible refine bel_set ?_ (by first | (simp; done) | (simp; omega) | (dsimp only; omega)) _)))))))) | (refine wpQuiet_step (fun K hK => ?_); go_simp; first | (refine hK _ ?_; clear hK K) | (apply Exists.intro; refine ⟨fun _ => ?_, hK _ ?_⟩; (go_at_call 90; exact calls_calm_same (ci.out _ (by (repeat (first | exact Below.refl _ _ | (with_reducible assumption) | (with_reducible refine bel_later ?_ _) | (with_reducible refine bel_alloc ?_ _) | (with_reducible refine bel_drew ?_) | (with_reducible refine bel_drewN ?_ _) | (with_reducible refine bel_set ?_ (by first | (simp; done) | (simp; omega) | (dsimp only; omega)) _)))))); clear hK K)))
  refine wpQuiet_nil ?_
  intro _ hw'
  obtain ⟨xq, hw''⟩ := hw'
  subst hw''
  go_wp2_with fail
  go_ret
  exact ⟨rfl, by (repeat (first | exact Below.refl _ _ | (with_reducible assumption) | (with_reducible refine bel_later ?_ _) | (with_reducible refine bel_alloc ?_ _) | (with_reducible refine bel_drew ?_) | (with_reducible refine bel_drewN ?_ _) | (with_reducible refine bel_set ?_ (by first | (simp; done) | (simp; omega) | (dsimp only; omega)) _)))⟩
end Go.Proofs.YtahiahjhpakeiaaGreatDoor
namespace Go.Proofs.YtahiahjhpakeiaaGreatDoor
open Go.RowKit Go.Maps Go.Sort
set_option linter.unusedVariables false
set_option linter.unusedSimpArgs false

/-- What the base member of the i-th place knows. -/
def memAt (ids s : List Int) (i : Nat) : Mem := ⟨true, nth s i, atI ids s (i - 1), [atI ids s (i + 1), atI ids s (i + 2), atI ids s (i + 3)]⟩
def newF (ids s : List Int) : Nat → RS
  | 0 => fun _ => none
  | k + 1 => setM (newF ids s k) (atI ids s k) (memAt ids s k)
/-- Four places, sorted. -/
structure Four (ids s : List Int) : Prop where
  li : ids.length = 4
  ls : s.length = 4
  nodup : ids.Nodup
  up : Up s
  mem : ∀ x, x ∈ s ↔ x ∈ ids
  place : ∀ x ∈ ids, isPlace x
theorem Four.pos {ids s : List Int} (h : Four ids s) {j : Nat} (hj : j < 4) : ∃ k : Nat, k < 4 ∧ nth ids k = nth s j ∧ idxI ids (nth s j) = k := by
  have h1 : nth s j ∈ ids := (h.mem _).1 (nth_mem.2 ⟨j, by rw [h.ls]; exact hj, rfl⟩)
  obtain ⟨k, hk, e⟩ := nth_mem.1 h1
  exact ⟨k, by rw [← h.li]; exact hk, e, by rw [← e]; exact idxI_at h.nodup hk⟩
theorem Four.at {ids s : List Int} (h : Four ids s) (i : Int) : 0 ≤ atI ids s i ∧ atI ids s i < 4 := by
  obtain ⟨k, hk, _, e⟩ := h.pos (j := ((i + 4) % 4).toNat) (by omega)
  unfold atI
  rw [e]; omega
theorem Four.inj {ids s : List Int} (h : Four ids s) {i j : Nat} (hi : i < 4) (hj : j < 4) (e : atI ids s i = atI ids s j) : i = j := by
  have ei : (((i : Int) + 4) % 4).toNat = i := by omega
  have ej : (((j : Int) + 4) % 4).toNat = j := by omega
  unfold atI at e
  rw [ei, ej] at e
  obtain ⟨k, _, e1, e2⟩ := h.pos hi
  obtain ⟨k', _, e3, e4⟩ := h.pos hj
  rw [e2, e4] at e
  have : k = k' := by omega
  subst this
  rw [e1] at e3
  rcases Nat.lt_trichotomy i j with h1 | h1 | h1
  · have := up_nth h.up h1 (by rw [h.ls]; exact hj); omega
  · exact h1
  · have := up_nth h.up h1 (by rw [h.ls]; exact hi); omega
theorem newF_old {ids s : List Int} (h : Four ids s) : ∀ (k : Nat), k ≤ 4 → ∀ j, k ≤ j → j < 4 → newF ids s k (atI ids s j) = none
  | 0, _, _, _, _ => rfl
  | k + 1, hk, j, hj, hj4 => by
    show setM _ _ _ _ = none
    rw [setM_ne _ _ (fun e => by have := h.inj (i := j) (j := k) hj4 (by omega) e; omega)]
    exact newF_old h k (by omega) j (by omega) hj4
theorem newF_dom {ids s : List Int} (h : Four ids s) : ∀ k, k ≤ 4 → Dom (newF ids s k)
  | 0, _ => fun n m e => by cases e
  | k + 1, hk => fun n m e => by
    have hd := newF_dom h k (by omega)
    by_cases en : n = atI ids s k
    · subst en
      have e' : some (memAt ids s k) = some m := by rw [← e]; exact (setM_same _ _ _).symm
      cases e'
      have a0 := h.at k
      have a1 := h.at (k + 1)
      have a2 := h.at (k + 2)
      have a3 := h.at (k + 3)
      have a4 := h.at (k - 1)
      refine ⟨a0.1, by omega, ?_, by simp [memAt], ⟨by show -1 ≤ atI ids s (k - 1); omega, by show atI ids s (k - 1) < 32; omega⟩, fun x hx => ?_⟩
      · obtain ⟨k', hk', e1, _⟩ := h.pos (j := k) (by omega)
        show isPlace (nth s k)
        rw [← e1]
        exact h.place _ (nth_mem.2 ⟨k', by rw [h.li]; exact hk', rfl⟩)
      · simp only [memAt, List.mem_cons, List.not_mem_nil, or_false] at hx
        rcases hx with rfl | rfl | rfl <;> omega
    · have e' : newF ids s k n = some m := by rw [← e]; exact (setM_ne _ _ en).symm
      exact hd n m e'
end Go.Proofs.YtahiahjhpakeiaaGreatDoor
