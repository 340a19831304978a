
/-
  ChordStays: base members never go, and who went never comes again.
-/
import Derived.Test.YthbijjpaljjapaaChordW
import Derived.Test.YthbijjpaljjapaaAppRow
namespace Go.Proofs.Ythbijjpaljjapaa
open Go.RowKit Go.Maps Go.Sort Go.WideShapes Go.ChangeShapes Go.Deep
set_option linter.unusedVariables false
set_option linter.unusedSimpArgs false
attribute [local go_sem] later_cell later_frozen later_lt cell_set_off cell_set_block

/-! ### How many live; who went -/
theorem liveL_length (f : RS) : (liveL f).length = ((List.range 32).map Int.ofNat).countP (livesR f) := by unfold liveL; rw [List.countP_eq_length_filter]
theorem range32_nodup : ((List.range 32).map Int.ofNat).Nodup := by decide
theorem range32_mem {n : Int} (h0 : 0 ≤ n) (h1 : n < 32) : n ∈ (List.range 32).map Int.ofNat := List.mem_map.2 ⟨n.toNat, List.mem_range.2 (by omega), by simp; omega⟩
theorem liveL_join {f : RS} (I : Inv f) {n id via : Int} (hid : isPlace id) (hc : joinC f n id via = 0) : (liveL (joinR f n id via)).length = (liveL f).length + 1 := by
  obtain ⟨h0, h1, hn, _, _, z, _, _, _, e⟩ := (joinC_cases I hid).2 hc
  rw [e, liveL_length, liveL_length]
  refine countP_one (n := n) (by rw [livesR_set, if_pos rfl]) (by unfold livesR; rw [hn]) (fun x hx => by rw [livesR_set, if_neg hx]) range32_nodup (range32_mem h0 h1)
theorem liveL_fail {f : RS} (I : Inv f) {n : Int} (hc : failC f n = 0) : (liveL f).length = (liveL (failR f n)).length + 1 := by
  rcases failC_cases I n with ⟨_, e, hn, _, _⟩ | ⟨h, _⟩
  · have hd := livesR_dom I.dom hn
    rw [e, liveL_length, liveL_length]
    exact countP_one (n := n) hn (by rw [lives_dies, if_pos rfl]) (fun x hx => by rw [lives_dies, if_neg hx]) range32_nodup (range32_mem hd.1 hd.2)
  · exact absurd hc h
theorem failR_not {f : RS} {n : Int} (h : failC f n ≠ 0) : failR f n = f := by unfold failR; rw [if_neg h]
theorem liveL_stabE (f : RS) (n : Int) : liveL (stabE f n) = liveL f := liveL_congr (lives_stabE f n)
theorem liveL_roundR (f : RS) : liveL (roundR f) = liveL f := liveL_congr fun j => by rw [roundR_eq, lives_looks]
/-- Those who went. -/
def Gone (f : RS) (l : List Int) : Prop := ∀ k ∈ l, 0 ≤ k ∧ k < 32 ∧ (f k).isSome = true ∧ livesR f k = false
theorem gone_join {f : RS} (I : Inv f) {l : List Int} (h : Gone f l) {n id via : Int} (hid : isPlace id) : Gone (joinR f n id via) l := fun k hk => by
  obtain ⟨h0, h1, h2, h3⟩ := h k hk
  by_cases hc : joinC f n id via = 0
  · obtain ⟨_, _, hn, _, _, z, _, _, _, e⟩ := (joinC_cases I hid).2 hc
    have hkn : k ≠ n := by rintro rfl; rw [hn] at h2; cases h2
    rw [e, isSome_set, livesR_set, if_neg hkn, if_neg hkn]
    exact ⟨h0, h1, h2, h3⟩
  · rw [joinR_not hc]; exact h k hk
theorem gone_fail {f : RS} (I : Inv f) {l : List Int} (h : Gone f l) (n : Int) : Gone (failR f n) l ∧ (failC f n = 0 → Gone (failR f n) (l ++ [n])) := by
  rcases failC_cases I n with ⟨hc, e, hn, _, _⟩ | ⟨hc, e⟩
  · have h1 : Gone (failR f n) l := fun k hk => by
      obtain ⟨h0, h1, h2, h3⟩ := h k hk
      rw [e, lives_dies]
      refine ⟨h0, h1, ?_, by split <;> first | rfl | exact h3⟩
      unfold diesR
      rw [isSome_set]
      split <;> first | rfl | exact h2
    refine ⟨h1, fun _ k hk => ?_⟩
    rcases List.mem_append.1 hk with hk | hk
    · exact h1 k hk
    · simp at hk
      subst hk
      have hd := livesR_dom I.dom hn
      rw [e, lives_dies, if_pos rfl]
      exact ⟨hd.1, hd.2, by unfold diesR; rw [isSome_set, if_pos rfl], rfl⟩
  · rw [e]; exact ⟨h, fun h0 => absurd h0 hc⟩
theorem isSome_stabE {f : RS} (n j : Int) (h : (f j).isSome = true) : (stabE f n j).isSome = true := by
  unfold stabE; split
  · exact isSome_stab f n h
  · exact h
theorem gone_stab {f : RS} {l : List Int} (h : Gone f l) (n : Int) : Gone (stabE f n) l := fun k hk => by
  obtain ⟨h0, h1, h2, h3⟩ := h k hk
  exact ⟨h0, h1, isSome_stabE n k h2, by rw [lives_stabE]; exact h3⟩
theorem gone_round {f : RS} (I : Inv f) {l : List Int} (h : Gone f l) : Gone (roundR f) l := fun k hk => by
  obtain ⟨h0, h1, h2, h3⟩ := h k hk
  exact ⟨h0, h1, by rw [isSome_round I]; exact h2, by rw [lives_roundR]; exact h3⟩
theorem gone_used {f : RS} {l : List Int} (h : Gone f l) {k : Int} (hk : k ∈ l) : joinC f k 1 0 = 7 := by
  obtain ⟨h0, h1, h2, _⟩ := h k hk
  unfold joinC
  rw [if_neg (by omega), if_pos h2]
theorem fail_base {f : RS} (I : Inv f) {n : Int} (h0 : 0 ≤ n) (h4 : n < 4) : failC f n = 5 := by
  unfold failC
  rw [if_neg (by simp [I.base n h0 h4]), if_pos h4]

/-! ### A list of the call's own beside a ring that turns -/
/-- A ring whose blocks are some of the call's own, and a list whose row is none of them. -/
structure Beside (W wr : World) (rb mb : Nat) (f : RS) (gv : Value) (gone : List Int) : Prop where
  inv : Inv f
  went : Gone f gone
  below : RowKit.Below W.heap.size W wr
  own : wr.ownsRow W.heap.size 3 1 gv gone.length (gone.map (Value.int .i64))
  ring : ∃ S g, RAt S wr rb mb g f ∧ (∀ b, S b → W.heap.size ≤ b) ∧ ∀ q, gv.ownBlock = some q → ¬ S q
theorem Beside.later {W wr w' : World} {rb mb : Nat} {f : RS} {gv : Value} {gone : List Int} (h : Beside W wr rb mb f gv gone) (hb : RowKit.Below wr.heap.size wr w') : Beside W w' rb mb f gv gone := by
  obtain ⟨S, g, h1, h2, h3⟩ := h.ring
  exact ⟨h.inv, h.went, h.below.trans (hb.mono h.below.size), owns_below h.own hb, S, g, h1.below hb, h2, h3⟩
theorem kept_of_sub {S : Nat → Prop} {W a b : World} (hS : ∀ c, S c → W.heap.size ≤ c) (h : RowKit.Below W.heap.size W a) (k : Kept S a b) : RowKit.Below W.heap.size W b :=
  h.trans (k.toBelow h.size (fun c hc hs => by have := hS c hs; omega))
/-- A call on the ring leaves the list. -/
theorem Beside.step {W wr w' : World} {rb mb : Nat} {f f' : RS} {gv : Value} {gone : List Int} {S : Nat → Prop} (h : Beside W wr rb mb f gv gone) (hS : ∀ b, S b → W.heap.size ≤ b) (hq : ∀ q, gv.ownBlock = some q → ¬ S q)
    (I : Inv f') (hg : Gone f' gone) (hr : ∃ g, RAt S w' rb mb g f') (hk : Kept S wr w') : Beside W w' rb mb f' gv gone := by
  obtain ⟨g, hr⟩ := hr
  refine ⟨I, hg, kept_of_sub hS h.below hk, ?_, S, g, hr, hS, hq⟩
  refine ⟨h.own.1, h.own.2.imp id ?_⟩
  rintro ⟨b, cap, cur, e1, h1, h2, h3⟩
  subst e1
  exact ⟨b, cap, cur, rfl, h1, (hk.block b (Array.getElem?_eq_some_iff.1 h2).1 (hq b rfl)).trans h2, h3⟩
/-- The list grows. -/
theorem Beside.grow {W wr w' : World} {rb mb : Nat} {f : RS} {gv gv' : Value} {gone : List Int} {x : Int} (h : Beside W wr rb mb f gv gone) (hg : Gone f (gone ++ [x]))
    (ho : w'.ownsRow W.heap.size 3 1 gv' (gone.length + 1) ((gone ++ [x]).map (Value.int .i64))) {wm : World} (hm : RowKit.Below wr.heap.size wr wm) (hgr : wm.grownBy w' gv.ownBlock)
    (hrow : ∀ q, gv'.ownBlock = some q → gv.ownBlock = some q ∨ wm.heap.size ≤ q) : Beside W w' rb mb f gv' (gone ++ [x]) := by
  obtain ⟨S, g, h1, h2, h3⟩ := h.ring
  have hz := hm.size
  refine ⟨h.inv, hg, (h.below.trans (hm.mono h.below.size)).grown hgr (by have := h.below.size; omega) (fun q hq => (h.own.lt q hq).1), by simpa using ho,
    fun b => (S b ∧ b < wr.heap.size) ∨ w'.heap.size ≤ b, g, ?_, fun b hb => ?_, fun q hq hS => ?_⟩
  · refine h1.same (by have := hgr.size; omega) (fun b hb hS => ?_) (fun b hb hS => Or.inl ⟨hS, hb⟩) (fun b hb => Or.inr hb)
    rw [hgr.block b (by omega) (fun e => h3 b e.symm hS)]
    exact hm.block b hb
  · rcases hb with ⟨hb, _⟩ | hb
    · exact h2 b hb
    · have := hgr.size; have := h.below.size; omega
  · have hlt := (ho.lt q hq).2
    rcases hS with ⟨hS, hb⟩ | hb
    · rcases hrow q hq with e | e
      · exact h3 q e hS
      · omega
    · omega

theorem Beside.callLive {W wr : World} {rb mb : Nat} {f : RS} {gv : Value} {gone : List Int} (h : Beside W wr rb mb f gv gone) : Calls Try.prog 15 #[.pointer (some ⟨rb, 0, none⟩)] wr (NewList wr (liveL f)) := by
  obtain ⟨S, g, h1, _⟩ := h.ring
  exact live_at h1
theorem Beside.callLives {W wr : World} {rb mb : Nat} {f : RS} {gv : Value} {gone : List Int} (h : Beside W wr rb mb f gv gone) (n : Int) (hn : okInt n) :
    Calls Try.prog 17 #[.pointer (some ⟨rb, 0, none⟩), .int .i64 n] wr fun e w' => e = .returned (.bool (livesR f n)) ∧ wr = w' := by
  obtain ⟨S, g, h1, _⟩ := h.ring
  exact lives_at h1 n hn
/-- A call on the ring, the list beside it. -/
def BesidePost (W wr : World) (rb mb : Nat) (f' : RS) (gv : Value) (gone : List Int) (c : Int) (e : Ending) (w' : World) : Prop := ∃ v, e = .returned v ∧ CodeIs wr.heap.size w' v c ∧ Beside W w' rb mb f' gv gone
theorem Beside.callJoin {W wr : World} {rb mb : Nat} {f : RS} {gv : Value} {gone : List Int} (h : Beside W wr rb mb f gv gone) (n id via : Int) (hn : okInt n) (hv : okInt via) (hid : isPlace id) :
    Calls Try.prog 13 #[.pointer (some ⟨rb, 0, none⟩), .int .i64 n, .int .u64 id, .int .i64 via] wr (BesidePost W wr rb mb (joinR f n id via) gv gone (joinC f n id via)) := by
  obtain ⟨S, g, h1, h2, h3⟩ := h.ring
  refine (join_act h1 h.inv.heads n id via hn hv hid).mono ?_
  rintro e w5 ⟨v, rfl, hc, hg5, hk5⟩
  exact ⟨v, rfl, hc, h.step h2 h3 (inv_joinR h.inv hid) (gone_join h.inv h.went hid) hg5 hk5⟩
theorem Beside.callFail {W wr : World} {rb mb : Nat} {f : RS} {gv : Value} {gone : List Int} (h : Beside W wr rb mb f gv gone) (n : Int) (hn : okInt n) :
    Calls Try.prog 14 #[.pointer (some ⟨rb, 0, none⟩), .int .i64 n] wr (BesidePost W wr rb mb (failR f n) gv gone (failC f n)) := by
  obtain ⟨S, g, h1, h2, h3⟩ := h.ring
  refine (fail_act h1 n hn).mono ?_
  rintro e w5 ⟨v, rfl, hc, hg5, hk5⟩
  exact ⟨v, rfl, hc, h.step h2 h3 (inv_failR h.inv n) (gone_fail h.inv h.went n).1 hg5 hk5⟩
theorem Beside.failN {W w0 wr : World} {rb mb : Nat} {f : RS} {gv : Value} {gone : List Int} (h0 : Beside W w0 rb mb f gv gone) (hb : RowKit.Below w0.heap.size w0 wr) (n : Int) (hn : okInt n) :
    Calls Try.prog 14 #[.pointer (some ⟨rb, 0, none⟩), .int .i64 n] wr fun e w' => ∃ v, e = .returned v ∧ CodeIs wr.heap.size w' v (failC f n) ∧ Beside W w' rb mb (failR f n) gv gone ∧ ∀ b, w0.heap.size ≤ b → b < wr.heap.size → w'.heap[b]? = wr.heap[b]? := by
  obtain ⟨S, g, h1, h2, h3⟩ := h0.ring
  have h := h0.later hb
  refine (fail_act (h1.now hb) n hn).mono ?_
  rintro e w5 ⟨v, rfl, hc, hg5, hk5⟩
  refine ⟨v, rfl, hc, h.step (fun b hS => ?_) (fun q hq hS => ?_) (inv_failR h.inv n) (gone_fail h.inv h.went n).1 hg5 hk5, fun b hb1 hb2 => hk5.block b hb2 fun hS => ?_⟩
  · have := h0.below.size; have := hb.size
    rcases hS with ⟨hS, _⟩ | hS
    · exact h2 b hS
    · omega
  · have := (h0.own.lt q hq).2; have := hb.size
    rcases hS with ⟨hS, _⟩ | hS
    · exact h3 q hq hS
    · omega
  · simp only [Now] at hS; omega
theorem Beside.callStab {W wr : World} {rb mb : Nat} {f : RS} {gv : Value} {gone : List Int} (h : Beside W wr rb mb f gv gone) (n : Int) (hn : okInt n) :
    Calls Try.prog 11 #[.pointer (some ⟨rb, 0, none⟩), .int .i64 n] wr (BesidePost W wr rb mb (stabE f n) gv gone (stabC f n)) := by
  obtain ⟨S, g, h1, h2, h3⟩ := h.ring
  refine (stab_act h1 h.inv.heads n hn).mono ?_
  rintro e w5 ⟨v, rfl, hc, hg5, hk5⟩
  exact ⟨v, rfl, hc, h.step h2 h3 (inv_stabE h.inv n) (gone_stab h.went n) hg5 hk5⟩
theorem Beside.callRound {W wr : World} {rb mb : Nat} {f : RS} {gv : Value} {gone : List Int} (h : Beside W wr rb mb f gv gone) :
    Calls Try.prog 18 #[.pointer (some ⟨rb, 0, none⟩)] wr fun e w' => e = .returned (.tuple #[]) ∧ Beside W w' rb mb (roundR f) gv gone := by
  obtain ⟨S, g, h1, h2, h3⟩ := h.ring
  refine (round_at h1 h.inv.heads).mono ?_
  rintro e w5 ⟨rfl, hg5, hk5⟩
  exact ⟨rfl, h.step h2 h3 (inv_round h.inv) (gone_round h.inv h.went) ⟨_, hg5⟩ hk5⟩
theorem code_cases {B : Nat} {w : World} {v : Value} {c : Int} (h : CodeIs B w v c) : (c = 0 ∧ v = .nilIface) ∨ (c ≠ 0 ∧ ∃ b : Nat, v = .iface 89 (.pointer (some ⟨b, 0, none⟩)) ∧ b < w.heap.size ∧ w.cell? ⟨b, 2, none⟩ = some (.iface 50 (.int .i64 c))) := by
  rcases h with h | ⟨h, b, h1, _, h2, h3⟩
  · exact Or.inl h
  · exact Or.inr ⟨h, b, h1, h2, h3⟩
set_option maxRecDepth 100000 in
set_option maxHeartbeats 16000000 in
theorem chordStays_main (W : World) (v0 v1 : Value) (ids : List Int) (acts : List ActD) (n : Int) (hi : SlAt 0 (fun i => .int .u64 (nth ids i)) ids.length W v0) (hp : ∀ x ∈ ids, isPlace x)
    (ha : ActsAt acts W v1) (hao : ∀ k, k < acts.length → (actAt acts k).ok) (hn : okInt n) : Calls Try.prog 6 #[v0, v1, .int .i64 n] W (OneYes W) := by
  have CB := Lib.hid (born_any W W (RowKit.Below.refl _ _) v0 ids hi hp)
  have HA := Lib.hid ha
  have HAO := Lib.hid hao
  obtain ⟨a1, q1, rfl, _, hm1⟩ := ha.slice
  have ham : acts.length ≤ 9223372036854775807 := by unfold maxLen at hm1; omega
  unfold Born at CB
  cases hf : fourB ids with
  | false =>
    rw [hf] at CB
    clear hi hp hf hm1 ha hao
    go_enter Try.func6, Try.ntmps6
    go_wp2_with fail
    refine CB.out.mono ?_
    intro e w1 hq
    rw [if_neg (by decide)] at hq
    obtain ⟨b, rfl, hB1⟩ := hq
    go_wp2_with fail
    refine (awake_any _).mono ?_
    rintro e w3 ⟨rfl, hB3⟩
    go_wp2_with fail
    go_ret
    exact ⟨rfl, bel_below hB1 hB3⟩
  | true =>
    rw [hf] at CB
    clear hi hp hf hm1 ha hao
    obtain ⟨i0, hi0, hz0, hz1, hz2⟩ : ∃ i0, Try.prog.info? 3 = some i0 ∧ i0.zero = some (Value.int .i64 0) ∧ i0.size = 1 ∧ i0.bytes = 8 := ⟨intI, intI_at, by kernel_rfl, by kernel_rfl, by kernel_rfl⟩
    go_enter Try.func6, Try.ntmps6
    go_wp2_with fail
    refine CB.out.mono ?_
    intro e w1 hq
    rw [if_pos trivial] at hq
    obtain ⟨rb, mb, rfl, hR1⟩ := hq
    have R1 := Lib.hid hR1
    clear hR1
    go_wp2_with fail
    obtain ⟨w2, hw2⟩ : ∃ z, z = w1.alloc (.cells #[] 3) := ⟨_, rfl⟩
    have B12 : RowKit.Below w1.heap.size w1 w2 := by rw [hw2]; exact bel_alloc (RowKit.Below.refl _ _) _
    have hz12 : w2.heap.size = w1.heap.size + 1 := by rw [hw2]; simp
    have O2 : w2.ownsRow W.heap.size 3 1 (.slice (some ⟨w1.heap.size, 0, none⟩) 0 0) 0 ([].map (Value.int .i64)) := by rw [hw2]; exact World.ownsRow_made w1 #[] 0 R1.out.below.size (Nat.zero_le _) (by simp)
    have B2 : Hid (Beside W w2 rb mb (newF ids (setI ids) 4) (.slice (some ⟨w1.heap.size, 0, none⟩) 0 0) []) := by
      obtain ⟨g, hg⟩ := R1.out.ring
      refine ⟨R1.out.inv, fun k hk => by simp at hk, bel_below R1.out.below B12, O2, _, g, hg.now B12, fun b hb => ?_, fun q hq hS => ?_⟩
      · have := R1.out.below.size; simp only [Now] at hb; omega
      · simp [Value.ownBlock] at hq; subst hq; simp only [Now] at hS; omega
    rw [← hw2]
    clear hw2 O2 B12 R1
    go_loopw [9, 10, 11, 12, 13] (fun gv i _ _ _ wr => ∃ (k : Nat) (f : RS) (gone : List Int), k ≤ 60 ∧ i = .int .i64 k ∧ Hid (Beside W wr rb mb f gv gone) ∧ gone.length ≤ k) (fun _ i _ _ _ _ => 60 - (intOf i).toNat)
    case atStart => exact ⟨0, _, [], by omega, rfl, B2.out, Nat.le_refl _⟩
    case round =>
      obtain ⟨k, f, gone, hk, rfl, hR, hgl0⟩ := hrel
      by_cases hlt : k < acts.length ∧ k < 60
      · obtain ⟨hlt, hlt2⟩ := hlt
        obtain ⟨b, off, rfl, hb, c0, c1, c2, c3⟩ := HA.out.at k hlt wr hR.out.below
        have hok := HAO.out k hlt
        generalize hA : actAt acts k = A at c0 c1 c2 c3 hok
        obtain ⟨kd, an, av, ai⟩ := A
        have HOK := Lib.hid hok
        clear hA hok
        dsimp only at c0 c1 c2 c3
        have B3 := Lib.hid (hR.out.later (bel_alloc (RowKit.Below.refl _ wr) (.cells #[.int .i64 kd, .int .i64 an, .int .i64 av, .int .u64 ai] 40)))
        have C3 := Lib.hid B3.out.callLive
        have hlen := length_liveL f
        obtain ⟨L, hL⟩ : ∃ L, L = liveL f := ⟨_, rfl⟩
        rw [← hL] at C3 hlen
        have HL := Lib.hid hL
        clear hL
        go_wp2_with fail
        refine C3.out.mono ?_
        rintro e w4 ⟨v4, rfl, hs4, hB4⟩
        obtain ⟨a4, q4, rfl, _⟩ := hs4.slice
        have e0 := (hB4.cell (p := ⟨wr.heap.size, 0, none⟩) (by simp)).trans (show (wr.alloc (.cells #[.int .i64 kd, .int .i64 an, .int .i64 av, .int .u64 ai] 40)).cell? ⟨wr.heap.size, 0, none⟩ = some (.int .i64 kd) by simp [go_sem])
        have e1 := (hB4.cell (p := ⟨wr.heap.size, 1, none⟩) (by simp)).trans (show (wr.alloc (.cells #[.int .i64 kd, .int .i64 an, .int .i64 av, .int .u64 ai] 40)).cell? ⟨wr.heap.size, 1, none⟩ = some (.int .i64 an) by simp [go_sem])
        have e2 := (hB4.cell (p := ⟨wr.heap.size, 2, none⟩) (by simp)).trans (show (wr.alloc (.cells #[.int .i64 kd, .int .i64 an, .int .i64 av, .int .u64 ai] 40)).cell? ⟨wr.heap.size, 2, none⟩ = some (.int .i64 av) by simp [go_sem])
        have e3 := (hB4.cell (p := ⟨wr.heap.size, 3, none⟩) (by simp)).trans (show (wr.alloc (.cells #[.int .i64 kd, .int .i64 an, .int .i64 av, .int .u64 ai] 40)).cell? ⟨wr.heap.size, 3, none⟩ = some (.int .u64 ai) by simp [go_sem])
        have ez : wr.heap.size < w4.heap.size := by have := hB4.size; simp at this; omega
        have B4 := Lib.hid (B3.out.later hB4)
        have hgl : gone.length ≤ k + 1 := by omega
        have R0 := hR
        have B34 := Lib.hid (bel_below (bel_alloc (RowKit.Below.refl _ wr) _) hB4)
        clear hs4 hB4 c0 c1 c2 c3 hR B3 C3
        by_cases k1 : kd = 1
        · subst k1
          go_wp2_with fail
          refine (B4.out.callJoin _ _ _ HOK.out.n HOK.out.via HOK.out.id).mono ?_
          rintro e w7 ⟨v, rfl, hcode, hB7⟩
          have B7 := Lib.hid hB7
          clear hB7
          rcases code_cases hcode with ⟨hc, rfl⟩ | ⟨hc, bv, rfl, _⟩
          · have hcnt0 := liveL_join B4.out.inv HOK.out.id hc
            rw [← HL.out] at hcnt0
            obtain ⟨f7, hf7⟩ : ∃ f7, f7 = joinR f an ai av := ⟨_, rfl⟩
            rw [← hf7] at B7 hcnt0
            have hcnt : (((liveL f7).length : Int) != (L.length : Int) + 1) = false := by rw [hcnt0]; simp
            clear hcode hc hcnt0 hf7 B4 HL
            have BB := Lib.hid (B7.out.inv.base)
            have C7 := Lib.hid B7.out.callLive
            obtain ⟨M, hM⟩ : ∃ M, M = liveL f7 := ⟨_, rfl⟩
            rw [← hM] at C7 hcnt
            clear hM
            go_wp2_with fail
            refine C7.out.mono ?_
            rintro e w8 ⟨v8, rfl, hs8, hB8⟩
            obtain ⟨a8, q8, rfl, _⟩ := hs8.slice
            have B8 := Lib.hid (B7.out.later hB8)
            have D0 := Lib.hid (B8.out.callLives 0 (okInt_dom (by omega) (by omega)))
            have D1 := Lib.hid (B8.out.callLives 1 (okInt_dom (by omega) (by omega)))
            have D2 := Lib.hid (B8.out.callLives 2 (okInt_dom (by omega) (by omega)))
            have D3 := Lib.hid (B8.out.callLives 3 (okInt_dom (by omega) (by omega)))
            rw [BB.out 0 (by omega) (by omega)] at D0
            rw [BB.out 1 (by omega) (by omega)] at D1
            rw [BB.out 2 (by omega) (by omega)] at D2
            rw [BB.out 3 (by omega) (by omega)] at D3
            clear hs8 hB8
            go_wp2_with (go_at_call 17; first
              | ((with_reducible refine D0.out.mono ?_); rintro e w9 ⟨rfl, rfl⟩)
              | ((with_reducible refine D1.out.mono ?_); rintro e w9 ⟨rfl, rfl⟩)
              | ((with_reducible refine D2.out.mono ?_); rintro e w9 ⟨rfl, rfl⟩)
              | ((with_reducible refine D3.out.mono ?_); rintro e w9 ⟨rfl, rfl⟩))
            go_roundw
            case rel => go_light; exact ⟨k + 1, _, _, by omega, by go_num, B8.out, hgl⟩
            case measure => go_light; simp [intOf]; omega
          · have hf7' := joinR_not hc
            rw [hf7'] at B7
            obtain ⟨f7, hf7⟩ : ∃ f7, f7 = f := ⟨_, rfl⟩
            have hcnt : (((liveL f7).length : Int) != (L.length : Int)) = false := by rw [hf7, HL.out]; simp
            rw [← hf7] at B7
            clear hcode hc hf7' hf7 B4 HL
            have BB := Lib.hid (B7.out.inv.base)
            have C7 := Lib.hid B7.out.callLive
            obtain ⟨M, hM⟩ : ∃ M, M = liveL f7 := ⟨_, rfl⟩
            rw [← hM] at C7 hcnt
            clear hM
            go_wp2_with fail
            refine C7.out.mono ?_
            rintro e w8 ⟨v8, rfl, hs8, hB8⟩
            obtain ⟨a8, q8, rfl, _⟩ := hs8.slice
            have B8 := Lib.hid (B7.out.later hB8)
            have D0 := Lib.hid (B8.out.callLives 0 (okInt_dom (by omega) (by omega)))
            have D1 := Lib.hid (B8.out.callLives 1 (okInt_dom (by omega) (by omega)))
            have D2 := Lib.hid (B8.out.callLives 2 (okInt_dom (by omega) (by omega)))
            have D3 := Lib.hid (B8.out.callLives 3 (okInt_dom (by omega) (by omega)))
            rw [BB.out 0 (by omega) (by omega)] at D0
            rw [BB.out 1 (by omega) (by omega)] at D1
            rw [BB.out 2 (by omega) (by omega)] at D2
            rw [BB.out 3 (by omega) (by omega)] at D3
            clear hs8 hB8
            go_wp2_with (go_at_call 17; first
              | ((with_reducible refine D0.out.mono ?_); rintro e w9 ⟨rfl, rfl⟩)
              | ((with_reducible refine D1.out.mono ?_); rintro e w9 ⟨rfl, rfl⟩)
              | ((with_reducible refine D2.out.mono ?_); rintro e w9 ⟨rfl, rfl⟩)
              | ((with_reducible refine D3.out.mono ?_); rintro e w9 ⟨rfl, rfl⟩))
            go_roundw
            case rel => go_light; exact ⟨k + 1, _, _, by omega, by go_num, B8.out, hgl⟩
            case measure => go_light; simp [intOf]; omega
        · have k1b : (kd == 1) = false := by simpa using k1
          clear k1
          by_cases k2 : kd = 2
          · subst k2
            clear k1b
            go_wp2_with fail
            refine (R0.out.failN B34.out _ HOK.out.n).mono ?_
            rintro e w7 ⟨v, rfl, hcode, hB7, hkeep⟩
            have B7 := Lib.hid hB7
            have g1 : w7.cell? ⟨wr.heap.size, 1, none⟩ = some (.int .i64 an) := (World.cell?_of_block (hkeep wr.heap.size (Nat.le_refl _) ez)).trans e1
            have gz : wr.heap.size < w7.heap.size := by
              rcases Nat.lt_or_ge wr.heap.size w7.heap.size with h | h
              · exact h
              · have := hkeep wr.heap.size (Nat.le_refl _) ez
                rw [Array.getElem?_eq_none h, Array.getElem?_eq_getElem ez] at this
                cases this
            clear hB7 hkeep
            rcases code_cases hcode with ⟨hc, rfl⟩ | ⟨hc, bv, rfl, _⟩
            · have hcnt0 := liveL_fail R0.out.inv hc
              rw [← HL.out] at hcnt0
              have hg8 := Lib.hid ((gone_fail R0.out.inv R0.out.went an).2 hc)
              obtain ⟨f7, hf7⟩ : ∃ f7, f7 = failR f an := ⟨_, rfl⟩
              rw [← hf7] at B7 hcnt0 hg8
              have hcnt : (((liveL f7).length : Int) != (L.length : Int) - 1) = false := by rw [hcnt0]; simp
              have hL1 : 1 ≤ L.length := by omega
              have hown : ∀ q, Value.ownBlock u9 = some q → W.heap.size ≤ q := fun q hq => (B7.out.own.lt q hq).1
              have hbase := B7.out.below.size
              clear hcode hc hcnt0 hf7 B4 HL R0
              go_wp2_with (at_builtin; refine wpList_app_row rfl _ _ 23 rfl W.heap.size 3 i0 (.int .i64 0) 8 Try.underlying23 hi0 hz0 hz1 hz2 rfl _ gone.length _ rfl (B7.out.own.alloc _) 0 _ 1 _ rfl (sl_new _ .i64 [an] 3 _ 1 rfl rfl (by simp [maxLen])) (by decide) (fun _ => rfl) ?qc1 ?qc2 ?qc3 ?_)
              case qc1 => simp only [maxLen]; omega
              case qc2 => omega
              case qc3 => simp; omega
              intro v9 w9 ho9 hg9 hrow9
              have B9 := Lib.hid (B7.out.grow (x := an) hg8.out (by simpa [nth] using ho9) (bel_alloc (RowKit.Below.refl _ _) _) hg9 (fun q hq => by
                rcases hrow9 with h | h
                · rw [h] at hq; exact Or.inl hq
                · rw [h] at hq; injection hq with hq; exact Or.inr (by simp; omega)))
              clear ho9 hg9 hrow9 B7 hg8
              have B7 := B9
              have hgl : (gone ++ [an]).length ≤ k + 1 := by simp; omega
              clear B9
              have BB := Lib.hid (B7.out.inv.base)
              have C7 := Lib.hid B7.out.callLive
              obtain ⟨M, hM⟩ : ∃ M, M = liveL f7 := ⟨_, rfl⟩
              rw [← hM] at C7 hcnt
              clear hM
              go_wp2_with fail
              refine C7.out.mono ?_
              rintro e w8 ⟨v8, rfl, hs8, hB8⟩
              obtain ⟨a8, q8, rfl, _⟩ := hs8.slice
              have B8 := Lib.hid (B7.out.later hB8)
              have D0 := Lib.hid (B8.out.callLives 0 (okInt_dom (by omega) (by omega)))
              have D1 := Lib.hid (B8.out.callLives 1 (okInt_dom (by omega) (by omega)))
              have D2 := Lib.hid (B8.out.callLives 2 (okInt_dom (by omega) (by omega)))
              have D3 := Lib.hid (B8.out.callLives 3 (okInt_dom (by omega) (by omega)))
              rw [BB.out 0 (by omega) (by omega)] at D0
              rw [BB.out 1 (by omega) (by omega)] at D1
              rw [BB.out 2 (by omega) (by omega)] at D2
              rw [BB.out 3 (by omega) (by omega)] at D3
              clear hs8 hB8
              go_wp2_with (go_at_call 17; first
                | ((with_reducible refine D0.out.mono ?_); rintro e w9 ⟨rfl, rfl⟩)
                | ((with_reducible refine D1.out.mono ?_); rintro e w9 ⟨rfl, rfl⟩)
                | ((with_reducible refine D2.out.mono ?_); rintro e w9 ⟨rfl, rfl⟩)
                | ((with_reducible refine D3.out.mono ?_); rintro e w9 ⟨rfl, rfl⟩))
              go_roundw
              case rel => go_light; exact ⟨k + 1, _, _, by omega, by go_num, B8.out, hgl⟩
              case measure => go_light; simp [intOf]; omega
            · have hf7' := failR_not hc
              rw [hf7'] at B7
              obtain ⟨f7, hf7⟩ : ∃ f7, f7 = f := ⟨_, rfl⟩
              have hcnt : (((liveL f7).length : Int) != (L.length : Int)) = false := by rw [hf7, HL.out]; simp
              rw [← hf7] at B7
              clear hcode hc hf7' hf7 B4 HL R0
              have BB := Lib.hid (B7.out.inv.base)
              have C7 := Lib.hid B7.out.callLive
              obtain ⟨M, hM⟩ : ∃ M, M = liveL f7 := ⟨_, rfl⟩
              rw [← hM] at C7 hcnt
              clear hM
              go_wp2_with fail
              refine C7.out.mono ?_
              rintro e w8 ⟨v8, rfl, hs8, hB8⟩
              obtain ⟨a8, q8, rfl, _⟩ := hs8.slice
              have B8 := Lib.hid (B7.out.later hB8)
              have D0 := Lib.hid (B8.out.callLives 0 (okInt_dom (by omega) (by omega)))
              have D1 := Lib.hid (B8.out.callLives 1 (okInt_dom (by omega) (by omega)))
              have D2 := Lib.hid (B8.out.callLives 2 (okInt_dom (by omega) (by omega)))
              have D3 := Lib.hid (B8.out.callLives 3 (okInt_dom (by omega) (by omega)))
              rw [BB.out 0 (by omega) (by omega)] at D0
              rw [BB.out 1 (by omega) (by omega)] at D1
              rw [BB.out 2 (by omega) (by omega)] at D2
              rw [BB.out 3 (by omega) (by omega)] at D3
              clear hs8 hB8
              go_wp2_with (go_at_call 17; first
                | ((with_reducible refine D0.out.mono ?_); rintro e w9 ⟨rfl, rfl⟩)
                | ((with_reducible refine D1.out.mono ?_); rintro e w9 ⟨rfl, rfl⟩)
                | ((with_reducible refine D2.out.mono ?_); rintro e w9 ⟨rfl, rfl⟩)
                | ((with_reducible refine D3.out.mono ?_); rintro e w9 ⟨rfl, rfl⟩))
              go_roundw
              case rel => go_light; exact ⟨k + 1, _, _, by omega, by go_num, B8.out, hgl⟩
              case measure => go_light; simp [intOf]; omega
          · have k2b : (kd == 2) = false := by simpa using k2
            clear k2
            by_cases k3 : kd = 3
            · subst k3
              clear k1b k2b
              go_wp2_with fail
              refine (B4.out.callStab _ HOK.out.n).mono ?_
              rintro e w7 ⟨v, rfl, hcode, hB7⟩
              have B7 := Lib.hid hB7
              clear hB7
              have hcnt0 : liveL (stabE f an) = L := by rw [liveL_stabE, HL.out]
              obtain ⟨f7, hf7⟩ : ∃ f7, f7 = stabE f an := ⟨_, rfl⟩
              rw [← hf7] at B7 hcnt0
              have hcnt : (((liveL f7).length : Int) != (L.length : Int)) = false := by rw [hcnt0]; simp
              rcases code_cases hcode with ⟨hc, rfl⟩ | ⟨hc, bv, rfl, _⟩
              · clear hcode hc hcnt0 hf7 B4 HL
                have BB := Lib.hid (B7.out.inv.base)
                have C7 := Lib.hid B7.out.callLive
                obtain ⟨M, hM⟩ : ∃ M, M = liveL f7 := ⟨_, rfl⟩
                rw [← hM] at C7 hcnt
                clear hM
                go_wp2_with fail
                refine C7.out.mono ?_
                rintro e w8 ⟨v8, rfl, hs8, hB8⟩
                obtain ⟨a8, q8, rfl, _⟩ := hs8.slice
                have B8 := Lib.hid (B7.out.later hB8)
                have D0 := Lib.hid (B8.out.callLives 0 (okInt_dom (by omega) (by omega)))
                have D1 := Lib.hid (B8.out.callLives 1 (okInt_dom (by omega) (by omega)))
                have D2 := Lib.hid (B8.out.callLives 2 (okInt_dom (by omega) (by omega)))
                have D3 := Lib.hid (B8.out.callLives 3 (okInt_dom (by omega) (by omega)))
                rw [BB.out 0 (by omega) (by omega)] at D0
                rw [BB.out 1 (by omega) (by omega)] at D1
                rw [BB.out 2 (by omega) (by omega)] at D2
                rw [BB.out 3 (by omega) (by omega)] at D3
                clear hs8 hB8
                go_wp2_with (go_at_call 17; first
                  | ((with_reducible refine D0.out.mono ?_); rintro e w9 ⟨rfl, rfl⟩)
                  | ((with_reducible refine D1.out.mono ?_); rintro e w9 ⟨rfl, rfl⟩)
                  | ((with_reducible refine D2.out.mono ?_); rintro e w9 ⟨rfl, rfl⟩)
                  | ((with_reducible refine D3.out.mono ?_); rintro e w9 ⟨rfl, rfl⟩))
                go_roundw
                case rel => go_light; exact ⟨k + 1, _, _, by omega, by go_num, B8.out, hgl⟩
                case measure => go_light; simp [intOf]; omega
              · clear hcode hc hcnt0 hf7 B4 HL
                have BB := Lib.hid (B7.out.inv.base)
                have C7 := Lib.hid B7.out.callLive
                obtain ⟨M, hM⟩ : ∃ M, M = liveL f7 := ⟨_, rfl⟩
                rw [← hM] at C7 hcnt
                clear hM
                go_wp2_with fail
                refine C7.out.mono ?_
                rintro e w8 ⟨v8, rfl, hs8, hB8⟩
                obtain ⟨a8, q8, rfl, _⟩ := hs8.slice
                have B8 := Lib.hid (B7.out.later hB8)
                have D0 := Lib.hid (B8.out.callLives 0 (okInt_dom (by omega) (by omega)))
                have D1 := Lib.hid (B8.out.callLives 1 (okInt_dom (by omega) (by omega)))
                have D2 := Lib.hid (B8.out.callLives 2 (okInt_dom (by omega) (by omega)))
                have D3 := Lib.hid (B8.out.callLives 3 (okInt_dom (by omega) (by omega)))
                rw [BB.out 0 (by omega) (by omega)] at D0
                rw [BB.out 1 (by omega) (by omega)] at D1
                rw [BB.out 2 (by omega) (by omega)] at D2
                rw [BB.out 3 (by omega) (by omega)] at D3
                clear hs8 hB8
                go_wp2_with (go_at_call 17; first
                  | ((with_reducible refine D0.out.mono ?_); rintro e w9 ⟨rfl, rfl⟩)
                  | ((with_reducible refine D1.out.mono ?_); rintro e w9 ⟨rfl, rfl⟩)
                  | ((with_reducible refine D2.out.mono ?_); rintro e w9 ⟨rfl, rfl⟩)
                  | ((with_reducible refine D3.out.mono ?_); rintro e w9 ⟨rfl, rfl⟩))
                go_roundw
                case rel => go_light; exact ⟨k + 1, _, _, by omega, by go_num, B8.out, hgl⟩
                case measure => go_light; simp [intOf]; omega
            · have k3b : (kd == 3) = false := by simpa using k3
              clear k3
              by_cases k4 : kd = 4
              · subst k4
                clear k1b k2b k3b
                go_wp2_with fail
                refine (B4.out.callRound).mono ?_
                rintro e w7 ⟨rfl, hB7⟩
                have B7 := Lib.hid hB7
                clear hB7
                have hcnt0 : liveL (roundR f) = L := by rw [liveL_roundR, HL.out]
                obtain ⟨f7, hf7⟩ : ∃ f7, f7 = roundR f := ⟨_, rfl⟩
                rw [← hf7] at B7 hcnt0
                have hcnt : (((liveL f7).length : Int) != (L.length : Int)) = false := by rw [hcnt0]; simp
                clear hcnt0 hf7 B4 HL
                have BB := Lib.hid (B7.out.inv.base)
                have C7 := Lib.hid B7.out.callLive
                obtain ⟨M, hM⟩ : ∃ M, M = liveL f7 := ⟨_, rfl⟩
                rw [← hM] at C7 hcnt
                clear hM
                go_wp2_with fail
                refine C7.out.mono ?_
                rintro e w8 ⟨v8, rfl, hs8, hB8⟩
                obtain ⟨a8, q8, rfl, _⟩ := hs8.slice
                have B8 := Lib.hid (B7.out.later hB8)
                have D0 := Lib.hid (B8.out.callLives 0 (okInt_dom (by omega) (by omega)))
                have D1 := Lib.hid (B8.out.callLives 1 (okInt_dom (by omega) (by omega)))
                have D2 := Lib.hid (B8.out.callLives 2 (okInt_dom (by omega) (by omega)))
                have D3 := Lib.hid (B8.out.callLives 3 (okInt_dom (by omega) (by omega)))
                rw [BB.out 0 (by omega) (by omega)] at D0
                rw [BB.out 1 (by omega) (by omega)] at D1
                rw [BB.out 2 (by omega) (by omega)] at D2
                rw [BB.out 3 (by omega) (by omega)] at D3
                clear hs8 hB8
                go_wp2_with (go_at_call 17; first
                  | ((with_reducible refine D0.out.mono ?_); rintro e w9 ⟨rfl, rfl⟩)
                  | ((with_reducible refine D1.out.mono ?_); rintro e w9 ⟨rfl, rfl⟩)
                  | ((with_reducible refine D2.out.mono ?_); rintro e w9 ⟨rfl, rfl⟩)
                  | ((with_reducible refine D3.out.mono ?_); rintro e w9 ⟨rfl, rfl⟩))
                go_roundw
                case rel => go_light; exact ⟨k + 1, _, _, by omega, by go_num, B8.out, hgl⟩
                case measure => go_light; simp [intOf]; omega
              · have k4b : (kd == 4) = false := by simpa using k4
                clear k4
                have B7 := B4
                obtain ⟨f7, hf7⟩ : ∃ f7, f7 = f := ⟨_, rfl⟩
                have hcnt : (((liveL f7).length : Int) != (L.length : Int)) = false := by rw [hf7, HL.out]; simp
                rw [← hf7] at B7
                clear hf7 B4 HL
                have BB := Lib.hid (B7.out.inv.base)
                have C7 := Lib.hid B7.out.callLive
                obtain ⟨M, hM⟩ : ∃ M, M = liveL f7 := ⟨_, rfl⟩
                rw [← hM] at C7 hcnt
                clear hM
                go_wp2_with fail
                refine C7.out.mono ?_
                rintro e w8 ⟨v8, rfl, hs8, hB8⟩
                obtain ⟨a8, q8, rfl, _⟩ := hs8.slice
                have B8 := Lib.hid (B7.out.later hB8)
                have D0 := Lib.hid (B8.out.callLives 0 (okInt_dom (by omega) (by omega)))
                have D1 := Lib.hid (B8.out.callLives 1 (okInt_dom (by omega) (by omega)))
                have D2 := Lib.hid (B8.out.callLives 2 (okInt_dom (by omega) (by omega)))
                have D3 := Lib.hid (B8.out.callLives 3 (okInt_dom (by omega) (by omega)))
                rw [BB.out 0 (by omega) (by omega)] at D0
                rw [BB.out 1 (by omega) (by omega)] at D1
                rw [BB.out 2 (by omega) (by omega)] at D2
                rw [BB.out 3 (by omega) (by omega)] at D3
                clear hs8 hB8
                go_wp2_with (go_at_call 17; first
                  | ((with_reducible refine D0.out.mono ?_); rintro e w9 ⟨rfl, rfl⟩)
                  | ((with_reducible refine D1.out.mono ?_); rintro e w9 ⟨rfl, rfl⟩)
                  | ((with_reducible refine D2.out.mono ?_); rintro e w9 ⟨rfl, rfl⟩)
                  | ((with_reducible refine D3.out.mono ?_); rintro e w9 ⟨rfl, rfl⟩))
                go_roundw
                case rel => go_light; exact ⟨k + 1, _, _, by omega, by go_num, B8.out, hgl⟩
                case measure => go_light; simp [intOf]; omega
      · have hcase : acts.length ≤ k ∨ k < acts.length ∧ k = 60 := by omega
        clear hlt
        rcases hcase with hcase | ⟨hcase, rfl⟩
        · have hg60 : gone.length ≤ 60 := by omega
          have hgs := own_ints hR.out.own
          obtain ⟨ag, qg, e9, _⟩ := hgs.slice
          subst e9
          have GS := Lib.hid hgs
          clear hgs
          go_wp2_with fail
          obtain ⟨w2', hw2'⟩ : ∃ z, z = wr := ⟨_, rfl⟩
          rw [← hw2'] at hR GS ⊢
          clear hw2'
          go_loopw [15, 119] (fun _ i wr => ∃ j : Nat, j ≤ gone.length ∧ i = .int .i64 j ∧ Hid (RowKit.Below w2'.heap.size w2' wr)) (fun _ i _ => gone.length - (intOf i).toNat)
          case atStart => exact ⟨0, Nat.zero_le _, rfl, RowKit.Below.refl _ _⟩
          case round =>
            obtain ⟨j, hj, rfl, hBj⟩ := hrel
            have RJ := Lib.hid (hR.out.later hBj.out)
            by_cases hlj : j < gone.length
            · obtain ⟨b, off, rfl, _, hb, hc⟩ := GS.out.at j hlj wr hBj.out
              have hin : nth gone j ∈ gone := nth_mem.2 ⟨j, hlj, rfl⟩
              have h7 := gone_used RJ.out.went hin
              obtain ⟨x0, x1, _, xl⟩ := RJ.out.went _ hin
              obtain ⟨x, hx⟩ : ∃ x, x = nth gone j := ⟨_, rfl⟩
              rw [← hx] at hc h7 x0 x1 xl
              have okx : okInt x := okInt_dom (by omega) (by omega)
              have CL := Lib.hid (RJ.out.callLives x okx)
              rw [xl] at CL
              obtain ⟨S, g, q1, q2, q3⟩ := RJ.out.ring
              have CJ := Lib.hid (join_at q1 RJ.out.inv.heads x 1 0 okx (okInt_dom (by omega) (by omega)) (by unfold isPlace; omega))
              unfold JoinPost at CJ
              rw [h7] at CJ
              clear hx hin h7 x0 x1 xl q1 q2 q3
              go_wp2_with fail
              refine CL.out.mono ?_
              rintro e w5 ⟨rfl, rfl⟩
              go_wp2_with fail
              refine CJ.out.mono ?_
              intro e w6 hq
              rw [if_neg (by decide)] at hq
              obtain ⟨v6, rfl, ⟨b6, rfl, _, hb6, hc6⟩, hB6⟩ := hq
              have B6 := Lib.hid (bel_below hBj.out hB6)
              clear hB6
              go_wp2_with fail
              refine (is_code b6 7 7 _ hc6).mono ?_
              rintro e w7 ⟨rfl, rfl⟩
              go_wp2_with fail
              go_roundw
              case rel => go_light; exact ⟨j + 1, by omega, by go_num, B6.out⟩
              case measure => go_light; simp [intOf]; omega
            · obtain rfl : j = gone.length := by omega
              have CF := Lib.hid (RJ.out.callFail n hn)
              have hI := Lib.hid RJ.out.inv
              clear hlj
              by_cases hn0 : n < 0
              · go_wp2_with fail
                refine CF.out.mono ?_
                rintro e w5 ⟨v5, rfl, hv5, hB5⟩
                have B5 := Lib.hid hB5
                clear hB5 hv5
                go_wp2_with fail
                refine (awake_any _).mono ?_
                rintro e w9 ⟨rfl, hB9⟩
                go_wp2_with fail
                go_ret
                exact ⟨rfl, bel_below B5.out.below hB9⟩
              · by_cases hn3 : 3 < n
                · go_wp2_with fail
                  refine CF.out.mono ?_
                  rintro e w5 ⟨v5, rfl, hv5, hB5⟩
                  have B5 := Lib.hid hB5
                  clear hB5 hv5
                  go_wp2_with fail
                  refine (awake_any _).mono ?_
                  rintro e w9 ⟨rfl, hB9⟩
                  go_wp2_with fail
                  go_ret
                  exact ⟨rfl, bel_below B5.out.below hB9⟩
                · have h5 := fail_base hI.out (n := n) (by omega) (by omega)
                  rw [h5] at CF
                  clear h5
                  go_wp2_with fail
                  refine CF.out.mono ?_
                  rintro e w5 ⟨v5, rfl, hv5, hB5⟩
                  obtain ⟨b5, rfl, _, hb5, hc5⟩ := code_err hv5 (by decide)
                  have B5 := Lib.hid hB5
                  clear hB5 hv5
                  go_wp2_with fail
                  refine (awake_any _).mono ?_
                  rintro e w9 ⟨rfl, hB9⟩
                  have hc9 := (hB9.cell (p := ⟨b5, 2, none⟩) hb5).trans hc5
                  have B9 := Lib.hid (bel_below B5.out.below hB9)
                  clear hB9 hc5 hb5
                  go_wp2_with fail
                  refine (is_code b5 5 5 _ hc9).mono ?_
                  rintro e w7 ⟨rfl, rfl⟩
                  go_wp2_with fail
                  go_ret
                  exact ⟨rfl, B9.out⟩
        · have hg60 : gone.length ≤ 60 := by omega
          have hgs := own_ints hR.out.own
          obtain ⟨ag, qg, e9, _⟩ := hgs.slice
          subst e9
          have GS := Lib.hid hgs
          clear hgs
          go_wp2_with fail
          obtain ⟨w2', hw2'⟩ : ∃ z, z = wr := ⟨_, rfl⟩
          rw [← hw2'] at hR GS ⊢
          clear hw2'
          go_loopw [15, 119] (fun _ i wr => ∃ j : Nat, j ≤ gone.length ∧ i = .int .i64 j ∧ Hid (RowKit.Below w2'.heap.size w2' wr)) (fun _ i _ => gone.length - (intOf i).toNat)
          case atStart => exact ⟨0, Nat.zero_le _, rfl, RowKit.Below.refl _ _⟩
          case round =>
            obtain ⟨j, hj, rfl, hBj⟩ := hrel
            have RJ := Lib.hid (hR.out.later hBj.out)
            by_cases hlj : j < gone.length
            · obtain ⟨b, off, rfl, _, hb, hc⟩ := GS.out.at j hlj wr hBj.out
              have hin : nth gone j ∈ gone := nth_mem.2 ⟨j, hlj, rfl⟩
              have h7 := gone_used RJ.out.went hin
              obtain ⟨x0, x1, _, xl⟩ := RJ.out.went _ hin
              obtain ⟨x, hx⟩ : ∃ x, x = nth gone j := ⟨_, rfl⟩
              rw [← hx] at hc h7 x0 x1 xl
              have okx : okInt x := okInt_dom (by omega) (by omega)
              have CL := Lib.hid (RJ.out.callLives x okx)
              rw [xl] at CL
              obtain ⟨S, g, q1, q2, q3⟩ := RJ.out.ring
              have CJ := Lib.hid (join_at q1 RJ.out.inv.heads x 1 0 okx (okInt_dom (by omega) (by omega)) (by unfold isPlace; omega))
              unfold JoinPost at CJ
              rw [h7] at CJ
              clear hx hin h7 x0 x1 xl q1 q2 q3
              go_wp2_with fail
              refine CL.out.mono ?_
              rintro e w5 ⟨rfl, rfl⟩
              go_wp2_with fail
              refine CJ.out.mono ?_
              intro e w6 hq
              rw [if_neg (by decide)] at hq
              obtain ⟨v6, rfl, ⟨b6, rfl, _, hb6, hc6⟩, hB6⟩ := hq
              have B6 := Lib.hid (bel_below hBj.out hB6)
              clear hB6
              go_wp2_with fail
              refine (is_code b6 7 7 _ hc6).mono ?_
              rintro e w7 ⟨rfl, rfl⟩
              go_wp2_with fail
              go_roundw
              case rel => go_light; exact ⟨j + 1, by omega, by go_num, B6.out⟩
              case measure => go_light; simp [intOf]; omega
            · obtain rfl : j = gone.length := by omega
              have CF := Lib.hid (RJ.out.callFail n hn)
              have hI := Lib.hid RJ.out.inv
              clear hlj
              by_cases hn0 : n < 0
              · go_wp2_with fail
                refine CF.out.mono ?_
                rintro e w5 ⟨v5, rfl, hv5, hB5⟩
                have B5 := Lib.hid hB5
                clear hB5 hv5
                go_wp2_with fail
                refine (awake_any _).mono ?_
                rintro e w9 ⟨rfl, hB9⟩
                go_wp2_with fail
                go_ret
                exact ⟨rfl, bel_below B5.out.below hB9⟩
              · by_cases hn3 : 3 < n
                · go_wp2_with fail
                  refine CF.out.mono ?_
                  rintro e w5 ⟨v5, rfl, hv5, hB5⟩
                  have B5 := Lib.hid hB5
                  clear hB5 hv5
                  go_wp2_with fail
                  refine (awake_any _).mono ?_
                  rintro e w9 ⟨rfl, hB9⟩
                  go_wp2_with fail
                  go_ret
                  exact ⟨rfl, bel_below B5.out.below hB9⟩
                · have h5 := fail_base hI.out (n := n) (by omega) (by omega)
                  rw [h5] at CF
                  clear h5
                  go_wp2_with fail
                  refine CF.out.mono ?_
                  rintro e w5 ⟨v5, rfl, hv5, hB5⟩
                  obtain ⟨b5, rfl, _, hb5, hc5⟩ := code_err hv5 (by decide)
                  have B5 := Lib.hid hB5
                  clear hB5 hv5
                  go_wp2_with fail
                  refine (awake_any _).mono ?_
                  rintro e w9 ⟨rfl, hB9⟩
                  have hc9 := (hB9.cell (p := ⟨b5, 2, none⟩) hb5).trans hc5
                  have B9 := Lib.hid (bel_below B5.out.below hB9)
                  clear hB9 hc5 hb5
                  go_wp2_with fail
                  refine (is_code b5 5 5 _ hc9).mono ?_
                  rintro e w7 ⟨rfl, rfl⟩
                  go_wp2_with fail
                  go_ret
                  exact ⟨rfl, B9.out⟩
set_option maxRecDepth 100000 in
theorem chordStays_walk {H : Type} (enc : TypeId × Value → H) (W : World) (v0 : Value) (d0 : DataW H) (p0 : List MemPlace) {r0 : Reach} {b0 : Nat} (ok0 : Value.okWide Try.prog W r0 b0 22 v0) (h0 : DataW.Trod enc Try.prog W 0 (fun _ => true) true 22 v0 d0 p0)
    (hlt0 : ∀ x ∈ p0, x.block < W.heap.size) (sz0 : ∀ n ∈ d0.weights Try.prog 22, n ≤ reachBytes) (v1 : Value) (d1 : DataW H) (p1 : List MemPlace) {r1 : Reach} {b1 : Nat} (ok1 : Value.okWide Try.prog W r1 b1 38 v1) (h1 : DataW.Trod enc Try.prog W 0 (fun _ => true) true 38 v1 d1 p1)
    (hlt1 : ∀ x ∈ p1, x.block < W.heap.size) (sz1 : ∀ n ∈ d1.weights Try.prog 38, n ≤ reachBytes) (n : Int) (wn : (Lit.int .i64 n).wf = true) :
    Calls Try.prog 6 #[v0, v1, .int .i64 n] W fun e W' => e = .returned (.bool true) ∧ RowKit.Below W.heap.size W W' := by
  obtain ⟨ids, hi, hp⟩ := ids_open ok0 h0
  obtain ⟨acts, ha, hao⟩ := acts_open ok1 h1
  exact chordStays_main W v0 v1 ids acts n hi hp ha hao wn
end Go.Proofs.Ythbijjpaljjapaa
