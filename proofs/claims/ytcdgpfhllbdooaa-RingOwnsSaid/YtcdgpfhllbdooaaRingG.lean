
/-
  The law RingTwice: for all places, whatever the memory; no conditions.
-/
import Derived.Test.YtcdgpfhllbdooaaRingF
import Derived.OpenShut
import Derived.Test.YtcdgpfhllbdooaaRingC
namespace Go.Proofs.Ytcdgpfhllbdooaa
open Go.RowKit Go.WideShapes Go.ChangeShapes
set_option linter.unusedVariables false
set_option linter.unusedSimpArgs false
attribute [local go_sem] later_cell later_frozen later_lt

theorem owner_mem {s : List Int} (hs : Up s) {i : Nat} (hi : i < s.length) : ownerI s (nth s i) = i := by
  have hb : below s (nth s i) = i := below_eq s _ i (by omega) (fun k hk => up_nth hs hk hi) fun k hk hk2 => by
    rcases Nat.eq_or_lt_of_le hk with rfl | h
    · exact Int.le_refl _
    · exact Int.le_of_lt (up_nth hs h hk2)
  unfold ownerI
  rw [if_neg (by omega), hb, if_neg (by omega)]
/-- What is among some places owns itself. -/
theorem owner_in {s : List Int} (hs : Up s) {x : Int} (hx : x ∈ s) : ∃ i : Nat, i < s.length ∧ ownerI s x = i ∧ nth s i = x := by
  obtain ⟨i, hi, rfl⟩ := nth_mem.1 hx
  exact ⟨i, hi, owner_mem hs hi, rfl⟩
theorem owner_at {w0 w : World} {a : Option Addr} {cap : Nat} {s : List Int} {B : Nat} (h : SlAt B (fun i => .int .u64 (nth s i)) s.length w0 (.slice a s.length cap)) (hs : Up s) (hl : s.length ≤ 4000000000) (hB : Below w0.heap.size w0 w) (x : Int) :
    Calls Try.prog 37 #[.slice a s.length cap, .int .u64 x] w fun e w' => e = .returned (.int .i64 (ownerI s x)) ∧ w = w' :=
  owner_any s hs x a cap w hl fun i hi => by obtain ⟨b, off, e, _, _, h2⟩ := h.at i hi w hB; exact ⟨b, off, e, h2⟩

set_option maxHeartbeats 4000000 in
theorem ringTwice_main (W : World) (v0 : Value) (l : List Int) (hv : SlAt 0 (fun i => .int .u64 (nth l i)) l.length W v0) :
    Calls Try.prog 14 #[v0] W fun e W' => e = .returned (.bool true) ∧ Below W.heap.size W W' := by
  obtain ⟨a0, cap0, rfl, hn, hm⟩ := hv.slice
  obtain ⟨n, m, hnm, hlm, hm40, hv, hcap⟩ : ∃ n m : Nat, (l.length = n) ∧ (m = if 40 < n then 40 else n) ∧ m ≤ 40 ∧ SlAt 0 (fun i => .int .u64 (nth (l.take m) i)) m W (.slice a0 m cap0) ∧ (l.take m).length = m := by
    refine ⟨l.length, if 40 < l.length then 40 else l.length, rfl, rfl, by split <;> omega, ?_, ?_⟩
    · refine (hv.take (by split <;> omega)).congr fun i hi => by rw [nth_take hi]
    · rw [List.length_take]; split <;> omega
  rw [hnm] at hn ⊢
  clear hnm
  generalize l.take m = l at *
  have c1 := Lib.hid (sorted_any W (.slice a0 m cap0) l (by rw [hcap]; exact hv) (by omega))
  have hup := Lib.hid (setI_up l)
  have hsl := setI_len l
  have hmem := Lib.hid (fun (k : Nat) (hk : k < m) => (mem_setI (l := l) (x := nth l k)).2 (nth_mem.2 ⟨k, by omega, rfl⟩))
  obtain ⟨s, hs⟩ : ∃ s, s = setI l := ⟨_, rfl⟩
  rw [← hs] at c1 hup hsl hmem
  have hs4 : s.length ≤ 40 := by omega
  have hl4 : Hid (s.length ≤ 4000000000) := show s.length ≤ 4000000000 by omega
  have c2 := Lib.hid (fun w1 v1 h1 => sorted_any w1 v1 s h1 hl4.out)
  rw [setI_of_up hup.out] at c2
  have HV := Lib.hid hv
  clear hv hs hsl hcap
  have hv := HV
  clear HV
  unfold maxLen at hm
  by_cases h40 : 40 < n
  · rw [if_pos h40] at hlm
    subst hlm
    go_enter Try.func14, Try.ntmps14
    go_wp2_with fail
    refine c1.out.mono ?_
    rintro e w1 ⟨v1, rfl, hs1, hB1⟩
    obtain ⟨a1, q1, rfl, hq1, hq1m⟩ := hs1.slice
    have S1 := Lib.hid hs1
    clear hs1
    go_wp2_with fail
    refine (c2.out _ _ (S1.out.base (Nat.zero_le _))).mono ?_
    rintro e w2 ⟨v2, rfl, hs2, hB2⟩
    obtain ⟨a2, q2, rfl, hq2, hq2m⟩ := hs2.slice
    have S2 := Lib.hid hs2
    have B2 : Below W.heap.size W w2 := bel_below hB1 hB2
    clear hs2
    obtain ⟨w0, rfl⟩ : ∃ w0 : World, w0 = w2 := ⟨_, rfl⟩
    go_wp2_with fail
    go_loopw [5, 25] (fun _ i wr => ∃ k : Nat, k ≤ s.length ∧ i = .int .i64 k ∧ Below w0.heap.size w0 wr) (fun _ i _ => s.length - (intOf i).toNat)
    case atStart => exact ⟨0, Nat.zero_le _, rfl, Below.refl _ _⟩
    case round =>
      obtain ⟨k, hk, rfl, hB⟩ := hrel
      by_cases hlt : k < s.length
      · obtain ⟨b1, o1, rfl, _, hb1, f1⟩ := S1.out.at k hlt wr (bel_below hB2 hB)
        obtain ⟨b2, o2, rfl, _, hb2, f2⟩ := S2.out.at k hlt wr hB
        have g0 : (nth s k != nth s k) = false := by simp
        by_cases hk0 : (0 : Int) < k
        · obtain ⟨k', rfl⟩ : ∃ k' : Nat, k = k' + 1 := ⟨k - 1, by omega⟩
          obtain ⟨b3, o3, e3, _, hb3, f3⟩ := S1.out.at k' (by omega) wr (bel_below hB2 hB)
          cases e3
          have g1 : nth s k' < nth s (k' + 1) := up_nth hup.out (Nat.lt_succ_self _) hlt
          have g2 : ¬ nth s (k' + 1) ≤ nth s k' := by omega
          have g3 : (nth s (k' + 1) ≤ nth s k') = False := by simp; omega
          clear g1
          go_wp2_with fail
          refine wp_region_calm (by kernel_rfl) (by kernel_rfl) ?_
          repeat (first | (go_big_quiet_step ((fail))) | (refine wpQuiet_step (fun K hK => ?_); go_simp; first | (refine hK _ ?_; clear hK K) | (apply Exists.intro; refine ⟨fun _ => ?_, hK _ ?_⟩; (fail); clear hK K)))
          refine wpQuiet_nil ?_
          intro _ hw'
          obtain ⟨xq, hw''⟩ := hw'
          subst hw''
          go_wp2_with fail
          go_roundw
          case rel => go_light; exact ⟨k' + 1 + 1, by omega, by go_num, by (repeat (first | exact Below.refl _ _ | (with_reducible assumption) | (with_reducible refine bel_later ?_ _) | (with_reducible refine bel_alloc ?_ _) | (with_reducible refine bel_drew ?_) | (with_reducible refine bel_drewN ?_ _) | (with_reducible refine bel_set ?_ (by first | (simp; done) | (simp; omega) | (dsimp only; omega)) _)))⟩
          case measure => go_light; simp [intOf]; omega
        · obtain rfl : k = 0 := by omega
          rw [Nat.add_zero] at f1 f2
          go_wp2_with fail
          refine wp_region_calm (by kernel_rfl) (by kernel_rfl) ?_
          repeat (first | (go_big_quiet_step ((fail))) | (refine wpQuiet_step (fun K hK => ?_); go_simp; first | (refine hK _ ?_; clear hK K) | (apply Exists.intro; refine ⟨fun _ => ?_, hK _ ?_⟩; (fail); clear hK K)))
          refine wpQuiet_nil ?_
          intro _ hw'
          obtain ⟨xq, hw''⟩ := hw'
          subst hw''
          go_wp2_with fail
          go_roundw
          case rel => go_light; exact ⟨1, by omega, by go_num, by (repeat (first | exact Below.refl _ _ | (with_reducible assumption) | (with_reducible refine bel_later ?_ _) | (with_reducible refine bel_alloc ?_ _) | (with_reducible refine bel_drew ?_) | (with_reducible refine bel_drewN ?_ _) | (with_reducible refine bel_set ?_ (by first | (simp; done) | (simp; omega) | (dsimp only; omega)) _)))⟩
          case measure => go_light; simp [intOf]; omega
      · have B3 : Below W.heap.size W wr := bel_below B2 hB
        obtain ⟨w4, hw4⟩ : ∃ w4 : World, w4 = wr := ⟨_, rfl⟩
        rw [← hw4] at hB B3
        have H4 := Lib.hid hB
        have BW := Lib.hid B3
        clear hB B3
        rw [← hw4]
        clear hw4
        go_wp2_with fail
        go_loopw [7, 8, 56] (fun _ _ i wr => ∃ k : Nat, k ≤ 40 ∧ i = .int .i64 k ∧ wr = w4) (fun _ _ i _ => 40 - (intOf i).toNat)
        case atStart => exact ⟨0, Nat.zero_le _, rfl, rfl⟩
        case round =>
          obtain ⟨k, hk, rfl, rfl⟩ := hrel
          by_cases hlt : k < 40
          · obtain ⟨b1, o1, rfl, _, hb1, f1⟩ := hv.out.at k hlt _ BW.out
            obtain ⟨j, hj, ho, hx⟩ := owner_in hup.out (hmem.out k hlt)
            obtain ⟨b2, o2, rfl, _, hb2, f2⟩ := S1.out.at j hj _ (bel_below hB2 H4.out)
            have co := Lib.hid (owner_at S1.out hup.out hl4.out (bel_below hB2 H4.out) (nth l k))
            rw [ho] at co
            have g0 : (nth s j != nth l k) = false := by rw [hx]; simp
            clear hx ho
            go_wp2_with (go_at_call 37; refine co.out.mono ?_; rintro e w5 ⟨rfl, rfl⟩)
            go_roundw
            case rel => go_light; exact ⟨k + 1, by omega, by go_num, by first | trivial | rfl⟩
            case measure => go_light; simp [intOf]; omega
          · go_wp2_with (go_at_call 23; refine (aw_any _).mono ?_; rintro e w5 ⟨rfl, hb⟩)
            go_ret
            exact ⟨rfl, bel_below BW.out hb⟩
  · rw [if_neg h40] at hlm
    subst hlm
    go_enter Try.func14, Try.ntmps14
    go_wp2_with fail
    refine c1.out.mono ?_
    rintro e w1 ⟨v1, rfl, hs1, hB1⟩
    obtain ⟨a1, q1, rfl, hq1, hq1m⟩ := hs1.slice
    have S1 := Lib.hid hs1
    clear hs1
    go_wp2_with fail
    refine (c2.out _ _ (S1.out.base (Nat.zero_le _))).mono ?_
    rintro e w2 ⟨v2, rfl, hs2, hB2⟩
    obtain ⟨a2, q2, rfl, hq2, hq2m⟩ := hs2.slice
    have S2 := Lib.hid hs2
    have B2 : Below W.heap.size W w2 := bel_below hB1 hB2
    clear hs2
    obtain ⟨w0, rfl⟩ : ∃ w0 : World, w0 = w2 := ⟨_, rfl⟩
    go_wp2_with fail
    go_loopw [5, 25] (fun _ i wr => ∃ k : Nat, k ≤ s.length ∧ i = .int .i64 k ∧ Below w0.heap.size w0 wr) (fun _ i _ => s.length - (intOf i).toNat)
    case atStart => exact ⟨0, Nat.zero_le _, rfl, Below.refl _ _⟩
    case round =>
      obtain ⟨k, hk, rfl, hB⟩ := hrel
      by_cases hlt : k < s.length
      · obtain ⟨b1, o1, rfl, _, hb1, f1⟩ := S1.out.at k hlt wr (bel_below hB2 hB)
        obtain ⟨b2, o2, rfl, _, hb2, f2⟩ := S2.out.at k hlt wr hB
        have g0 : (nth s k != nth s k) = false := by simp
        by_cases hk0 : (0 : Int) < k
        · obtain ⟨k', rfl⟩ : ∃ k' : Nat, k = k' + 1 := ⟨k - 1, by omega⟩
          obtain ⟨b3, o3, e3, _, hb3, f3⟩ := S1.out.at k' (by omega) wr (bel_below hB2 hB)
          cases e3
          have g1 : nth s k' < nth s (k' + 1) := up_nth hup.out (Nat.lt_succ_self _) hlt
          have g2 : ¬ nth s (k' + 1) ≤ nth s k' := by omega
          have g3 : (nth s (k' + 1) ≤ nth s k') = False := by simp; omega
          clear g1
          go_wp2_with fail
          refine wp_region_calm (by kernel_rfl) (by kernel_rfl) ?_
          repeat (first | (go_big_quiet_step ((fail))) | (refine wpQuiet_step (fun K hK => ?_); go_simp; first | (refine hK _ ?_; clear hK K) | (apply Exists.intro; refine ⟨fun _ => ?_, hK _ ?_⟩; (fail); clear hK K)))
          refine wpQuiet_nil ?_
          intro _ hw'
          obtain ⟨xq, hw''⟩ := hw'
          subst hw''
          go_wp2_with fail
          go_roundw
          case rel => go_light; exact ⟨k' + 1 + 1, by omega, by go_num, by (repeat (first | exact Below.refl _ _ | (with_reducible assumption) | (with_reducible refine bel_later ?_ _) | (with_reducible refine bel_alloc ?_ _) | (with_reducible refine bel_drew ?_) | (with_reducible refine bel_drewN ?_ _) | (with_reducible refine bel_set ?_ (by first | (simp; done) | (simp; omega) | (dsimp only; omega)) _)))⟩
          case measure => go_light; simp [intOf]; omega
        · obtain rfl : k = 0 := by omega
          rw [Nat.add_zero] at f1 f2
          go_wp2_with fail
          refine wp_region_calm (by kernel_rfl) (by kernel_rfl) ?_
          repeat (first | (go_big_quiet_step ((fail))) | (refine wpQuiet_step (fun K hK => ?_); go_simp; first | (refine hK _ ?_; clear hK K) | (apply Exists.intro; refine ⟨fun _ => ?_, hK _ ?_⟩; (fail); clear hK K)))
          refine wpQuiet_nil ?_
          intro _ hw'
          obtain ⟨xq, hw''⟩ := hw'
          subst hw''
          go_wp2_with fail
          go_roundw
          case rel => go_light; exact ⟨1, by omega, by go_num, by (repeat (first | exact Below.refl _ _ | (with_reducible assumption) | (with_reducible refine bel_later ?_ _) | (with_reducible refine bel_alloc ?_ _) | (with_reducible refine bel_drew ?_) | (with_reducible refine bel_drewN ?_ _) | (with_reducible refine bel_set ?_ (by first | (simp; done) | (simp; omega) | (dsimp only; omega)) _)))⟩
          case measure => go_light; simp [intOf]; omega
      · have B3 : Below W.heap.size W wr := bel_below B2 hB
        obtain ⟨w4, hw4⟩ : ∃ w4 : World, w4 = wr := ⟨_, rfl⟩
        rw [← hw4] at hB B3
        have H4 := Lib.hid hB
        have BW := Lib.hid B3
        clear hB B3
        rw [← hw4]
        clear hw4
        go_wp2_with fail
        go_loopw [7, 8, 56] (fun _ _ i wr => ∃ k : Nat, k ≤ m ∧ i = .int .i64 k ∧ wr = w4) (fun _ _ i _ => m - (intOf i).toNat)
        case atStart => exact ⟨0, Nat.zero_le _, rfl, rfl⟩
        case round =>
          obtain ⟨k, hk, rfl, rfl⟩ := hrel
          by_cases hlt : k < m
          · obtain ⟨b1, o1, rfl, _, hb1, f1⟩ := hv.out.at k hlt _ BW.out
            obtain ⟨j, hj, ho, hx⟩ := owner_in hup.out (hmem.out k hlt)
            obtain ⟨b2, o2, rfl, _, hb2, f2⟩ := S1.out.at j hj _ (bel_below hB2 H4.out)
            have co := Lib.hid (owner_at S1.out hup.out hl4.out (bel_below hB2 H4.out) (nth l k))
            rw [ho] at co
            have g0 : (nth s j != nth l k) = false := by rw [hx]; simp
            clear hx ho
            go_wp2_with (go_at_call 37; refine co.out.mono ?_; rintro e w5 ⟨rfl, rfl⟩)
            go_roundw
            case rel => go_light; exact ⟨k + 1, by omega, by go_num, by first | trivial | rfl⟩
            case measure => go_light; simp [intOf]; omega
          · go_wp2_with (go_at_call 23; refine (aw_any _).mono ?_; rintro e w5 ⟨rfl, hb⟩)
            go_ret
            exact ⟨rfl, bel_below BW.out hb⟩

theorem cellsId : Try.prog.cellsOf 27 = 1 := by kernel_rfl
theorem ids_of_trod {H : Type} {enc : TypeId × Value → H} {W : World} {v : Value} {d : DataW H} {p : List MemPlace} {r : Reach} {b : Nat} (ok : Value.okWide Try.prog W r b 23 v) (h : DataW.Trod enc Try.prog W 0 (fun _ => true) true 23 v d p) :
    ∃ l : List Int, SlAt 0 (fun i => .int .u64 (nth l i)) l.length W v ∧ ∀ z ∈ l, isPlace z := by
  obtain ⟨a, l, c, rfl⟩ := okWide_slice Try.underlying23 ok
  obtain ⟨fuel, hf⟩ := h
  obtain ⟨l, hl, hw⟩ := ints_of_trod Try.underlying23 cellsId Try.underlying27 hf
  exact ⟨l, hl, fun z hz => place_of (hw z hz)⟩
theorem ringTwice_walk {H : Type} (enc : TypeId × Value → H) (W : World) (v0 : Value) (d0 : DataW H) (p0 : List MemPlace) {r0 : Reach} {b0 : Nat} (ok0 : Value.okWide Try.prog W r0 b0 23 v0) (h0 : DataW.Trod enc Try.prog W 0 (fun _ => true) true 23 v0 d0 p0)
    (hlt0 : ∀ x ∈ p0, x.block < W.heap.size) (sz0 : ∀ n ∈ d0.weights Try.prog 23, n ≤ reachBytes) :
    Calls Try.prog 14 #[v0] W fun e W' => e = .returned (.bool true) ∧ Below W.heap.size W W' := by
  obtain ⟨l, hl, _⟩ := ids_of_trod ok0 h0
  exact ringTwice_main W v0 l hl
end Go.Proofs.Ytcdgpfhllbdooaa
