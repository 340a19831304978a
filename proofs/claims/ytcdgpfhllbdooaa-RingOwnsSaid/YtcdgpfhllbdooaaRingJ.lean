
/-
  The reference's Owner; the law RingOwns: for all places, whatever the memory; no conditions.
-/
import Derived.Test.YtcdgpfhllbdooaaRingI
namespace Go.Proofs.Ytcdgpfhllbdooaa
open Go.RowKit Go.WideShapes Go.ChangeShapes
set_option linter.unusedVariables false
set_option linter.unusedSimpArgs false
attribute [local go_sem] later_cell later_frozen later_lt

/-- Which of the first k places is least far from x: -1: there is none. -/
def Best (s : List Int) (x : Int) (k : Nat) (b : Int) : Prop :=
  (k = 0 ∧ b = -1) ∨ ∃ j : Nat, j < k ∧ b = j ∧ (∀ i, i < j → dist x (nth s j) < dist x (nth s i)) ∧ ∀ i, i < k → dist x (nth s j) ≤ dist x (nth s i)
theorem best_first {s : List Int} {x : Int} {k : Nat} (h : Best s x k (-1)) : k = 0 := by
  rcases h with ⟨h, _⟩ | ⟨j, _, h, _⟩
  · exact h
  · omega
theorem best_start {s : List Int} {x : Int} {k : Nat} (h : k = 0) : Best s x (k + 1) k := by
  subst h
  refine Or.inr ⟨0, by omega, rfl, fun i hi => absurd hi (by omega), fun i hi => ?_⟩
  have : i = 0 := by omega
  subst this
  exact Int.le_refl _
theorem best_take {s : List Int} {x : Int} {k j : Nat} (h : Best s x k j) (hd : dist x (nth s k) < dist x (nth s j)) : Best s x (k + 1) k := by
  rcases h with ⟨_, h⟩ | ⟨j', h1, h2, h3, h4⟩
  · omega
  · have : j = j' := by omega
    subst this
    refine Or.inr ⟨k, by omega, rfl, fun i hi => ?_, fun i hi => ?_⟩
    · have := h4 i hi; omega
    · by_cases e : i = k
      · subst e; exact Int.le_refl _
      · have := h4 i (by omega); omega
theorem best_skip {s : List Int} {x : Int} {k j : Nat} (h : Best s x k j) (hd : ¬ dist x (nth s k) < dist x (nth s j)) : Best s x (k + 1) j := by
  rcases h with ⟨_, h⟩ | ⟨j', h1, h2, h3, h4⟩
  · omega
  · have : j = j' := by omega
    subst this
    refine Or.inr ⟨j, by omega, rfl, h3, fun i hi => ?_⟩
    by_cases e : i = k
    · subst e; omega
    · exact h4 i (by omega)
theorem best_all {s : List Int} (hs : Up s) (hp : ∀ z ∈ s, isPlace z) {x : Int} (hx : isPlace x) {b : Int} (h : Best s x s.length b) : b = ownerI s x := by
  rcases h with ⟨h, rfl⟩ | ⟨j, hj, rfl, h3, h4⟩
  · unfold ownerI; rw [if_pos h]
  · obtain ⟨i, hi, ho, hi2⟩ := ownerI_nat (s := s) (by omega) x
    rw [ho]
    have b := below_spec s hs x
    have hb := below_le s x
    have h1 := h4 i hi
    have hij : dist x (nth s i) ≤ dist x (nth s j) := by
      have pi := hp _ (nth_mem.2 ⟨i, hi, rfl⟩)
      have pj := hp _ (nth_mem.2 ⟨j, hj, rfl⟩)
      have bi := b i hi
      have bj := b j hj
      have hm : i ≤ j → nth s i ≤ nth s j := fun h => by
        rcases Nat.eq_or_lt_of_le h with rfl | h
        · exact Int.le_refl _
        · exact Int.le_of_lt (up_nth hs h hj)
      generalize hbe : below s x = c at *
      generalize nth s i = u at *
      generalize nth s j = v at *
      unfold dist isPlace at *
      split at hi2 <;> omega
    have hjj : ¬ i < j := fun h => by have := h3 i h; omega
    have hii : ¬ j < i := fun h => by
      have h5 := up_nth hs h hi
      have e : dist x (nth s i) = dist x (nth s j) := by omega
      have pi := hp _ (nth_mem.2 ⟨i, hi, rfl⟩)
      have pj := hp _ (nth_mem.2 ⟨j, hj, rfl⟩)
      generalize nth s i = u at *
      generalize nth s j = v at *
      unfold dist isPlace at *
      omega
    omega
theorem rowner_any (w : World) (v : Value) (s : List Int) (h : SlAt 0 (fun i => .int .u64 (nth s i)) s.length w v) (hl : s.length ≤ 1000) (hs : Up s) (hp : ∀ z ∈ s, isPlace z) (x : Int) (hx : isPlace x) :
    Calls Try.prog 38 #[v, .int .u64 x] w fun e w' => e = .returned (.int .i64 (ownerI s x)) ∧ Below w.heap.size w w' := by
  obtain ⟨a, cap, rfl, hc, hm⟩ := h.slice
  have hA := Lib.hid h
  have hbest := Lib.hid (fun b h => best_all hs hp hx (b := b) h)
  have hpl := Lib.hid (fun (k : Nat) (hk : k < s.length) => hp (nth s k) (nth_mem.2 ⟨k, hk, rfl⟩))
  clear h hs hp
  unfold maxLen at hm
  go_enter Try.func38, Try.ntmps38
  go_wp2_with fail
  go_loopw [5, 10] (fun b i wr => ∃ (k : Nat) (z : Int), k ≤ s.length ∧ i = .int .i64 k ∧ b = .int .i64 z ∧ Below w.heap.size w wr ∧ Hid (Best s x k z)) (fun _ i _ => s.length - (intOf i).toNat)
  case atStart => exact ⟨0, -1, Nat.zero_le _, rfl, rfl, Below.refl _ _, Or.inl ⟨rfl, rfl⟩⟩
  case round =>
    obtain ⟨k, z, hk, rfl, rfl, hB, hL⟩ := hrel
    by_cases hlt : k < s.length
    · obtain ⟨b, off, rfl, _, hb, hcell⟩ := hA.out.at k hlt wr hB
      rcases id hL.out with ⟨hk0, hz⟩ | ⟨j, hj, hz, _⟩
      · subst hz
        have TK := Lib.hid (best_start (s := s) (x := x) hk0)
        have hm1 : decide ((-1 : Int) < 0) = true := rfl
        clear hk0
        go_wp2_with fail
        refine wp_region_calm (by kernel_rfl) (by kernel_rfl) ?_
        repeat (first | (go_big_quiet_step ((fail))) | (refine wpQuiet_step (fun K hK => ?_); go_simp; first | (refine hK _ ?_; clear hK K) | (apply Exists.intro; refine ⟨fun _ => ?_, hK _ ?_⟩; (fail); clear hK K)))
        refine wpQuiet_nil ?_
        intro _ hw'
        obtain ⟨xq, hw''⟩ := hw'
        subst hw''
        go_wp2_with fail
        go_roundw
        case rel => go_light; exact ⟨k + 1, k, by omega, by go_num, rfl, by (repeat (first | exact Below.refl _ _ | (with_reducible assumption) | (with_reducible refine bel_later ?_ _) | (with_reducible refine bel_alloc ?_ _) | (with_reducible refine bel_drew ?_) | (with_reducible refine bel_drewN ?_ _) | (with_reducible refine bel_set ?_ (by first | (simp; done) | (simp; omega) | (dsimp only; omega)) _))), TK.out⟩
        case measure => go_light; simp [intOf]; omega
      · subst hz
        obtain ⟨b2, o2, e2, _, hb2, hc2⟩ := hA.out.at j (by omega) wr hB
        cases e2
        have hz0 : decide ((j : Int) < 0) = false := decide_eq_false (by omega)
        have hz1 : ¬ ((j : Int) < 0) := by omega
        have p1 := hpl.out k hlt
        have p2 := hpl.out j (by omega)
        by_cases hd : dist x (nth s k) < dist x (nth s j)
        · have TK := Lib.hid (best_take hL.out hd)
          have hd1 : decide (dist x (nth s k) < dist x (nth s j)) = true := decide_eq_true hd
          go_wp2_with fail
          refine wp_region_calm (by kernel_rfl) (by kernel_rfl) ?_
          repeat (first | (go_big_quiet_step (((go_at_call 26; exact calls_calm_same (rdist_any _ _ _ (by assumption) (by assumption)))))) | (refine wpQuiet_step (fun K hK => ?_); go_simp; first | (refine hK _ ?_; clear hK K) | (apply Exists.intro; refine ⟨fun _ => ?_, hK _ ?_⟩; ((go_at_call 26; exact calls_calm_same (rdist_any _ _ _ (by assumption) (by assumption)))); clear hK K)))
          refine wpQuiet_nil ?_
          intro _ hw'
          obtain ⟨xq, hw''⟩ := hw'
          subst hw''
          go_wp2_with fail
          go_roundw
          case rel => go_light; exact ⟨k + 1, k, by omega, by go_num, rfl, by (repeat (first | exact Below.refl _ _ | (with_reducible assumption) | (with_reducible refine bel_later ?_ _) | (with_reducible refine bel_alloc ?_ _) | (with_reducible refine bel_drew ?_) | (with_reducible refine bel_drewN ?_ _) | (with_reducible refine bel_set ?_ (by first | (simp; done) | (simp; omega) | (dsimp only; omega)) _))), TK.out⟩
          case measure => go_light; simp [intOf]; omega
        · have TK := Lib.hid (best_skip hL.out hd)
          go_wp2_with fail
          refine wp_region_calm (by kernel_rfl) (by kernel_rfl) ?_
          repeat (first | (go_big_quiet_step (((go_at_call 26; exact calls_calm_same (rdist_any _ _ _ (by assumption) (by assumption)))))) | (refine wpQuiet_step (fun K hK => ?_); go_simp; first | (refine hK _ ?_; clear hK K) | (apply Exists.intro; refine ⟨fun _ => ?_, hK _ ?_⟩; ((go_at_call 26; exact calls_calm_same (rdist_any _ _ _ (by assumption) (by assumption)))); clear hK K)))
          refine wpQuiet_nil ?_
          intro _ hw'
          obtain ⟨xq, hw''⟩ := hw'
          subst hw''
          go_wp2_with fail
          go_roundw
          case rel => go_light; exact ⟨k + 1, j, by omega, by go_num, rfl, by (repeat (first | exact Below.refl _ _ | (with_reducible assumption) | (with_reducible refine bel_later ?_ _) | (with_reducible refine bel_alloc ?_ _) | (with_reducible refine bel_drew ?_) | (with_reducible refine bel_drewN ?_ _) | (with_reducible refine bel_set ?_ (by first | (simp; done) | (simp; omega) | (dsimp only; omega)) _))), TK.out⟩
          case measure => go_light; simp [intOf]; omega
    · obtain rfl : k = s.length := by omega
      have E := Lib.hid (hbest.out z hL.out)
      go_wp2_with fail
      go_ret
      exact ⟨by rw [E.out]; first | done | rfl, hB⟩

set_option maxHeartbeats 4000000 in
theorem ringOwns_main (W : World) (v0 : Value) (l : List Int) (hv : SlAt 0 (fun i => .int .u64 (nth l i)) l.length W v0) (hpl0 : ∀ z ∈ l, isPlace z) (x : Int) (hx0 : isPlace x) :
    Calls Try.prog 12 #[v0, .int .u64 x] W fun e W' => e = .returned (.bool true) ∧ Below W.heap.size W W' := by
  obtain ⟨a0, cap0, rfl, hn, hm⟩ := hv.slice
  obtain ⟨n, m, hnm, hlm, hm40, hv, hcap, hpl⟩ : ∃ n m : Nat, (l.length = n) ∧ (m = if 60 < n then 60 else n) ∧ m ≤ 60 ∧ SlAt 0 (fun i => .int .u64 (nth (l.take m) i)) m W (.slice a0 m cap0) ∧ (l.take m).length = m ∧ ∀ z ∈ l.take m, isPlace z := by
    refine ⟨l.length, if 60 < l.length then 60 else l.length, rfl, rfl, by split <;> omega, ?_, ?_, fun z hz => hpl0 z (List.mem_of_mem_take hz)⟩
    · refine (hv.take (by split <;> omega)).congr fun i hi => by rw [nth_take hi]
    · rw [List.length_take]; split <;> omega
  rw [hnm] at hn ⊢
  clear hnm hpl0
  generalize l.take m = l at *
  have c1 := Lib.hid (sorted_any W (.slice a0 m cap0) l (by rw [hcap]; exact hv) (by omega))
  have hup := Lib.hid (setI_up l)
  have hsl := setI_len l
  have hpl := Lib.hid (fun z hz => hpl z ((mem_setI (l := l)).1 hz))
  have htk := Lib.hid (show l.take 60 = l from List.take_of_length_le (by omega))
  obtain ⟨s, hs⟩ : ∃ s, s = setI l := ⟨_, rfl⟩
  rw [← hs] at c1 hup hsl hpl
  have hs4 : s.length ≤ 60 := by omega
  have hl4 : Hid (s.length ≤ 4000000000) := show s.length ≤ 4000000000 by omega
  have hx := Lib.hid hx0
  have hsE := Lib.hid hs
  have hcap0 := Lib.hid hcap
  have hv0 := Lib.hid hv
  clear hs hsl hcap hx0 hv
  have hcap := hcap0
  have hv := hv0
  clear hcap0 hv0
  unfold maxLen at hm
  by_cases h40 : 60 < n
  · rw [if_pos h40] at hlm
    subst hlm
    go_enter Try.func12, Try.ntmps12
    go_wp2_with fail
    refine c1.out.mono ?_
    rintro e w1 ⟨v1, rfl, hs1, hB1⟩
    obtain ⟨a1, q1, rfl, hq1, hq1m⟩ := hs1.slice
    have S1 := Lib.hid hs1
    clear hs1
    go_wp2_with fail
    refine (ids_any w1 _ l 60 (by rw [hcap.out]; exact hv.out.below hB1) (by omega)).mono ?_
    rintro e w2 ⟨v2, rfl, hs2, hB2⟩
    go_wp2_with fail
    rw [htk.out] at hs2
    refine (rsort_any w2 _ l (hs2.base (Nat.zero_le _)) (by rw [hcap.out]; omega)).mono ?_
    rintro e w3 ⟨v3, rfl, hs3, hB3⟩
    rw [← hsE.out] at hs3
    obtain ⟨a3, q3, rfl, hq3, hq3m⟩ := hs3.slice
    have S3 := Lib.hid hs3
    have B3 : Below W.heap.size W w3 := bel_below (bel_below hB1 hB2) hB3
    have B13 : Below w1.heap.size w1 w3 := bel_below hB2 hB3
    clear hs3 hs2
    go_wp2_with (go_at_call 23; refine (aw_any _).mono ?_; rintro e w4 ⟨rfl, hB4⟩)
    go_loopw [7, 29] (fun _ i wr => ∃ k : Nat, k ≤ s.length ∧ i = .int .i64 k ∧ Below w3.heap.size w3 wr) (fun _ i _ => s.length - (intOf i).toNat)
    case atStart => exact ⟨0, Nat.zero_le _, rfl, hB4⟩
    case round =>
      obtain ⟨k, hk, rfl, hB⟩ := hrel
      by_cases hlt : k < s.length
      · obtain ⟨b1, o1, rfl, _, hb1, f1⟩ := S1.out.at k hlt wr (bel_below B13 hB)
        obtain ⟨b2, o2, rfl, _, hb2, f2⟩ := S3.out.at k hlt wr hB
        have g0 : (nth s k != nth s k) = false := by simp
        go_wp2_with fail
        refine wp_region_calm (by kernel_rfl) (by kernel_rfl) ?_
        repeat (first | (go_big_quiet_step ((fail))) | (refine wpQuiet_step (fun K hK => ?_); go_simp; first | (refine hK _ ?_; clear hK K) | (apply Exists.intro; refine ⟨fun _ => ?_, hK _ ?_⟩; (fail); clear hK K)))
        refine wpQuiet_nil ?_
        intro _ hw'
        obtain ⟨xq, hw''⟩ := hw'
        subst hw''
        go_wp2_with fail
        go_roundw
        case rel => go_light; exact ⟨k + 1, by omega, by go_num, by (repeat (first | exact Below.refl _ _ | (with_reducible assumption) | (with_reducible refine bel_later ?_ _) | (with_reducible refine bel_alloc ?_ _) | (with_reducible refine bel_drew ?_) | (with_reducible refine bel_drewN ?_ _) | (with_reducible refine bel_set ?_ (by first | (simp; done) | (simp; omega) | (dsimp only; omega)) _)))⟩
        case measure => go_light; simp [intOf]; omega
      · have g0 : (ownerI s x == ownerI s x) = true := by simp
        have co := Lib.hid (fun w' hb => owner_at (w := w') S1.out hup.out hl4.out hb x)
        have cr := Lib.hid (rowner_any wr _ s ((S3.out.base (Nat.zero_le _)).below hB) (by omega) hup.out hpl.out x hx.out)
        have B5 := bel_below B3 hB
        go_wp2_with (go_at_call 37; refine (co.out _ (bel_below B13 hB)).mono ?_; rintro e w5 ⟨rfl, rfl⟩)
        refine cr.out.mono ?_
        rintro e w6 ⟨rfl, hB6⟩
        go_wp2_with fail
        go_ret
        exact ⟨by first | rfl | simp, bel_below B5 hB6⟩
  · rw [if_neg h40] at hlm
    subst hlm
    go_enter Try.func12, Try.ntmps12
    go_wp2_with fail
    refine c1.out.mono ?_
    rintro e w1 ⟨v1, rfl, hs1, hB1⟩
    obtain ⟨a1, q1, rfl, hq1, hq1m⟩ := hs1.slice
    have S1 := Lib.hid hs1
    clear hs1
    go_wp2_with fail
    refine (ids_any w1 _ l 60 (by rw [hcap.out]; exact hv.out.below hB1) (by omega)).mono ?_
    rintro e w2 ⟨v2, rfl, hs2, hB2⟩
    go_wp2_with fail
    rw [htk.out] at hs2
    refine (rsort_any w2 _ l (hs2.base (Nat.zero_le _)) (by rw [hcap.out]; omega)).mono ?_
    rintro e w3 ⟨v3, rfl, hs3, hB3⟩
    rw [← hsE.out] at hs3
    obtain ⟨a3, q3, rfl, hq3, hq3m⟩ := hs3.slice
    have S3 := Lib.hid hs3
    have B3 : Below W.heap.size W w3 := bel_below (bel_below hB1 hB2) hB3
    have B13 : Below w1.heap.size w1 w3 := bel_below hB2 hB3
    clear hs3 hs2
    go_wp2_with (go_at_call 23; refine (aw_any _).mono ?_; rintro e w4 ⟨rfl, hB4⟩)
    go_loopw [7, 29] (fun _ i wr => ∃ k : Nat, k ≤ s.length ∧ i = .int .i64 k ∧ Below w3.heap.size w3 wr) (fun _ i _ => s.length - (intOf i).toNat)
    case atStart => exact ⟨0, Nat.zero_le _, rfl, hB4⟩
    case round =>
      obtain ⟨k, hk, rfl, hB⟩ := hrel
      by_cases hlt : k < s.length
      · obtain ⟨b1, o1, rfl, _, hb1, f1⟩ := S1.out.at k hlt wr (bel_below B13 hB)
        obtain ⟨b2, o2, rfl, _, hb2, f2⟩ := S3.out.at k hlt wr hB
        have g0 : (nth s k != nth s k) = false := by simp
        go_wp2_with fail
        refine wp_region_calm (by kernel_rfl) (by kernel_rfl) ?_
        repeat (first | (go_big_quiet_step ((fail))) | (refine wpQuiet_step (fun K hK => ?_); go_simp; first | (refine hK _ ?_; clear hK K) | (apply Exists.intro; refine ⟨fun _ => ?_, hK _ ?_⟩; (fail); clear hK K)))
        refine wpQuiet_nil ?_
        intro _ hw'
        obtain ⟨xq, hw''⟩ := hw'
        subst hw''
        go_wp2_with fail
        go_roundw
        case rel => go_light; exact ⟨k + 1, by omega, by go_num, by (repeat (first | exact Below.refl _ _ | (with_reducible assumption) | (with_reducible refine bel_later ?_ _) | (with_reducible refine bel_alloc ?_ _) | (with_reducible refine bel_drew ?_) | (with_reducible refine bel_drewN ?_ _) | (with_reducible refine bel_set ?_ (by first | (simp; done) | (simp; omega) | (dsimp only; omega)) _)))⟩
        case measure => go_light; simp [intOf]; omega
      · have g0 : (ownerI s x == ownerI s x) = true := by simp
        have co := Lib.hid (fun w' hb => owner_at (w := w') S1.out hup.out hl4.out hb x)
        have cr := Lib.hid (rowner_any wr _ s ((S3.out.base (Nat.zero_le _)).below hB) (by omega) hup.out hpl.out x hx.out)
        have B5 := bel_below B3 hB
        go_wp2_with (go_at_call 37; refine (co.out _ (bel_below B13 hB)).mono ?_; rintro e w5 ⟨rfl, rfl⟩)
        refine cr.out.mono ?_
        rintro e w6 ⟨rfl, hB6⟩
        go_wp2_with fail
        go_ret
        exact ⟨by first | rfl | simp, bel_below B5 hB6⟩
theorem ringOwns_walk {H : Type} (enc : TypeId × Value → H) (W : World) (v0 : Value) (d0 : DataW H) (p0 : List MemPlace) {r0 : Reach} {b0 : Nat} (ok0 : Value.okWide Try.prog W r0 b0 23 v0) (h0 : DataW.Trod enc Try.prog W 0 (fun _ => true) true 23 v0 d0 p0)
    (hlt0 : ∀ x ∈ p0, x.block < W.heap.size) (sz0 : ∀ n ∈ d0.weights Try.prog 23, n ≤ reachBytes) (x : Int) (hx : (Lit.int .u64 x).wf = true) :
    Calls Try.prog 12 #[v0, .int .u64 x] W fun e W' => e = .returned (.bool true) ∧ Below W.heap.size W W' := by
  obtain ⟨l, hl, hp⟩ := ids_of_trod ok0 h0
  exact ringOwns_main W v0 l hl hp x (place_of hx)
end Go.Proofs.Ytcdgpfhllbdooaa
