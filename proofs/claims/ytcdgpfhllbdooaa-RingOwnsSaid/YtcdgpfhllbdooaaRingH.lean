
/-
  The law RingParts: for all places, whatever the memory; no conditions.
-/
import Derived.Test.YtcdgpfhllbdooaaRingG
namespace Go.Proofs.Ytcdgpfhllbdooaa
open Go.RowKit Go.WideShapes Go.ChangeShapes
set_option linter.unusedVariables false
set_option linter.unusedSimpArgs false
attribute [local go_sem] later_cell later_frozen later_lt

/-- The place ahead of place k, round the circle. -/
def prevK (n k : Nat) : Nat := if k = 0 then n - 1 else k - 1
theorem prevK_lt {n k : Nat} (h : k < n) : prevK n k < n := by unfold prevK; split <;> omega
theorem below_spec (s : List Int) (hs : Up s) (x : Int) : ∀ k, k < s.length → (nth s k < x ↔ k < below s x) := by
  induction s with
  | nil => intro k hk; simp at hk
  | cons y s ih =>
    have hp := List.pairwise_cons.1 hs
    intro k hk
    unfold below at *
    by_cases hy : y < x
    · rw [List.countP_cons_of_pos (by simpa using hy)]
      cases k with
      | zero => rw [nth_zero]; simp [hy]
      | succ k => rw [nth_succ, ih hp.2 k (by simpa using hk)]; omega
    · rw [List.countP_cons_of_neg (by simpa using hy)]
      have h0 : s.countP (fun z => decide (z < x)) = 0 := by
        rw [List.countP_eq_zero]
        intro z hz
        have := hp.1 z hz
        simp; omega
      rw [h0]
      cases k with
      | zero => rw [nth_zero]; simp [hy]
      | succ k =>
        rw [nth_succ]
        have hk' : k < s.length := by simpa using hk
        have := hp.1 _ (nth_mem.2 ⟨k, hk', rfl⟩)
        constructor
        · intro h; omega
        · intro h; omega
theorem ownerI_nat {s : List Int} (h : 0 < s.length) (x : Int) : ∃ i : Nat, i < s.length ∧ ownerI s x = i ∧ (i = if below s x = s.length then 0 else below s x) := by
  have := below_le s x
  refine ⟨if below s x = s.length then 0 else below s x, by split <;> omega, ?_, rfl⟩
  unfold ownerI
  rw [if_neg (by omega)]
  split <;> simp
/-- A place lies behind the one ahead of its owner, and of no other. -/
theorem parts_in {s : List Int} (hs : Up s) (hp : ∀ z ∈ s, isPlace z) {x : Int} (hx : isPlace x) {i : Nat} (ho : ownerI s x = i) (k : Nat) (hk : k < s.length) :
    inB x (nth s (prevK s.length k)) (nth s k) = decide (k = i) := by
  obtain ⟨i', hi', ho', hi2⟩ := ownerI_nat (s := s) (by omega) x
  have hii : i = i' := by omega
  subst hii
  have b := below_spec s hs x
  have hb := below_le s x
  have pk := hp _ (nth_mem.2 ⟨k, hk, rfl⟩)
  have pp := hp _ (nth_mem.2 ⟨_, prevK_lt hk, rfl⟩)
  have bk := b k hk
  have bp := b _ (prevK_lt hk)
  generalize hj : below s x = j at *
  by_cases h0 : k = 0
  · subst h0
    have hp0 : prevK s.length 0 = s.length - 1 := rfl
    rw [hp0] at bp pp ⊢
    by_cases h1 : s.length = 1
    · rw [h1]
      have : i = 0 := by omega
      subst this
      simp [inB]
    · have hlt := up_nth hs (i := 0) (j := s.length - 1) (by omega) (by omega)
      generalize nth s 0 = u at *
      generalize nth s (s.length - 1) = v at *
      rw [Bool.eq_iff_iff]
      unfold inB dist isPlace at *
      simp only [Bool.or_eq_true, Bool.and_eq_true, beq_iff_eq, bne_iff_ne, decide_eq_true_eq, ne_eq]
      split at hi2 <;> omega
  · have hp0 : prevK s.length k = k - 1 := by unfold prevK; rw [if_neg h0]
    rw [hp0] at bp pp ⊢
    have hlt := up_nth hs (i := k - 1) (j := k) (by omega) hk
    generalize nth s k = u at *
    generalize nth s (k - 1) = v at *
    rw [Bool.eq_iff_iff]
    unfold inB dist isPlace at *
    simp only [Bool.or_eq_true, Bool.and_eq_true, beq_iff_eq, bne_iff_ne, decide_eq_true_eq, ne_eq]
    split at hi2 <;> omega

/-- How many of the first k places own x: none till the owner, one from there on. -/
def cntK (i k : Nat) : Nat := if i < k then 1 else 0
set_option maxHeartbeats 4000000 in
theorem ringParts_main (W : World) (v0 : Value) (l : List Int) (hv : SlAt 0 (fun i => .int .u64 (nth l i)) l.length W v0) (hpl0 : ∀ z ∈ l, isPlace z) (x : Int) (hx0 : isPlace x) :
    Calls Try.prog 13 #[v0, .int .u64 x] W fun e W' => e = .returned (.bool true) ∧ Below W.heap.size W W' := by
  obtain ⟨a0, cap0, rfl, hn, hm⟩ := hv.slice
  obtain ⟨n, m, hnm, hlm, hm40, hv, hcap, hpl⟩ : ∃ n m : Nat, (l.length = n) ∧ (m = if 40 < n then 40 else n) ∧ m ≤ 40 ∧ SlAt 0 (fun i => .int .u64 (nth (l.take m) i)) m W (.slice a0 m cap0) ∧ (l.take m).length = m ∧ ∀ z ∈ l.take m, isPlace z := by
    refine ⟨l.length, if 40 < l.length then 40 else l.length, rfl, rfl, by split <;> omega, ?_, ?_, fun z hz => hpl0 z (List.mem_of_mem_take hz)⟩
    · refine (hv.take (by split <;> omega)).congr fun i hi => by rw [nth_take hi]
    · rw [List.length_take]; split <;> omega
  rw [hnm] at hn ⊢
  clear hnm hpl0
  generalize l.take m = l at *
  have c1 := Lib.hid (sorted_any W (.slice a0 m cap0) l (by rw [hcap]; exact hv) (by omega))
  have hup := Lib.hid (setI_up l)
  have hsl := setI_len l
  have hpl := Lib.hid (fun z hz => hpl z ((mem_setI (l := l)).1 hz))
  obtain ⟨s, hs⟩ : ∃ s, s = setI l := ⟨_, rfl⟩
  rw [← hs] at c1 hup hsl hpl
  have hs4 : s.length ≤ 40 := by omega
  have hl4 : Hid (s.length ≤ 4000000000) := show s.length ≤ 4000000000 by omega
  have hx := Lib.hid hx0
  clear hv hs hsl hcap hx0
  unfold maxLen at hm
  by_cases h40 : 40 < n
  · rw [if_pos h40] at hlm
    subst hlm
    go_enter Try.func13, Try.ntmps13
    go_wp2_with fail
    refine c1.out.mono ?_
    rintro e w1 ⟨v1, rfl, hs1, hB1⟩
    obtain ⟨a1, q1, rfl, hq1, hq1m⟩ := hs1.slice
    have S1 := Lib.hid hs1
    clear hs1
    go_wp2_with fail
    refine (owner_at S1.out hup.out hl4.out (Below.refl _ _) x).mono ?_
    rintro e w2 ⟨rfl, rfl⟩
    by_cases h0 : s.length = 0
    · have h0b : ((s.length : Int) == 0) = true := by simp [h0]
      have ho0 : ownerI s x = -1 := by unfold ownerI; rw [if_pos h0]
      have ho1 : (ownerI s x == -1) = true := by rw [ho0]; rfl
      go_wp2_with (go_at_call 23; refine (aw_any _).mono ?_; rintro e w5 ⟨rfl, hb⟩)
      go_ret
      exact ⟨by first | rfl | simp [ho1], bel_below hB1 hb⟩
    · have h0b : ((s.length : Int) == 0) = false := by simp [h0]
      obtain ⟨i, hi, ho, hz⟩ := ownerI_nat (s := s) (by omega) x
      have hin := Lib.hid (fun k hk => parts_in hup.out hpl.out hx.out ho k hk)
      rw [ho]
      clear ho hz
      have hi1 : ¬ ((i : Int) < 0) := by omega
      have hi2 : ¬ ((s.length : Int) ≤ (i : Int)) := by omega
      go_wp2_with fail
      all_goals (try (exfalso; omega))
      obtain ⟨w0, hw0⟩ : ∃ w0 : World, w0 = w1 := ⟨_, rfl⟩
      go_loopw [7, 8, 37] (fun c _ j wr => ∃ k : Nat, k ≤ s.length ∧ j = .int .i64 k ∧ c = .int .i64 (cntK i k) ∧ Below w1.heap.size w1 wr) (fun _ _ j _ => s.length - (intOf j).toNat)
      case atStart => exact ⟨0, Nat.zero_le _, rfl, rfl, Below.refl _ _⟩
      case round =>
        obtain ⟨k, hk, rfl, rfl, hB⟩ := hrel
        by_cases hlt : k < s.length
        · have hpk := prevK_lt hlt
          have hidx : ((k : Int) + (s.length : Int) - 1) % (s.length : Int) = ((prevK s.length k : Nat) : Int) := by
            unfold prevK
            by_cases hk0 : k = 0
            · subst hk0; rw [if_pos rfl, show ((0 : Nat) : Int) + (s.length : Int) - 1 = ((s.length - 1 : Nat) : Int) by omega, ← Int.natCast_emod, Nat.mod_eq_of_lt (by omega)]
            · rw [if_neg hk0, show (k : Int) + (s.length : Int) - 1 = ((k - 1 + s.length : Nat) : Int) by omega, ← Int.natCast_emod, Nat.add_mod_right, Nat.mod_eq_of_lt (by omega)]
          obtain ⟨b1, o1, rfl, _, hb1, f1⟩ := S1.out.at k hlt wr hB
          obtain ⟨b2, o2, e2, _, hb2, f2⟩ := S1.out.at _ hpk wr hB
          cases e2
          have hq := hin.out k hlt
          generalize hpv : prevK s.length k = p at *
          by_cases hki : k = i
          · have g0 : inB x (nth s p) (nth s k) = true := by rw [hq]; simp [hki]
            clear hq
            subst hki
            have cE := Lib.hid (show cntK k (k + 1) = 1 by unfold cntK; rw [if_pos (by omega)])
            have c0 : cntK k k = 0 := by unfold cntK; rw [if_neg (by omega)]
            rw [c0]
            clear c0
            go_wp2_with fail
            refine wp_region_calm (by kernel_rfl) (by kernel_rfl) ?_
            repeat (first | (go_big_quiet_step ((go_at_call 25; exact calls_calm_same (in_any _ _ _ _)))) | (refine wpQuiet_step (fun K hK => ?_); go_simp; first | (refine hK _ ?_; clear hK K) | (apply Exists.intro; refine ⟨fun _ => ?_, hK _ ?_⟩; (go_at_call 25; exact calls_calm_same (in_any _ _ _ _)); clear hK K)))
            refine wpQuiet_nil ?_
            intro _ hw'
            obtain ⟨xq, hw''⟩ := hw'
            subst hw''
            rw [g0]
            go_wp2_with fail
            go_roundw
            case rel => go_light; exact ⟨k + 1, by omega, by go_num, by rw [cE.out]; first | rfl | go_num, by (repeat (first | exact Below.refl _ _ | (with_reducible assumption) | (with_reducible refine bel_later ?_ _) | (with_reducible refine bel_alloc ?_ _) | (with_reducible refine bel_drew ?_) | (with_reducible refine bel_drewN ?_ _) | (with_reducible refine bel_set ?_ (by first | (simp; done) | (simp; omega) | (dsimp only; omega)) _)))⟩
            case measure => go_light; simp [intOf]; omega
          · have g0 : inB x (nth s p) (nth s k) = false := by rw [hq]; simp [hki]
            have cE := Lib.hid (show cntK i k = cntK i (k + 1) by unfold cntK; split <;> split <;> omega)
            clear hq
            go_wp2_with fail
            refine wp_region_calm (by kernel_rfl) (by kernel_rfl) ?_
            repeat (first | (go_big_quiet_step ((go_at_call 25; exact calls_calm_same (in_any _ _ _ _)))) | (refine wpQuiet_step (fun K hK => ?_); go_simp; first | (refine hK _ ?_; clear hK K) | (apply Exists.intro; refine ⟨fun _ => ?_, hK _ ?_⟩; (go_at_call 25; exact calls_calm_same (in_any _ _ _ _)); clear hK K)))
            refine wpQuiet_nil ?_
            intro _ hw'
            obtain ⟨xq, hw''⟩ := hw'
            subst hw''
            rw [g0]
            go_wp2_with fail
            go_roundw
            case rel => go_light; exact ⟨k + 1, by omega, by go_num, by rw [← cE.out], by (repeat (first | exact Below.refl _ _ | (with_reducible assumption) | (with_reducible refine bel_later ?_ _) | (with_reducible refine bel_alloc ?_ _) | (with_reducible refine bel_drew ?_) | (with_reducible refine bel_drewN ?_ _) | (with_reducible refine bel_set ?_ (by first | (simp; done) | (simp; omega) | (dsimp only; omega)) _)))⟩
            case measure => go_light; simp [intOf]; omega
        · obtain rfl : k = s.length := by omega
          have c1 : cntK i s.length = 1 := by unfold cntK; rw [if_pos hi]
          rw [c1]
          have hpk := prevK_lt hi
          have hidx : ((i : Int) + (s.length : Int) - 1) % (s.length : Int) = ((prevK s.length i : Nat) : Int) := by
            unfold prevK
            by_cases hk0 : i = 0
            · subst hk0; rw [if_pos rfl, show ((0 : Nat) : Int) + (s.length : Int) - 1 = ((s.length - 1 : Nat) : Int) by omega, ← Int.natCast_emod, Nat.mod_eq_of_lt (by omega)]
            · rw [if_neg hk0, show (i : Int) + (s.length : Int) - 1 = ((i - 1 + s.length : Nat) : Int) by omega, ← Int.natCast_emod, Nat.add_mod_right, Nat.mod_eq_of_lt (by omega)]
          obtain ⟨b1, o1, rfl, _, hb1, f1⟩ := S1.out.at i hi wr hB
          obtain ⟨b2, o2, e2, _, hb2, f2⟩ := S1.out.at _ hpk wr hB
          cases e2
          have g0 : inB x (nth s (prevK s.length i)) (nth s i) = true := by rw [hin.out i hi]; simp
          generalize hpv : prevK s.length i = p at *
          go_wp2_with fail
          refine wp_region_calm (by kernel_rfl) (by kernel_rfl) ?_
          repeat (first | (go_big_quiet_step ((first | (go_at_call 25; exact calls_calm_same (in_any _ _ _ _)) | (go_at_call 23; exact calls_calm (aw_any _))))) | (refine wpQuiet_step (fun K hK => ?_); go_simp; first | (refine hK _ ?_; clear hK K) | (apply Exists.intro; refine ⟨fun _ => ?_, hK _ ?_⟩; (first | (go_at_call 25; exact calls_calm_same (in_any _ _ _ _)) | (go_at_call 23; exact calls_calm (aw_any _))); clear hK K)))
          refine wpQuiet_nil ?_
          intro _ hw'
          obtain ⟨xq, hw''⟩ := hw'
          subst hw''
          rw [g0]
          go_wp2_with fail
          go_ret
          exact ⟨rfl, bel_below hB1 (by (repeat (first | exact Below.refl _ _ | (with_reducible assumption) | (with_reducible refine bel_later ?_ _) | (with_reducible refine bel_alloc ?_ _) | (with_reducible refine bel_drew ?_) | (with_reducible refine bel_drewN ?_ _) | (with_reducible refine bel_set ?_ (by first | (simp; done) | (simp; omega) | (dsimp only; omega)) _))))⟩
  · rw [if_neg h40] at hlm
    subst hlm
    go_enter Try.func13, Try.ntmps13
    go_wp2_with fail
    refine c1.out.mono ?_
    rintro e w1 ⟨v1, rfl, hs1, hB1⟩
    obtain ⟨a1, q1, rfl, hq1, hq1m⟩ := hs1.slice
    have S1 := Lib.hid hs1
    clear hs1
    go_wp2_with fail
    refine (owner_at S1.out hup.out hl4.out (Below.refl _ _) x).mono ?_
    rintro e w2 ⟨rfl, rfl⟩
    by_cases h0 : s.length = 0
    · have h0b : ((s.length : Int) == 0) = true := by simp [h0]
      have ho0 : ownerI s x = -1 := by unfold ownerI; rw [if_pos h0]
      have ho1 : (ownerI s x == -1) = true := by rw [ho0]; rfl
      go_wp2_with (go_at_call 23; refine (aw_any _).mono ?_; rintro e w5 ⟨rfl, hb⟩)
      go_ret
      exact ⟨by first | rfl | simp [ho1], bel_below hB1 hb⟩
    · have h0b : ((s.length : Int) == 0) = false := by simp [h0]
      obtain ⟨i, hi, ho, hz⟩ := ownerI_nat (s := s) (by omega) x
      have hin := Lib.hid (fun k hk => parts_in hup.out hpl.out hx.out ho k hk)
      rw [ho]
      clear ho hz
      have hi1 : ¬ ((i : Int) < 0) := by omega
      have hi2 : ¬ ((s.length : Int) ≤ (i : Int)) := by omega
      go_wp2_with fail
      all_goals (try (exfalso; omega))
      obtain ⟨w0, hw0⟩ : ∃ w0 : World, w0 = w1 := ⟨_, rfl⟩
      go_loopw [7, 8, 37] (fun c _ j wr => ∃ k : Nat, k ≤ s.length ∧ j = .int .i64 k ∧ c = .int .i64 (cntK i k) ∧ Below w1.heap.size w1 wr) (fun _ _ j _ => s.length - (intOf j).toNat)
      case atStart => exact ⟨0, Nat.zero_le _, rfl, rfl, Below.refl _ _⟩
      case round =>
        obtain ⟨k, hk, rfl, rfl, hB⟩ := hrel
        by_cases hlt : k < s.length
        · have hpk := prevK_lt hlt
          have hidx : ((k : Int) + (s.length : Int) - 1) % (s.length : Int) = ((prevK s.length k : Nat) : Int) := by
            unfold prevK
            by_cases hk0 : k = 0
            · subst hk0; rw [if_pos rfl, show ((0 : Nat) : Int) + (s.length : Int) - 1 = ((s.length - 1 : Nat) : Int) by omega, ← Int.natCast_emod, Nat.mod_eq_of_lt (by omega)]
            · rw [if_neg hk0, show (k : Int) + (s.length : Int) - 1 = ((k - 1 + s.length : Nat) : Int) by omega, ← Int.natCast_emod, Nat.add_mod_right, Nat.mod_eq_of_lt (by omega)]
          obtain ⟨b1, o1, rfl, _, hb1, f1⟩ := S1.out.at k hlt wr hB
          obtain ⟨b2, o2, e2, _, hb2, f2⟩ := S1.out.at _ hpk wr hB
          cases e2
          have hq := hin.out k hlt
          generalize hpv : prevK s.length k = p at *
          by_cases hki : k = i
          · have g0 : inB x (nth s p) (nth s k) = true := by rw [hq]; simp [hki]
            clear hq
            subst hki
            have cE := Lib.hid (show cntK k (k + 1) = 1 by unfold cntK; rw [if_pos (by omega)])
            have c0 : cntK k k = 0 := by unfold cntK; rw [if_neg (by omega)]
            rw [c0]
            clear c0
            go_wp2_with fail
            refine wp_region_calm (by kernel_rfl) (by kernel_rfl) ?_
            repeat (first | (go_big_quiet_step ((go_at_call 25; exact calls_calm_same (in_any _ _ _ _)))) | (refine wpQuiet_step (fun K hK => ?_); go_simp; first | (refine hK _ ?_; clear hK K) | (apply Exists.intro; refine ⟨fun _ => ?_, hK _ ?_⟩; (go_at_call 25; exact calls_calm_same (in_any _ _ _ _)); clear hK K)))
            refine wpQuiet_nil ?_
            intro _ hw'
            obtain ⟨xq, hw''⟩ := hw'
            subst hw''
            rw [g0]
            go_wp2_with fail
            go_roundw
            case rel => go_light; exact ⟨k + 1, by omega, by go_num, by rw [cE.out]; first | rfl | go_num, by (repeat (first | exact Below.refl _ _ | (with_reducible assumption) | (with_reducible refine bel_later ?_ _) | (with_reducible refine bel_alloc ?_ _) | (with_reducible refine bel_drew ?_) | (with_reducible refine bel_drewN ?_ _) | (with_reducible refine bel_set ?_ (by first | (simp; done) | (simp; omega) | (dsimp only; omega)) _)))⟩
            case measure => go_light; simp [intOf]; omega
          · have g0 : inB x (nth s p) (nth s k) = false := by rw [hq]; simp [hki]
            have cE := Lib.hid (show cntK i k = cntK i (k + 1) by unfold cntK; split <;> split <;> omega)
            clear hq
            go_wp2_with fail
            refine wp_region_calm (by kernel_rfl) (by kernel_rfl) ?_
            repeat (first | (go_big_quiet_step ((go_at_call 25; exact calls_calm_same (in_any _ _ _ _)))) | (refine wpQuiet_step (fun K hK => ?_); go_simp; first | (refine hK _ ?_; clear hK K) | (apply Exists.intro; refine ⟨fun _ => ?_, hK _ ?_⟩; (go_at_call 25; exact calls_calm_same (in_any _ _ _ _)); clear hK K)))
            refine wpQuiet_nil ?_
            intro _ hw'
            obtain ⟨xq, hw''⟩ := hw'
            subst hw''
            rw [g0]
            go_wp2_with fail
            go_roundw
            case rel => go_light; exact ⟨k + 1, by omega, by go_num, by rw [← cE.out], by (repeat (first | exact Below.refl _ _ | (with_reducible assumption) | (with_reducible refine bel_later ?_ _) | (with_reducible refine bel_alloc ?_ _) | (with_reducible refine bel_drew ?_) | (with_reducible refine bel_drewN ?_ _) | (with_reducible refine bel_set ?_ (by first | (simp; done) | (simp; omega) | (dsimp only; omega)) _)))⟩
            case measure => go_light; simp [intOf]; omega
        · obtain rfl : k = s.length := by omega
          have c1 : cntK i s.length = 1 := by unfold cntK; rw [if_pos hi]
          rw [c1]
          have hpk := prevK_lt hi
          have hidx : ((i : Int) + (s.length : Int) - 1) % (s.length : Int) = ((prevK s.length i : Nat) : Int) := by
            unfold prevK
            by_cases hk0 : i = 0
            · subst hk0; rw [if_pos rfl, show ((0 : Nat) : Int) + (s.length : Int) - 1 = ((s.length - 1 : Nat) : Int) by omega, ← Int.natCast_emod, Nat.mod_eq_of_lt (by omega)]
            · rw [if_neg hk0, show (i : Int) + (s.length : Int) - 1 = ((i - 1 + s.length : Nat) : Int) by omega, ← Int.natCast_emod, Nat.add_mod_right, Nat.mod_eq_of_lt (by omega)]
          obtain ⟨b1, o1, rfl, _, hb1, f1⟩ := S1.out.at i hi wr hB
          obtain ⟨b2, o2, e2, _, hb2, f2⟩ := S1.out.at _ hpk wr hB
          cases e2
          have g0 : inB x (nth s (prevK s.length i)) (nth s i) = true := by rw [hin.out i hi]; simp
          generalize hpv : prevK s.length i = p at *
          go_wp2_with fail
          refine wp_region_calm (by kernel_rfl) (by kernel_rfl) ?_
          repeat (first | (go_big_quiet_step ((first | (go_at_call 25; exact calls_calm_same (in_any _ _ _ _)) | (go_at_call 23; exact calls_calm (aw_any _))))) | (refine wpQuiet_step (fun K hK => ?_); go_simp; first | (refine hK _ ?_; clear hK K) | (apply Exists.intro; refine ⟨fun _ => ?_, hK _ ?_⟩; (first | (go_at_call 25; exact calls_calm_same (in_any _ _ _ _)) | (go_at_call 23; exact calls_calm (aw_any _))); clear hK K)))
          refine wpQuiet_nil ?_
          intro _ hw'
          obtain ⟨xq, hw''⟩ := hw'
          subst hw''
          rw [g0]
          go_wp2_with fail
          go_ret
          exact ⟨rfl, bel_below hB1 (by (repeat (first | exact Below.refl _ _ | (with_reducible assumption) | (with_reducible refine bel_later ?_ _) | (with_reducible refine bel_alloc ?_ _) | (with_reducible refine bel_drew ?_) | (with_reducible refine bel_drewN ?_ _) | (with_reducible refine bel_set ?_ (by first | (simp; done) | (simp; omega) | (dsimp only; omega)) _))))⟩
theorem ringParts_walk {H : Type} (enc : TypeId × Value → H) (W : World) (v0 : Value) (d0 : DataW H) (p0 : List MemPlace) {r0 : Reach} {b0 : Nat} (ok0 : Value.okWide Try.prog W r0 b0 23 v0) (h0 : DataW.Trod enc Try.prog W 0 (fun _ => true) true 23 v0 d0 p0)
    (hlt0 : ∀ x ∈ p0, x.block < W.heap.size) (sz0 : ∀ n ∈ d0.weights Try.prog 23, n ≤ reachBytes) (x : Int) (hx : (Lit.int .u64 x).wf = true) :
    Calls Try.prog 13 #[v0, .int .u64 x] W fun e W' => e = .returned (.bool true) ∧ Below W.heap.size W W' := by
  obtain ⟨l, hl, hp⟩ := ids_of_trod ok0 h0
  exact ringParts_main W v0 l hl hp x (place_of hx)
end Go.Proofs.Ytcdgpfhllbdooaa
