
/-
  The laws' own head and Reaches: from each member one comes to every base member.
-/
import Derived.Test.YthbijjpaljjapaaDoorChordS
namespace Go.Proofs.YthbijjpaljjapaaDoor
open Go.RowKit Go.Maps Go.Sort Go.WideShapes Go.ChangeShapes Go.Deep
set_option linter.unusedVariables false
set_option linter.unusedSimpArgs false
attribute [local go_sem] later_cell later_frozen later_lt cell_set_off cell_set_block

def hdR (f : RS) (n : Int) : Int := if livesR f n = true then headR f n else -1
theorem headL_none {f : RS} {l : List Int} (h : ∀ j, j < l.length → livesR f (nth l j) = false) : headL f l = -1 := by
  rcases headL_at f l with ⟨_, h2⟩ | ⟨k, hk, h1, h2⟩
  · exact h2
  · rcases headL_or f l with ⟨h3, _⟩ | ⟨h3, _⟩
    · rw [h2, h k hk] at h3; cases h3
    · exact h3
theorem headL_some {f : RS} {l : List Int} {k : Nat} (hk : k < l.length) (h : ∀ j, j < k → livesR f (nth l j) = false) (h1 : livesR f (nth l k) = true) : headL f l = nth l k := by
  have e := firstR_some hk h h1
  rcases headL_at f l with ⟨h2, _⟩ | ⟨j, hj, h2, h3⟩
  · omega
  · rw [h3]; congr 1; omega
variable {S : Nat → Prop} {w : World} {rb mb : Nat} {g : Int → Nat} {f : RS}
set_option maxRecDepth 100000 in
set_option maxHeartbeats 4000000 in
theorem hd_at (h : RAt S w rb mb g f) (n : Int) (hn : okInt n) : Calls Tryd.prog 31 #[.pointer (some ⟨rb, 0, none⟩), .int .i64 n] w fun e w' => e = .returned (.int .i64 (hdR f n)) ∧ RowKit.Below w.heap.size w w' := by
  have cp := Lib.hid (peer_at h n hn)
  have H := Lib.hid h
  unfold TellPost at cp
  unfold hdR
  cases hlv : livesR f n with
  | false =>
    rw [hlv] at cp
    clear h hlv
    go_enter Tryd.func31, Tryd.ntmps31
    go_wp2_with fail
    refine cp.out.mono ?_
    intro e w1 hq
    rw [if_neg (by decide)] at hq
    obtain ⟨v, rfl, ⟨b, rfl, _⟩, hB⟩ := hq
    go_wp2_with fail
    go_ret
    exact ⟨rfl, by (repeat (first | exact Below.refl _ _ | (with_reducible assumption) | (with_reducible refine bel_later ?_ _) | (with_reducible refine bel_alloc ?_ _) | (with_reducible refine bel_drew ?_) | (with_reducible refine bel_drewN ?_ _) | (with_reducible refine bel_set ?_ (by first | (simp; done) | (simp; omega) | (dsimp only; omega)) _)))⟩
  | true =>
    have hd := succR_dom h.dom n
    rw [hlv] at cp
    unfold headR
    obtain ⟨id, hid⟩ : ∃ z, z = idR f n := ⟨_, rfl⟩
    obtain ⟨pr, hpr⟩ : ∃ z, z = predR f n := ⟨_, rfl⟩
    obtain ⟨sl, hsl⟩ : ∃ z, z = succR f n := ⟨_, rfl⟩
    rw [← hid, ← hpr, ← hsl] at cp
    rw [← hsl] at hd ⊢
    have hl3 := hd.1
    have HD := Lib.hid hd.2
    clear hid hpr hsl hlv h hd
    go_enter Tryd.func31, Tryd.ntmps31
    go_wp2_with fail
    refine cp.out.mono ?_
    intro e w1 hq
    rw [if_pos trivial] at hq
    obtain ⟨v, rfl, hs, hB⟩ := hq
    obtain ⟨a1, q1, rfl, _⟩ := hs.slice
    have S1 := Lib.hid hs
    have B1 := Lib.hid hB
    clear hs hB
    go_wp2_with fail
    obtain ⟨w2, hw2⟩ : ∃ z, z = w1.alloc (.cells #[.int .u64 id, .int .i64 pr, .slice a1 sl.length q1] 51) := ⟨_, rfl⟩
    have B12 : Hid (RowKit.Below w1.heap.size w1 w2) := by rw [hw2]; exact bel_alloc (RowKit.Below.refl _ _) _
    rw [← hw2]
    clear hw2
    go_loopw [8, 20] (fun _ i wr => ∃ k : Nat, k ≤ sl.length ∧ i = .int .i64 k ∧ wr = w2 ∧ Hid (∀ j, j < k → livesR f (nth sl j) = false)) (fun _ i _ => sl.length - (intOf i).toNat)
    case atStart => exact ⟨0, Nat.zero_le _, rfl, rfl, fun j hj => absurd hj (by omega)⟩
    case round =>
      obtain ⟨k, hk, rfl, rfl, hno⟩ := hrel
      by_cases hlt : k < sl.length
      · obtain ⟨b, off, rfl, _, hb, hc⟩ := S1.out.at k hlt wr B12.out
        have hin := HD.out _ (nth_mem.2 ⟨k, hlt, rfl⟩)
        have cl := Lib.hid (lives_at (H.out.below (bel_below B1.out B12.out)) (nth sl k) (okInt_dom (by omega) (by omega)))
        cases hq : livesR f (nth sl k) with
        | true =>
          have hE := Lib.hid (headL_some hlt hno.out hq)
          rw [hq] at cl
          clear hq hin
          go_wp2_with fail
          refine cl.out.mono ?_
          rintro e w5 ⟨rfl, rfl⟩
          go_wp2_with fail
          go_ret
          exact ⟨by rw [hE.out]; first | done | rfl, bel_below B1.out B12.out⟩
        | false =>
          rw [hq] at cl
          have HQ := Lib.hid hq
          clear hq hin
          go_wp2_with fail
          refine cl.out.mono ?_
          rintro e w5 ⟨rfl, rfl⟩
          go_wp2_with fail
          go_roundw
          case rel =>
            go_light
            refine ⟨k + 1, by omega, by go_num, trivial, fun j hj => ?_⟩
            by_cases e : j = k
            · subst e; exact HQ.out
            · exact hno.out j (by omega)
          case measure => go_light; simp [intOf]; omega
      · obtain rfl : k = sl.length := by omega
        have hE := Lib.hid (headL_none hno.out)
        go_wp2_with fail
        go_ret
        exact ⟨by rw [hE.out]; first | done | rfl, bel_below B1.out B12.out⟩

/-! ### The way round -/
def it (f : RS) (n : Int) : Nat → Int
  | 0 => n
  | j + 1 => headR f (it f n j)
theorem it_shift (f : RS) (n : Int) : ∀ j, it f (headR f n) j = it f n (j + 1)
  | 0 => rfl
  | j + 1 => by show headR f (it f (headR f n) j) = headR f (it f n (j + 1)); rw [it_shift f n j]
theorem live_it {f : RS} (I : Inv f) {n : Int} (hn : livesR f n = true) : ∀ j, livesR f (it f n j) = true
  | 0 => hn
  | j + 1 => I.heads _ (live_it I hn j)
theorem hits {f : RS} (I : Inv f) {b : Int} (h0 : 0 ≤ b) (h4 : b < 4) : ∀ (m : Nat) (n : Int), livesR f n = true → nearer f (idR f b) n < m → ∃ j, j < m ∧ it f n j = b
  | 0, n, _, h => absurd h (by omega)
  | m + 1, n, hn, h => by
    by_cases e : n = b
    · exact ⟨0, by omega, e⟩
    · have P := place_id I.dom
      have hh := I.head hn
      have hne : idR f b ≠ idR f n := fun e2 => e (I.uniq n b hn (I.base b h0 h4) e2.symm)
      have := nearer_lt I.dom (t := idR f b) (x := n) hh.2 (step_near (P _) (P _) (P _) (I.head_ne hn) hne (hh.1 b h0 h4))
      obtain ⟨j, hj, e2⟩ := hits I h0 h4 m (headR f n) hh.2 (by omega)
      exact ⟨j + 1, by omega, by rw [← it_shift]; exact e2⟩
theorem hits33 {f : RS} (I : Inv f) {b : Int} (h0 : 0 ≤ b) (h4 : b < 4) {n : Int} (hn : livesR f n = true) : ∃ j, j < 33 ∧ it f n j = b :=
  hits I h0 h4 33 n hn (by have := nearer_le f (idR f b) n; omega)
theorem mask15 : ∀ s, s < 16 → s.testBit 0 = true → s.testBit 1 = true → s.testBit 2 = true → s.testBit 3 = true → s = 15 := by decide
theorem hdR_live {f : RS} {n : Int} (h : livesR f n = true) : hdR f n = headR f n := by unfold hdR; rw [if_pos h]
theorem or_pow : ∀ m, m < 16 → ∀ b, b < 4 → bits BinOp.or IntKind.i64 ((m : Nat) : Int) (wrap64 (2 ^ b)) = (((m ||| 1 <<< b : Nat)) : Int) := by decide +kernel
theorem or_lt : ∀ m, m < 16 → ∀ b, b < 4 → (m ||| 1 <<< b : Nat) < 16 := by decide
theorem or_bit : ∀ m, m < 16 → ∀ b, b < 4 → ∀ c, c < 4 → (m ||| 1 <<< b : Nat).testBit c = (m.testBit c || decide (b = c)) := by decide
set_option maxRecDepth 100000 in
set_option maxHeartbeats 4000000 in
theorem reach_at (h : RAt S w rb mb g f) (I : Inv f) (n : Int) (hl : livesR f n = true) : Calls Tryd.prog 12 #[.pointer (some ⟨rb, 0, none⟩), .int .i64 n] w fun e w' => e = .returned (.int .i64 0) ∧ RowKit.Below w.heap.size w w' := by
  have H := Lib.hid h
  have HI := Lib.hid I
  have HL := Lib.hid hl
  clear h I hl
  go_enter Tryd.func12, Tryd.ntmps12
  go_wp2_with fail
  go_loopw [1, 5, 6] (fun x s i wr => ∃ (k m : Nat), k ≤ 70 ∧ i = .int .i64 k ∧ x = .int .i64 (it f n k) ∧ s = .int .i64 m ∧ m < 16 ∧ Hid (RowKit.Below w.heap.size w wr) ∧ Hid (∀ j, j < k → ∀ b : Nat, b < 4 → it f n j = b → m.testBit b = true)) (fun _ _ i _ => 70 - (intOf i).toNat)
  case atStart => exact ⟨0, 0, by omega, rfl, rfl, rfl, by omega, RowKit.Below.refl _ _, fun j hj => absurd hj (by omega)⟩
  case round =>
    obtain ⟨k, m, hk, rfl, rfl, rfl, hm, hB, hv⟩ := hrel
    have hlx := live_it HI.out HL.out k
    have hdx := livesR_dom HI.out.dom hlx
    have hstep : Hid (hdR f (it f n k) = it f n (k + 1)) := hdR_live hlx
    obtain ⟨x, hx⟩ : ∃ x, x = it f n k := ⟨_, rfl⟩
    have HX := Lib.hid hx
    rw [← hx] at hdx hstep ⊢
    have ch := Lib.hid (hd_at (H.out.below hB.out) x (okInt_dom (by omega) (by omega)))
    rw [hstep.out] at ch
    clear hlx hx
    by_cases hlt : k < 70
    · by_cases h4 : x < 4
      · obtain ⟨b, rfl⟩ : ∃ b : Nat, x = b := ⟨x.toNat, by omega⟩
        have hb4 : b < 4 := by omega
        have hor := or_pow m hm b hb4
        have hl := or_lt m hm b hb4
        have hob := Lib.hid (or_bit m hm b hb4)
        obtain ⟨m2, hm2⟩ : ∃ m2, m2 = (m ||| 1 <<< b : Nat) := ⟨_, rfl⟩
        rw [← hm2] at hor hl hob
        clear hm2
        go_wp2_with fail
        refine ch.out.mono ?_
        rintro e w5 ⟨rfl, hB5⟩
        have B5 := Lib.hid (bel_below hB.out hB5)
        clear hB5
        go_wp2_with fail
        go_roundw
        case rel =>
          go_light
          refine ⟨k + 1, m2, by omega, by go_num, rfl, rfl, hl, B5.out, fun j hj c hc e => ?_⟩
          rw [hob.out c hc]
          by_cases ej : j = k
          · subst ej
            rw [← HX.out] at e
            have : b = c := by omega
            simp [this]
          · rw [hv.out j (by omega) c hc e]; rfl
        case measure => go_light; simp [intOf]; omega
      · have h0 : 0 ≤ x := hdx.1
        go_wp2_with fail
        refine ch.out.mono ?_
        rintro e w5 ⟨rfl, hB5⟩
        have B5 := Lib.hid (bel_below hB.out hB5)
        clear hB5
        go_wp2_with fail
        go_roundw
        case rel =>
          go_light
          refine ⟨k + 1, m, by omega, by go_num, rfl, rfl, hm, B5.out, fun j hj b hb e => ?_⟩
          by_cases ej : j = k
          · subst ej; rw [← HX.out] at e; omega
          · exact hv.out j (by omega) b hb e
        case measure => go_light; simp [intOf]; omega
    · obtain rfl : k = 70 := by omega
      have h15 : m = 15 := by
        have hb : ∀ b : Nat, b < 4 → m.testBit b = true := fun b hb => by
          obtain ⟨j, hj, e⟩ := hits33 HI.out (b := b) (by omega) (by omega) HL.out
          exact hv.out j (by omega) b hb e
        exact mask15 m hm (hb 0 (by omega)) (hb 1 (by omega)) (hb 2 (by omega)) (hb 3 (by omega))
      subst h15
      have h0 : 0 ≤ x := hdx.1
      go_wp2_with fail
      go_ret
      exact ⟨rfl, hB.out⟩
end Go.Proofs.YthbijjpaljjapaaDoor
