
/-
  Circle.Owner, Circle.Finger, ideal.Rounds.
  wigwaglaw11's own answers that the document fixes (awake).
  IdealCalm walked: what is left is a law of the pure chord (Calm).
  Heads that are right: what one look does. No program is named here.
  Two rounds: heads are right for one rank more. No program is named here.
  When all heads are right: lists. No program is named here.
  The plain law of IdealCalm: 2 m + 4 rounds later each member knows what it should. No program is named here.
-/
import Derived.Test.YtahiahjhpakeiaaGreatDoorIdealD
import Derived.Test.YtahiahjhpakeiaaGreatDoorRingB
import Derived.Test.YtahiahjhpakeiaaGreatDoorChordQ
import Derived.Test.YtahiahjhpakeiaaGreatDoorChordS
import Derived.Test.YtahiahjhpakeiaaGreatDoorChordN

namespace Go.Proofs.YtahiahjhpakeiaaGreatDoor
open Go.RowKit Go.Maps Go.Sort
set_option linter.unusedVariables false
set_option linter.unusedSimpArgs false
attribute [local go_sem] later_cell later_frozen later_lt

theorem owner_sl (l : List Int) (hs : Up l) (x : Int) (v : Value) (w : World) (hl : l.length ≤ 4000000000) (hv : SlAt 0 (fun i => .int .u64 (nth l i)) l.length w v) :
    Calls Tryz.prog 74 #[v, .int .u64 x] w fun e w' => e = .returned (.int .i64 (ownerI l x)) ∧ w = w' := by
  rcases hv.parts with ⟨h0, a, cap, rfl, _⟩ | ⟨h0, b, off, cap, rfl, _, _, _, _, hc⟩
  · have := owner_any l hs x a cap w hl (fun i hi => by omega)
    rwa [h0] at this
  · exact owner_any l hs x _ cap w hl (fun i hi => ⟨b, off, rfl, hc i hi⟩)
/-- Who owns a place; -1: nobody. -/
def cOwner (c ids : List Int) (x : Int) : Int := if ownerI ids x < 0 then -1 else nth c (ownerI ids x).toNat
theorem ownerI_cases (l : List Int) (x : Int) : ownerI l x = -1 ∨ ∃ i : Nat, i < l.length ∧ ownerI l x = i := by
  have := below_le l x
  unfold ownerI
  split
  · exact Or.inl rfl
  · split
    · exact Or.inr ⟨0, by omega, rfl⟩
    · exact Or.inr ⟨below l x, by omega, rfl⟩
theorem cowner_at (w : World) (c ids : List Int) (av iv : Value) (hc : SlAt 0 (fun i => .int .i64 (nth c i)) c.length w av) (hi : SlAt 0 (fun i => .int .u64 (nth ids i)) ids.length w iv) (hci : ids.length = c.length) (hl : c.length ≤ 1000) (hu : Up ids) (x : Int) :
    Calls Tryz.prog 21 #[.agg #[av, iv], .int .u64 x] w fun e w' => e = .returned (.int .i64 (cOwner c ids x)) ∧ RowKit.Below w.heap.size w w' := by
  have CX := Lib.hid (fun wr (hb : RowKit.Below w.heap.size w wr) => owner_sl ids hu x iv wr (by omega) (hi.below hb))
  rcases ownerI_cases ids x with hx | ⟨i, hx1, hx⟩
  · have hE : Hid (cOwner c ids x = -1) := by show _ = _; unfold cOwner; rw [hx, if_pos (by decide)]
    rw [hx] at CX
    obtain ⟨aa, ac, rfl, _⟩ := hc.slice
    obtain ⟨ia, ic, rfl, _⟩ := hi.slice
    clear hc hi hx hu hci
    go_enter Tryz.func21, Tryz.ntmps21
    go_wp2_with fail
    refine (CX.out _ (by (repeat (first | exact Below.refl _ _ | (with_reducible assumption) | (with_reducible refine bel_later ?_ _) | (with_reducible refine bel_alloc ?_ _) | (with_reducible refine bel_drew ?_) | (with_reducible refine bel_drewN ?_ _) | (with_reducible refine bel_set ?_ (by first | (simp; done) | (simp; omega) | (dsimp only; omega)) _))))).mono ?_
    rintro e w1 ⟨rfl, rfl⟩
    go_wp2_with fail
    go_ret
    exact ⟨by rw [hE.out]; first | done | rfl, by (repeat (first | exact Below.refl _ _ | (with_reducible assumption) | (with_reducible refine bel_later ?_ _) | (with_reducible refine bel_alloc ?_ _) | (with_reducible refine bel_drew ?_) | (with_reducible refine bel_drewN ?_ _) | (with_reducible refine bel_set ?_ (by first | (simp; done) | (simp; omega) | (dsimp only; omega)) _)))⟩
  · have hE : Hid (cOwner c ids x = nth c i) := by show _ = _; unfold cOwner; rw [hx, if_neg (by omega)]; rfl
    rw [hx] at CX
    rw [hci] at hx1
    obtain ⟨aa, ac, rfl, _⟩ := hc.slice
    obtain ⟨b, off, rfl, _, hb, hcell⟩ := hc.at i hx1 w (RowKit.Below.refl _ _)
    obtain ⟨ia, ic, rfl, _⟩ := hi.slice
    have hz : Hid (∀ wr, RowKit.Below w.heap.size w wr → wr.cell? ⟨b, off + i, none⟩ = some (.int .i64 (nth c i)) ∧ b < wr.heap.size) := fun wr hB => ⟨(hB.cell (p := ⟨b, off + i, none⟩) hb).trans hcell, Nat.lt_of_lt_of_le hb hB.size⟩
    obtain ⟨n, hn⟩ : ∃ n, n = c.length := ⟨_, rfl⟩
    rw [hci] at CX ⊢
    rw [← hn] at hx1 CX hl ⊢
    clear hc hi hx hu hci hn
    go_enter Tryz.func21, Tryz.ntmps21
    go_wp2_with fail
    refine (CX.out _ (by (repeat (first | exact Below.refl _ _ | (with_reducible assumption) | (with_reducible refine bel_later ?_ _) | (with_reducible refine bel_alloc ?_ _) | (with_reducible refine bel_drew ?_) | (with_reducible refine bel_drewN ?_ _) | (with_reducible refine bel_set ?_ (by first | (simp; done) | (simp; omega) | (dsimp only; omega)) _))))).mono ?_
    rintro e w1 ⟨rfl, rfl⟩
    go_wp2_with fail
    go_ret
    exact ⟨by rw [hE.out]; first | done | rfl, by (repeat (first | exact Below.refl _ _ | (with_reducible assumption) | (with_reducible refine bel_later ?_ _) | (with_reducible refine bel_alloc ?_ _) | (with_reducible refine bel_drew ?_) | (with_reducible refine bel_drewN ?_ _) | (with_reducible refine bel_set ?_ (by first | (simp; done) | (simp; omega) | (dsimp only; omega)) _)))⟩
/-- Finger k of n; -1: none. -/
def cFinger (c ids : List Int) (n k : Int) : Int := if idxI c n < 0 ∨ k < 0 ∨ 63 < k then -1 else cOwner c ids ((nth ids (idxI c n).toNat + 2 ^ k.toNat) % 18446744073709551616)
end Go.Proofs.YtahiahjhpakeiaaGreatDoor
namespace Go.Proofs.YtahiahjhpakeiaaGreatDoor
open Go.RowKit Go.Maps Go.Sort
set_option linter.unusedVariables false
set_option linter.unusedSimpArgs false
attribute [local go_sem] later_cell later_frozen later_lt cell_set_off cell_set_block

theorem circ0 : circ F0 = [0, 1, 2, 3] ∧ [0, 1, 2, 3].map (idR F0) = ids0 ∧ isB F0 = true := by decide +kernel
theorem own0 : cOwner [0, 1, 2, 3] ids0 25 = 2 ∧ cOwner [0, 1, 2, 3] ids0 41 = 0 ∧ cFinger [0, 1, 2, 3] ids0 0 4 = 2 := by decide +kernel
end Go.Proofs.YtahiahjhpakeiaaGreatDoor
namespace Go.Proofs.YtahiahjhpakeiaaGreatDoor
open Go.RowKit Go.Maps Go.Sort Go.WideShapes Go.ChangeShapes Go.Deep
set_option linter.unusedVariables false
set_option linter.unusedSimpArgs false
attribute [local go_sem] later_cell later_frozen later_lt cell_set_off cell_set_block

/-- So many rounds. -/
def rn : Nat → RS → RS
  | 0, f => f
  | j + 1, f => roundR (rn j f)
theorem inv_rn {f : RS} (I : Inv f) (j : Nat) : Inv (rn j f) := by
  induction j with
  | zero => exact I
  | succ j ih => exact inv_round ih
theorem liveL_rn (f : RS) (j : Nat) : liveL (rn j f) = liveL f := by
  induction j with
  | zero => rfl
  | succ j ih => exact (liveL_congr fun k => (by rw [roundR_eq, lives_looks] : livesR (roundR (rn j f)) k = livesR (rn j f) k)).trans ih
/-- What is left to show of the chord. -/
def CalmLaw : Prop := ∀ f : RS, Inv f → ∀ j : Nat, 4 * (liveL f).length + 8 ≤ j → isB (rn j f) = true
end Go.Proofs.YtahiahjhpakeiaaGreatDoor
namespace Go.Proofs.YtahiahjhpakeiaaGreatDoor
set_option linter.unusedVariables false
set_option linter.unusedSimpArgs false

/-- The head is the very next one. -/
def Hr (f : RS) (n : Int) : Prop := ∀ y, livesR f y = true → withinB (idR f y) (idR f n) (idR f (headR f n)) = false
theorem headR_stab {f : RS} (I : Inv f) {n : Int} (hn : livesR f n = true) (j : Int) : headR (stabR f n) j = if j = n then stabT f n else headR f j := by
  unfold headR
  rw [headL_congr (livesR_stab f n), succR_stab]
  split
  · have := (stabT_facts I hn).1
    unfold followL
    simp only [List.take_succ_cons, headL, this, if_true]
  · rfl
theorem predR_stab (f : RS) (n j : Int) : predR (stabR f n) j = if j = stabT f n then rectR f (idR f (stabT f n)) (predR f (stabT f n)) n else predR f j := by
  unfold stabR
  rw [predR_set]
  split
  · rfl
  · unfold stab1
    rw [predR_set]
    split
    · rename_i h; rw [h]
    · rfl
theorem stabT_right {f : RS} {n : Int} (h : Hr f n) : stabT f n = headR f n := by
  unfold stabT
  split
  · rename_i h2
    unfold nearR at h2
    rw [Bool.and_eq_true, Bool.and_eq_true] at h2
    rw [h _ h2.1.2] at h2
    exact absurd h2.2 (by decide)
  · rfl
theorem mid_eq {p n h : Int} (pp : isPlace p) (pn : isPlace n) (ph : isPlace h) (hnh : n ≠ h) (h1 : withinB n p h = false) (h2 : withinB p n h = false) : p = n := by
  rw [within_no] at h1 h2
  have := h2.2 hnh
  unfold isPlace at *
  unfold dist at *
  by_cases e : p = h
  · exact absurd ((h1.1 e).trans e) hnh
  · have := h1.2 e
    omega
theorem rect_right {f : RS} (I : Inv f) {n : Int} (hn : livesR f n = true) (h : Hr f n) (hp : livesR f (predR f (headR f n)) = true → True) : rectR f (idR f (headR f n)) (predR f (headR f n)) n = n := by
  unfold rectR
  split
  · rfl
  · rename_i h2
    simp only [Bool.or_eq_true, not_or, Bool.not_eq_true, Bool.not_eq_false'] at h2
    have P := place_id I.dom
    exact I.uniq _ _ h2.1.2 hn (mid_eq (P _) (P n) (P (headR f n)) (I.head_ne hn) h2.2 (h _ h2.1.2))
theorem hr_keep {f : RS} (I : Inv f) {n k : Int} (hn : livesR f n = true) (h : Hr f k) : headR (stabR f n) k = headR f k ∧ Hr (stabR f n) k := by
  have e : headR (stabR f n) k = headR f k := by
    rw [headR_stab I hn]
    split
    · rename_i e; rw [e] at h ⊢; exact stabT_right h
    · rfl
  refine ⟨e, fun y hy => ?_⟩
  rw [livesR_stab] at hy
  rw [e, idR_stab, idR_stab, idR_stab]
  exact h y hy
/-- One's head knows one. -/
def Pr (f : RS) (k : Int) : Prop := predR f (headR f k) = k
theorem pr_made {f : RS} (I : Inv f) {n : Int} (hn : livesR f n = true) (h : Hr f n) : Pr (stabR f n) n := by
  unfold Pr
  rw [(hr_keep I hn h).1, predR_stab, stabT_right h, if_pos rfl]
  exact rect_right I hn h (fun _ => trivial)
theorem pr_keep {f : RS} (I : Inv f) {n k : Int} (hn : livesR f n = true) (hk : livesR f k = true) (h : Hr f k) (hp : Pr f k) : Pr (stabR f n) k := by
  unfold Pr at *
  rw [(hr_keep I hn h).1, predR_stab]
  split
  · rename_i e
    rw [← e, hp]
    unfold rectR
    have h1 : (k == -1) = false := by have := livesR_dom I.dom hk; simp; omega
    rw [h1, hk, h n hn]
    rfl
  · exact hp
theorem last_before {f : RS} (I : Inv f) {n h : Int} : ∀ (k : Nat) (y : Int), livesR f y = true → withinB (idR f y) (idR f n) (idR f h) = true → idR f n ≠ idR f h → (dist (idR f y) (idR f h)).toNat ≤ k →
    ∃ z, livesR f z = true ∧ withinB (idR f z) (idR f n) (idR f h) = true ∧ ∀ x, livesR f x = true → withinB (idR f x) (idR f z) (idR f h) = false
  | k, y, hy, hw, hne, hk => by
    by_cases hx : ∃ x, livesR f x = true ∧ withinB (idR f x) (idR f y) (idR f h) = true
    · obtain ⟨x, hx1, hx2⟩ := hx
      have P := place_id I.dom
      have py := P y
      have px := P x
      have pn := P n
      have ph := P h
      have key : withinB (idR f x) (idR f n) (idR f h) = true ∧ dist (idR f x) (idR f h) < dist (idR f y) (idR f h) ∧ 0 ≤ dist (idR f x) (idR f h) := by
        generalize idR f x = X at *
        generalize idR f y = Y at *
        generalize idR f n = N at *
        generalize idR f h = H at *
        rw [within_iff] at hw hx2 ⊢
        unfold isPlace at *
        unfold dist at *
        omega
      cases k with
      | zero => omega
      | succ k => exact last_before I k x hx1 key.1 hne (by omega)
    · refine ⟨y, hy, hw, fun x hx1 => ?_⟩
      cases e : withinB (idR f x) (idR f y) (idR f h)
      · rfl
      · exact absurd ⟨x, hx1, e⟩ hx
end Go.Proofs.YtahiahjhpakeiaaGreatDoor
namespace Go.Proofs.YtahiahjhpakeiaaGreatDoor
set_option linter.unusedVariables false
set_option linter.unusedSimpArgs false

/-- The head of k is right, or it lies at least r members ahead of the base b. -/
def S1 (f : RS) (b : Int) (r : Nat) (k : Int) : Prop := Hr f k ∨ r ≤ nearer f (idR f b) (headR f k)
def Sr (f : RS) (r : Nat) : Prop := ∀ k b, livesR f k = true → 0 ≤ b → b < 4 → NoSkip f k b → S1 f b r k
def Pp (f : RS) (r : Nat) : Prop := ∀ k b, livesR f k = true → 0 ≤ b → b < 4 → NoSkip f k b → nearer f (idR f b) k ≤ r + 1 → Pr f k
theorem nearer_stab (f : RS) (n t x : Int) : nearer (stabR f n) t x = nearer f t x := by
  unfold nearer
  rw [liveL_congr (livesR_stab f n)]
  simp only [idR_stab]
/-- On the way from n to the base: who is met first lies farther from the base. -/
theorem dist_mid {y n h b : Int} (py : isPlace y) (pn : isPlace n) (ph : isPlace h) (pb : isPlace b) (hnh : n ≠ h) (hnb : n ≠ b) (hy : withinB y n h = true) (hb : withinB b n h = false) :
    dist h b < dist y b ∧ dist y b < dist n b := by
  rw [within_iff] at hy
  rw [within_no] at hb
  have := hb.2 hnh
  unfold isPlace at *
  unfold dist at *
  omega
theorem dist_mid2 {y n h b : Int} (py : isPlace y) (pn : isPlace n) (ph : isPlace h) (pb : isPlace b) (hnh : n ≠ h) (hnb : n ≠ b) (hy : withinB y n h = true) (hb : withinB b n h = false) : withinB y n b = true := by
  rw [within_iff] at hy ⊢
  rw [within_no] at hb
  have := hb.2 hnh
  unfold isPlace at *
  unfold dist at *
  omega
theorem within_sub3 {q x s b : Int} (pq : isPlace q) (px : isPlace x) (ps : isPlace s) (pb : isPlace b) (hxs : x ≠ s) (h : withinB q x s = true) (hb : withinB b x s = false) : withinB b q s = false := within_sub2 pq px ps pb hxs h hb
section
variable {f : RS} (I : Inv f)
include I
theorem hr_rank {r : Nat} (hS : Sr f r) {k b : Int} (hk : livesR f k = true) (h0 : 0 ≤ b) (h4 : b < 4) (hn : NoSkip f k b) (he : nearer f (idR f b) k ≤ r + 1) : Hr f k := by
  rcases hS k b hk h0 h4 hn with h | h
  · exact h
  · intro y hy
    cases e : withinB (idR f y) (idR f k) (idR f (headR f k))
    · rfl
    · exfalso
      have P := place_id I.dom
      have := dist_mid (P y) (P k) (P _) (P b) (I.head_ne hk) (I.apart hn) e ((I.head hk).1 b h0 h4)
      have h1 := nearer_lt (x := y) (y := headR f k) (t := idR f b) I.dom (I.head hk).2 this.1
      have h2 := nearer_lt (x := k) (y := y) (t := idR f b) I.dom hy this.2
      omega
theorem s1_keep {r : Nat} {n k b : Int} (hn : livesR f n = true) (hk : livesR f k = true) (h0 : 0 ≤ b) (h4 : b < 4) (hs : NoSkip f k b) (h : S1 f b r k) : S1 (stabR f n) b r k := by
  rcases h with h | h
  · exact Or.inl (hr_keep I hn h).2
  · refine Or.inr ?_
    rw [nearer_stab, idR_stab, headR_stab I hn]
    split
    · rename_i e
      rw [e] at hs h hk
      obtain ⟨t1, t2, t3⟩ := stabT_facts I hn
      rcases t3 with t3 | t3
      · rw [t3]; exact h
      · have P := place_id I.dom
        have := dist_mid (P _) (P n) (P _) (P b) (I.head_ne hn) (I.apart hs) t3 ((I.head hn).1 b h0 h4)
        have h1 := nearer_lt (x := stabT f n) (y := headR f n) (t := idR f b) I.dom (I.head hn).2 this.1
        omega
    · exact h
theorem nearer_succ {z h t : Int} (hh : ∀ y, livesR f y = true → dist (idR f y) t < dist (idR f z) t → dist (idR f y) t < dist (idR f h) t ∨ y = h) : nearer f t z ≤ nearer f t h + 1 := by
  have key : ∀ l : List Int, l.Nodup → (∀ y ∈ l, livesR f y = true) → (l.countP fun y => decide (dist (idR f y) t < dist (idR f z) t)) ≤ (l.countP fun y => decide (dist (idR f y) t < dist (idR f h) t)) + (if h ∈ l then 1 else 0) := by
    intro l
    induction l with
    | nil => intro _ _; simp
    | cons x l ih =>
      intro hn hl
      have hn' := List.nodup_cons.1 hn
      have := ih hn'.2 fun y hy => hl y (List.mem_cons_of_mem _ hy)
      rw [List.countP_cons, List.countP_cons]
      by_cases e : x = h
      · subst e
        rw [if_neg hn'.1] at this
        have hm : (if x ∈ x :: l then 1 else 0) = 1 := if_pos (by simp)
        rw [hm]
        split <;> split <;> omega
      · have e2 : (h ∈ x :: l) = (h ∈ l) := by rw [List.mem_cons]; simp [Ne.symm e]
        simp only [e2]
        by_cases c : dist (idR f x) t < dist (idR f z) t
        · rcases hh x (hl x (by simp)) c with c2 | c2
          · rw [if_pos (by simpa using c), if_pos (by simpa using c2)]; omega
          · exact absurd c2 e
        · rw [if_neg (by simpa using c)]; omega
  have hnd : (liveL f).Nodup := List.Pairwise.filter _ (by decide)
  have := key (liveL f) hnd fun y hy => (mem_liveL I.dom).1 hy
  unfold nearer
  split at this <;> omega
theorem next_eq {z h k : Int} (hh : livesR f h = true) (hk : livesR f k = true) (e1 : idR f z ≠ idR f h) (e2 : idR f z ≠ idR f k) (h1 : withinB (idR f h) (idR f z) (idR f k) = false) (h2 : withinB (idR f k) (idR f z) (idR f h) = false) : h = k := by
  refine I.uniq h k hh hk ?_
  have P := place_id I.dom
  have ph := P h
  have pk := P k
  have pz := P z
  rw [within_no] at h1 h2
  have := h1.2 e2
  have := h2.2 e1
  unfold isPlace at *
  unfold dist at *
  omega
theorem s1_made {r : Nat} (hS : Sr f r) (hP : Pp f r) {n b : Int} (hn : livesR f n = true) (h0 : 0 ≤ b) (h4 : b < 4) (hs : NoSkip f n b) : S1 (stabR f n) b (r + 1) n := by
  by_cases hr : Hr f n
  · exact Or.inl (hr_keep I hn hr).2
  · rcases hS n b hn h0 h4 hs with h | h
    · exact absurd h hr
    · by_cases h2 : r + 1 ≤ nearer f (idR f b) (headR f n)
      · exact s1_keep I hn hn h0 h4 hs (Or.inr h2)
      · have P := place_id I.dom
        have hh := I.head hn
        have hne := I.head_ne hn
        obtain ⟨y, hy1, hy2⟩ : ∃ y, livesR f y = true ∧ withinB (idR f y) (idR f n) (idR f (headR f n)) = true := by
          refine Classical.byContradiction fun hc => hr fun y hy => ?_
          cases e : withinB (idR f y) (idR f n) (idR f (headR f n))
          · rfl
          · exact absurd ⟨y, hy, e⟩ hc
        obtain ⟨z, z1, z2, z3⟩ := last_before I _ y hy1 hy2 hne (Nat.le_refl _)
        have hbn := hh.1 b h0 h4
        have hnb := I.apart hs
        have dz := dist_mid (P z) (P n) (P _) (P b) hne hnb z2 hbn
        have wz := dist_mid2 (P z) (P n) (P _) (P b) hne hnb z2 hbn
        have nz : NoSkip f z b := fun c c0 c4 => within_sub2 (P z) (P n) (P b) (P c) hnb wz (hs c c0 c4)
        have ez1 := nearer_lt (x := z) (y := headR f n) (t := idR f b) I.dom hh.2 dz.1
        have zh : idR f z ≠ idR f (headR f n) := fun e => by rw [e] at dz; omega
        have ez2 : nearer f (idR f b) z ≤ nearer f (idR f b) (headR f n) + 1 := nearer_succ I fun x hx hd => by
          by_cases e : x = headR f n
          · exact Or.inr e
          · refine Or.inl ?_
            have hid : idR f x ≠ idR f (headR f n) := fun e2 => e (I.uniq _ _ hx hh.2 e2)
            have w := z3 x hx
            have px := P x
            have pz := P z
            have ph := P (headR f n)
            have pb := P b
            generalize idR f x = X at *
            generalize idR f z = Z at *
            generalize idR f (headR f n) = H at *
            generalize idR f b = B at *
            rw [within_no] at w
            have := w.2 zh
            unfold isPlace at *
            unfold dist at *
            omega
        have hz := hr_rank I hS z1 h0 h4 nz (by omega)
        have pz := hP z b z1 h0 h4 nz (by omega)
        have hd : headR f z = headR f n := (next_eq I hh.2 (I.head z1).2 zh (I.head_ne z1) (hz _ hh.2) (z3 _ (I.head z1).2)).symm
        unfold Pr at pz
        rw [hd] at pz
        have ht : stabT f n = z := by
          unfold stabT
          rw [pz]
          have : nearR f z (idR f n) (headR f n) = true := by
            unfold nearR
            have h1 : (z != -1) = true := by have := livesR_dom I.dom z1; simp; omega
            rw [h1, z1, z2]; rfl
          rw [if_pos this]
        refine Or.inr ?_
        rw [nearer_stab, idR_stab, headR_stab I hn, if_pos rfl, ht]
        omega
end
theorem sr_keep {f : RS} (I : Inv f) {r : Nat} {n : Int} (hn : livesR f n = true) (h : Sr f r) : Sr (stabR f n) r := fun k b hk h0 h4 hs => by
  rw [livesR_stab] at hk
  have hs' : NoSkip f k b := noSkip_congr (fun j => (idR_stab f n j).symm) k b hs
  exact s1_keep I hn hk h0 h4 hs' (h k b hk h0 h4 hs')
theorem pp_keep {f : RS} (I : Inv f) {r : Nat} {n : Int} (hn : livesR f n = true) (h : Sr f r) (hp : Pp f r) : Pp (stabR f n) r := fun k b hk h0 h4 hs he => by
  rw [livesR_stab] at hk
  have hs' : NoSkip f k b := noSkip_congr (fun j => (idR_stab f n j).symm) k b hs
  rw [nearer_stab, idR_stab] at he
  exact pr_keep I hn hk (hr_rank I h hk h0 h4 hs' he) (hp k b hk h0 h4 hs' he)
/-! ### Rounds -/
theorem looks_sr {r : Nat} : ∀ {l : List Int} {f : RS}, Inv f → (∀ x ∈ l, livesR f x = true) → Sr f r → Sr (looksR f l) r
  | [], f, I, hl, h => h
  | n :: l, f, I, hl, h => looks_sr (f := stabR f n) (inv_stab I (hl n (by simp))) (fun x hx => by rw [livesR_stab]; exact hl x (List.mem_cons_of_mem _ hx)) (sr_keep I (hl n (by simp)) h)
theorem looks_hr {k : Int} : ∀ {l : List Int} {f : RS}, Inv f → (∀ x ∈ l, livesR f x = true) → Hr f k → headR (looksR f l) k = headR f k ∧ Hr (looksR f l) k
  | [], f, I, hl, h => ⟨rfl, h⟩
  | n :: l, f, I, hl, h => by
    have h1 := hr_keep I (hl n (by simp)) h
    have h2 := looks_hr (l := l) (f := stabR f n) (inv_stab I (hl n (by simp))) (fun x hx => by rw [livesR_stab]; exact hl x (List.mem_cons_of_mem _ hx)) h1.2
    exact ⟨h2.1.trans h1.1, h2.2⟩
theorem looks_pr_keep {k : Int} : ∀ {l : List Int} {f : RS}, Inv f → (∀ x ∈ l, livesR f x = true) → livesR f k = true → Hr f k → Pr f k → Pr (looksR f l) k
  | [], f, I, hl, hk, h, hp => hp
  | n :: l, f, I, hl, hk, h, hp => looks_pr_keep (l := l) (f := stabR f n) (inv_stab I (hl n (by simp))) (fun x hx => by rw [livesR_stab]; exact hl x (List.mem_cons_of_mem _ hx)) (by rw [livesR_stab]; exact hk) (hr_keep I (hl n (by simp)) h).2 (pr_keep I (hl n (by simp)) hk h hp)
theorem looks_pr {k : Int} : ∀ {l : List Int} {f : RS}, Inv f → (∀ x ∈ l, livesR f x = true) → k ∈ l → Hr f k → Pr (looksR f l) k
  | n :: l, f, I, hl, hk, h => by
    have hn := hl n (by simp)
    have hl' : ∀ x ∈ l, livesR (stabR f n) x = true := fun x hx => by rw [livesR_stab]; exact hl x (List.mem_cons_of_mem _ hx)
    by_cases e : k = n
    · subst e
      exact looks_pr_keep (l := l) (f := stabR f k) (inv_stab I hn) hl' (by rw [livesR_stab]; exact hn) (hr_keep I hn h).2 (pr_made I hn h)
    · rcases List.mem_cons.1 hk with h2 | h2
      · exact absurd h2 e
      · exact looks_pr (l := l) (f := stabR f n) (inv_stab I hn) hl' h2 (hr_keep I hn h).2
theorem looks_s1_keep {r : Nat} {k b : Int} (h0 : 0 ≤ b) (h4 : b < 4) : ∀ {l : List Int} {f : RS}, Inv f → (∀ x ∈ l, livesR f x = true) → livesR f k = true → NoSkip f k b → S1 f b r k → S1 (looksR f l) b r k
  | [], f, I, hl, hk, hs, h => h
  | n :: l, f, I, hl, hk, hs, h => looks_s1_keep h0 h4 (l := l) (f := stabR f n) (inv_stab I (hl n (by simp))) (fun x hx => by rw [livesR_stab]; exact hl x (List.mem_cons_of_mem _ hx)) (by rw [livesR_stab]; exact hk) (noSkip_congr (idR_stab f n) k b hs) (s1_keep I (hl n (by simp)) hk h0 h4 hs h)
theorem looks_s1 {r : Nat} {k b : Int} (h0 : 0 ≤ b) (h4 : b < 4) : ∀ {l : List Int} {f : RS}, Inv f → (∀ x ∈ l, livesR f x = true) → k ∈ l → NoSkip f k b → Sr f r → Pp f r → S1 (looksR f l) b (r + 1) k
  | n :: l, f, I, hl, hk, hs, hS, hP => by
    have hn := hl n (by simp)
    have hl' : ∀ x ∈ l, livesR (stabR f n) x = true := fun x hx => by rw [livesR_stab]; exact hl x (List.mem_cons_of_mem _ hx)
    have hs' := noSkip_congr (idR_stab f n) k b hs
    by_cases e : k = n
    · subst e
      exact looks_s1_keep h0 h4 (l := l) (f := stabR f k) (inv_stab I hn) hl' (by rw [livesR_stab]; exact hn) hs' (s1_made I hS hP hn h0 h4 hs)
    · rcases List.mem_cons.1 hk with h2 | h2
      · exact absurd h2 e
      · exact looks_s1 h0 h4 (l := l) (f := stabR f n) (inv_stab I hn) hl' h2 hs' (sr_keep I hn hS) (pp_keep I hn hS hP)
theorem two_rounds {f : RS} (I : Inv f) {r : Nat} (h : Sr f r) : Sr (roundR (roundR f)) (r + 1) := by
  have I1 := inv_round I
  have hl1 : ∀ x ∈ liveL f, livesR f x = true := fun x hx => (mem_liveL I.dom).1 hx
  have hl2 : ∀ x ∈ liveL (roundR f), livesR (roundR f) x = true := fun x hx => (mem_liveL I1.dom).1 hx
  have S2 : Sr (roundR f) r := looks_sr I hl1 h
  have P2 : Pp (roundR f) r := fun k b hk h0 h4 hs he => by
    rw [roundR_eq, lives_looks] at hk
    have hs' : NoSkip f k b := noSkip_congr (fun j => by rw [roundR_eq, id_looks]) k b hs
    have he' : nearer f (idR f b) k ≤ r + 1 := by
      have e : nearer (roundR f) (idR (roundR f) b) k = nearer f (idR f b) k := by
        unfold nearer
        rw [roundR_eq, liveL_congr (lives_looks f (liveL f))]
        simp only [id_looks]
      rwa [e] at he
    exact looks_pr I hl1 ((mem_liveL I.dom).2 hk) (hr_rank I h hk h0 h4 hs' he')
  intro k b hk h0 h4 hs
  rw [roundR_eq, lives_looks] at hk
  have hs' : NoSkip (roundR f) k b := noSkip_congr (fun j => by rw [roundR_eq (roundR f), id_looks]) k b hs
  exact looks_s1 h0 h4 I1 hl2 ((mem_liveL I1.dom).2 hk) hs' S2 P2
theorem sr_zero (f : RS) : Sr f 0 := fun k b _ _ _ _ => Or.inr (Nat.zero_le _)
end Go.Proofs.YtahiahjhpakeiaaGreatDoor
namespace Go.Proofs.YtahiahjhpakeiaaGreatDoor
set_option linter.unusedVariables false
set_option linter.unusedSimpArgs false

theorem next_base {f : RS} (I : Inv f) {n : Int} : ∀ (k : Nat) (b : Int), 0 ≤ b → b < 4 → idR f b ≠ idR f n → (dist (idR f n) (idR f b)).toNat ≤ k → ∃ c, 0 ≤ c ∧ c < 4 ∧ NoSkip f n c
  | k, b, h0, h4, hne, hk => by
    by_cases hx : ∃ c, 0 ≤ c ∧ c < 4 ∧ withinB (idR f c) (idR f n) (idR f b) = true
    · obtain ⟨c, c0, c4, hc⟩ := hx
      rw [within_iff] at hc
      have h1 : idR f c ≠ idR f n ∧ dist (idR f n) (idR f c) < dist (idR f n) (idR f b) := by
        rcases hc with h | h
        · exact absurd h.1.symm hne
        · exact h.2
      have h2 : 0 ≤ dist (idR f n) (idR f c) := by unfold dist; omega
      cases k with
      | zero => omega
      | succ k => exact next_base I k c c0 c4 h1.1 (by omega)
    · refine ⟨b, h0, h4, fun c c0 c4 => ?_⟩
      cases e : withinB (idR f c) (idR f n) (idR f b)
      · rfl
      · exact absurd ⟨c, c0, c4, e⟩ hx
theorem has_base {f : RS} (I : Inv f) (n : Int) : ∃ c, 0 ≤ c ∧ c < 4 ∧ NoSkip f n c := by
  by_cases h : idR f 0 = idR f n
  · exact next_base I _ 1 (by omega) (by omega) (fun e => I.bases (b := 0) (c := 1) (by omega) (by omega) (by omega) (h.trans e.symm)) (Nat.le_refl _)
  · exact next_base I _ 0 (by omega) (by omega) h (Nat.le_refl _)
def AllHr (f : RS) : Prop := ∀ k, livesR f k = true → Hr f k
def AllPr (f : RS) : Prop := ∀ k, livesR f k = true → Pr f k
theorem sr_all {f : RS} (I : Inv f) {r : Nat} (h : Sr f r) (hr : (liveL f).length ≤ r) : AllHr f := fun k hk => by
  obtain ⟨b, h0, h4, hs⟩ := has_base I k
  refine hr_rank I h hk h0 h4 hs (Nat.le_trans ?_ (Nat.le_succ r))
  exact Nat.le_trans List.countP_le_length hr
theorem all_hr_stab {f : RS} (I : Inv f) {n : Int} (hn : livesR f n = true) (h : AllHr f) : AllHr (stabR f n) := fun k hk => by
  rw [livesR_stab] at hk
  exact (hr_keep I hn (h k hk)).2
/-- Who comes next, j of them. -/
def chain (h : Int → Int) : Int → Nat → List Int
  | _, 0 => []
  | k, j + 1 => h k :: chain h (h k) j
def Lj (f : RS) (h : Int → Int) (j : Nat) (k : Int) : Prop := (succR f k).take j = chain h k j
theorem chain_take (h : Int → Int) : ∀ (j : Nat) (k : Int), (chain h k (j + 1)).take j = chain h k j
  | 0, k => rfl
  | j + 1, k => by
    show (h k :: chain h (h k) (j + 1)).take (j + 1) = h k :: chain h (h k) j
    rw [List.take_succ_cons, chain_take h j (h k)]
theorem lj_less {f : RS} {h : Int → Int} {j : Nat} {k : Int} (hl : Lj f h (j + 1) k) : Lj f h j k := by
  unfold Lj at *
  rw [← chain_take, ← hl, List.take_take]
  congr 1; omega
theorem lj_stab {f : RS} (I : Inv f) {h : Int → Int} (hH : ∀ k, livesR f k = true → headR f k = h k) {j : Nat} (hj : j ≤ 2) {n : Int} (hn : livesR f n = true) (hA : AllHr f) (hL : ∀ k, livesR f k = true → Lj f h j k) : Lj (stabR f n) h (j + 1) n := by
  unfold Lj
  rw [succR_stab, if_pos rfl, stabT_right (hA n hn), hH n hn]
  unfold followL
  rw [List.take_take, show min (j + 1) 3 = j + 1 by omega, List.take_succ_cons]
  show _ = h n :: chain h (h n) j
  have hl := (I.head hn).2
  rw [hH n hn] at hl
  rw [hL (h n) hl]
theorem lj_other {f : RS} {h : Int → Int} {j : Nat} {n k : Int} (hk : k ≠ n) (hL : Lj f h j k) : Lj (stabR f n) h j k := by
  unfold Lj at *
  rw [succR_stab, if_neg hk]; exact hL
theorem looks_lj {h : Int → Int} {j : Nat} (hj : j ≤ 2) : ∀ {l : List Int} {f : RS}, Inv f → (∀ x ∈ l, livesR f x = true) → (∀ k, livesR f k = true → headR f k = h k) → AllHr f → (∀ k, livesR f k = true → Lj f h j k) →
    ∀ k, livesR f k = true → (k ∈ l ∨ Lj f h (j + 1) k) → Lj (looksR f l) h (j + 1) k
  | [], f, I, hl, hH, hA, hL, k, hk, hc => by
    rcases hc with h | h
    · simp at h
    · exact h
  | n :: l, f, I, hl, hH, hA, hL, k, hk, hc => by
    have hn := hl n (by simp)
    have hmade := lj_stab I hH hj hn hA hL
    refine looks_lj hj (l := l) (f := stabR f n) (inv_stab I hn) (fun x hx => by rw [livesR_stab]; exact hl x (List.mem_cons_of_mem _ hx)) (fun k hk => ?_) (all_hr_stab I hn hA) (fun k hk => ?_) k (by rw [livesR_stab]; exact hk) ?_
    · rw [livesR_stab] at hk
      rw [(hr_keep I hn (hA k hk)).1]; exact hH k hk
    · rw [livesR_stab] at hk
      by_cases e : k = n
      · rw [e]; exact lj_less hmade
      · exact lj_other e (hL k hk)
    · by_cases e : k = n
      · rw [e]; exact Or.inr hmade
      · rcases hc with h2 | h2
        · rcases List.mem_cons.1 h2 with h3 | h3
          · exact absurd h3 e
          · exact Or.inl h3
        · exact Or.inr (lj_other e h2)
/-- All know their heads, their heads know them, and j in the lists are right. -/
structure Done (f : RS) (h : Int → Int) (j : Nat) : Prop where
  hr : AllHr f
  hd : ∀ k, livesR f k = true → headR f k = h k
  ls : ∀ k, livesR f k = true → Lj f h j k
theorem round_hr {f : RS} (I : Inv f) (hA : AllHr f) : AllHr (roundR f) ∧ AllPr (roundR f) ∧ ∀ k, livesR f k = true → headR (roundR f) k = headR f k := by
  have hl1 : ∀ x ∈ liveL f, livesR f x = true := fun x hx => (mem_liveL I.dom).1 hx
  refine ⟨fun k hk => ?_, fun k hk => ?_, fun k hk => (looks_hr I hl1 (hA k hk)).1⟩
  · rw [roundR_eq, lives_looks] at hk; exact (looks_hr I hl1 (hA k hk)).2
  · rw [roundR_eq, lives_looks] at hk; exact looks_pr I hl1 ((mem_liveL I.dom).2 hk) (hA k hk)
theorem round_done {f : RS} (I : Inv f) {h : Int → Int} {j : Nat} (hj : j ≤ 2) (D : Done f h j) : Done (roundR f) h (j + 1) where
  hr := (round_hr I D.hr).1
  hd := fun k hk => by
    rw [roundR_eq, lives_looks] at hk
    rw [(round_hr I D.hr).2.2 k hk]; exact D.hd k hk
  ls := fun k hk => by
    rw [roundR_eq, lives_looks] at hk
    exact looks_lj hj I (fun x hx => (mem_liveL I.dom).1 hx) D.hd D.hr D.ls k hk (Or.inl ((mem_liveL I.dom).2 hk))
theorem Done.less {f : RS} {h : Int → Int} {j : Nat} (D : Done f h (j + 1)) : Done f h j := ⟨D.hr, D.hd, fun k hk => lj_less (D.ls k hk)⟩
end Go.Proofs.YtahiahjhpakeiaaGreatDoor
namespace Go.Proofs.YtahiahjhpakeiaaGreatDoor
open Go.RowKit Go.Maps Go.Sort Go.WideShapes Go.ChangeShapes Go.Deep
set_option linter.unusedVariables false
set_option linter.unusedSimpArgs false

theorem live4 {f : RS} (I : Inv f) : 4 ≤ (liveL f).length := by
  have e : (List.range 32).map Int.ofNat = [0, 1, 2, 3] ++ ((List.range 32).map Int.ofNat).drop 4 := by decide
  have h : ([0, 1, 2, 3] : List Int).filter (livesR f) = [0, 1, 2, 3] := by
    simp [List.filter_cons, I.base 0 (by omega) (by omega), I.base 1 (by omega) (by omega), I.base 2 (by omega) (by omega), I.base 3 (by omega) (by omega)]
  unfold liveL
  rw [e, List.filter_append, h, List.length_append]
  simp
theorem circ_mono {f : RS} (I : Inv f) {a b : Nat} (h : a < b) (hb : b < (circ f).length) : idR f (nth (circ f) a) < idR f (nth (circ f) b) := by
  have := List.pairwise_iff_getElem.1 (circ_up I) a b (by simpa using (by omega : a < (circ f).length)) (by simpa using hb) h
  rw [nth_eq hb, nth_eq (show a < (circ f).length by omega)]
  simpa using this
theorem head_next {f : RS} (I : Inv f) (hA : AllHr f) {i : Nat} (hi : i < (circ f).length) : headR f (nth (circ f) i) = nth (circ f) ((i + 1) % (circ f).length) := by
  have h4 : 4 ≤ (circ f).length := by rw [circ_len]; exact live4 I
  obtain ⟨k, hk⟩ : ∃ k, k = (i + 1) % (circ f).length := ⟨_, rfl⟩
  have hkl : k < (circ f).length := by rw [hk]; exact Nat.mod_lt _ (by omega)
  rw [← hk]
  have lz : livesR f (nth (circ f) i) = true := (circ_mem I).1 (nth_mem.2 ⟨i, hi, rfl⟩)
  have lk : livesR f (nth (circ f) k) = true := (circ_mem I).1 (nth_mem.2 ⟨k, hkl, rfl⟩)
  have hh := I.head lz
  obtain ⟨t, ht, hte⟩ := nth_mem.1 ((circ_mem I).2 hh.2)
  have hcase : (i + 1 < (circ f).length ∧ k = i + 1) ∨ (i + 1 = (circ f).length ∧ k = 0) := by
    rcases Nat.lt_or_ge (i + 1) (circ f).length with h | h
    · exact Or.inl ⟨h, by rw [hk, Nat.mod_eq_of_lt h]⟩
    · have : i + 1 = (circ f).length := by omega
      exact Or.inr ⟨this, by rw [hk, this, Nat.mod_self]⟩
  have M := fun a b h hb => circ_mono (f := f) I (a := a) (b := b) h hb
  have hzk : idR f (nth (circ f) i) ≠ idR f (nth (circ f) k) := by
    rcases hcase with h | h
    · have := M i k (by omega) hkl; omega
    · have := M k i (by omega) hi; omega
  refine next_eq I hh.2 lk (I.head_ne lz) hzk ?_ (hA _ lz _ lk)
  have P := place_id I.dom
  have pz := P (nth (circ f) i)
  have pk := P (nth (circ f) k)
  have pt := P (nth (circ f) t)
  have c1 : t < i → idR f (nth (circ f) t) < idR f (nth (circ f) i) := fun h => M t i h hi
  have c2 : k < t → idR f (nth (circ f) k) < idR f (nth (circ f) t) := fun h => M k t h ht
  have c3 : i < t → idR f (nth (circ f) i) < idR f (nth (circ f) t) := fun h => M i t h ht
  have c4 : i < k → idR f (nth (circ f) i) < idR f (nth (circ f) k) := fun h => M i k h hkl
  have c5 : k < i → idR f (nth (circ f) k) < idR f (nth (circ f) i) := fun h => M k i h hi
  have e1 : t = i → idR f (nth (circ f) t) = idR f (nth (circ f) i) := fun h => by rw [h]
  have e2 : t = k → idR f (nth (circ f) t) = idR f (nth (circ f) k) := fun h => by rw [h]
  rw [← hte]
  generalize idR f (nth (circ f) t) = T at *
  generalize idR f (nth (circ f) i) = Z at *
  generalize idR f (nth (circ f) k) = K at *
  rw [within_no]
  refine ⟨fun e => absurd e hzk, fun _ => ?_⟩
  unfold isPlace at *
  unfold dist
  rcases Nat.lt_trichotomy t i with h | h | h <;> rcases Nat.lt_trichotomy t k with h' | h' | h' <;> rcases hcase with hc | hc <;> simp only [h, h', true_implies, forall_const] at * <;> omega
theorem head_cAt {f : RS} (I : Inv f) (hA : AllHr f) (x : Int) : headR f (cAt (circ f) x) = cAt (circ f) (x + 1) ∧ livesR f (cAt (circ f) x) = true := by
  have h4 : 4 ≤ (circ f).length := by rw [circ_len]; exact live4 I
  obtain ⟨i, hi⟩ : ∃ i : Nat, x % ((circ f).length : Int) = i := ⟨(x % ((circ f).length : Int)).toNat, by have := Int.emod_nonneg x (show ((circ f).length : Int) ≠ 0 by omega); omega⟩
  have hil : i < (circ f).length := by have := Int.emod_lt_of_pos x (show (0 : Int) < ((circ f).length : Int) by omega); omega
  have e1 : cAt (circ f) x = nth (circ f) i := by unfold cAt; rw [hi]; rfl
  have e2 : cAt (circ f) (x + 1) = nth (circ f) ((i + 1) % (circ f).length) := by
    unfold cAt
    rw [← Int.emod_add_emod, hi]
    congr 1
  rw [e1, e2]
  exact ⟨head_next I hA hil, (circ_mem I).1 (nth_mem.2 ⟨i, hil, rfl⟩)⟩
theorem is_done {f : RS} (I : Inv f) (hA : AllHr f) (hP : AllPr f) (hL : ∀ k, livesR f k = true → Lj f (headR f) 3 k) : isB f = true := by
  have h4 : 4 ≤ (circ f).length := by rw [circ_len]; exact live4 I
  unfold isB
  rw [List.all_eq_true]
  intro n hn
  have hge := idxI_mem hn
  rcases idxI_cases (circ f) n with hx | ⟨i, hi, hx, hxn⟩
  · omega
  · unfold okN
    rw [hx]
    have hn' : cAt (circ f) (i : Int) = n := by
      unfold cAt
      rw [Int.emod_eq_of_lt (by omega) (by omega)]; exact hxn
    have ln : livesR f n = true := (circ_mem I).1 hn
    have e1 : nth ((circ f).map (idR f)) (i : Int).toNat = idR f n := by
      rw [nth_eq (by simpa using hi), List.getElem_map]
      rw [← hxn, nth_eq hi]; rfl
    have e2 : predR f n = cAt (circ f) ((i : Int) - 1) := by
      have h1 := head_cAt I hA ((i : Int) - 1)
      have h2 := hP _ h1.2
      unfold Pr at h2
      rw [h1.1, show (i : Int) - 1 + 1 = i by omega, hn'] at h2
      exact h2
    have e3 : succR f n = cSuc (circ f) i (cNum (circ f)) := by
      have hlen := (succR_dom I.dom n).1
      have h1 := hL n ln
      unfold Lj at h1
      rw [List.take_of_length_le hlen] at h1
      have hc : cNum (circ f) = 3 := by unfold cNum; omega
      have a0 := (head_cAt I hA (i : Int)).1
      have a1 := (head_cAt I hA ((i : Int) + 1)).1
      have a2 := (head_cAt I hA ((i : Int) + 1 + 1)).1
      rw [hn'] at a0
      rw [h1, hc]
      show [headR f n, headR f (headR f n), headR f (headR f (headR f n))] = [cAt (circ f) (i + 1 + ((0 : Nat) : Int)), cAt (circ f) (i + 1 + ((1 : Nat) : Int)), cAt (circ f) (i + 1 + ((2 : Nat) : Int))]
      rw [a0, a1, a2]
      simp [Int.add_assoc]
    rw [e1, ← e2, ← e3]
    unfold sameK
    simp [sameI]
theorem rn_sr {f : RS} (I : Inv f) : ∀ r : Nat, Sr (rn (2 * r) f) r
  | 0 => sr_zero f
  | r + 1 => by
    have := two_rounds (inv_rn I (2 * r)) (rn_sr I r)
    exact this
theorem rn_hr {f : RS} (I : Inv f) (d : Nat) : AllHr (rn (2 * (liveL f).length + d) f) := by
  induction d with
  | zero => exact sr_all (inv_rn I _) (rn_sr I (liveL f).length) (by rw [Nat.add_zero, liveL_rn]; exact Nat.le_refl _)
  | succ d ih => exact (round_hr (inv_rn I _) ih).1
theorem rn_pr {f : RS} (I : Inv f) (d : Nat) : AllPr (rn (2 * (liveL f).length + (d + 1)) f) := (round_hr (inv_rn I _) (rn_hr I d)).2.1
theorem lives_rn (f : RS) (j : Nat) (k : Int) : livesR (rn j f) k = livesR f k := by
  induction j with
  | zero => rfl
  | succ j ih => show livesR (roundR (rn j f)) k = _; rw [roundR_eq, lives_looks, ih]
theorem rn_done {f : RS} (I : Inv f) : ∀ j, j ≤ 3 → ∀ d, Done (rn (2 * (liveL f).length + (j + d)) f) (headR (rn (2 * (liveL f).length) f)) j
  | 0, _, d => by
    have hH : ∀ d k, livesR f k = true → headR (rn (2 * (liveL f).length + d) f) k = headR (rn (2 * (liveL f).length) f) k := by
      intro d k hk
      induction d with
      | zero => rfl
      | succ d ih =>
        rw [← ih]
        exact (round_hr (inv_rn I _) (rn_hr I d)).2.2 k (by rw [lives_rn]; exact hk)
    refine ⟨rn_hr I _, fun k hk => ?_, fun k hk => rfl⟩
    rw [lives_rn] at hk
    exact hH _ k hk
  | j + 1, hj, d => by
    have := round_done (inv_rn I _) (by omega) (rn_done I j (by omega) d)
    rwa [show 2 * (liveL f).length + (j + 1 + d) = 2 * (liveL f).length + (j + d) + 1 by omega]
theorem calmLaw : CalmLaw := fun f I j hj => by
  obtain ⟨d, hd⟩ : ∃ d, j = 2 * (liveL f).length + (3 + (d + 1)) := ⟨j - 2 * (liveL f).length - 4, by omega⟩
  have D := rn_done I 3 (by omega) (d + 1)
  have hp := rn_pr I (3 + d)
  rw [show 3 + d + 1 = 3 + (d + 1) by omega, ← hd] at hp
  rw [← hd] at D
  have hI := inv_rn I j
  refine is_done hI D.hr hp fun k hk => ?_
  have key : ∀ (n : Nat) (x : Int), livesR (rn j f) x = true → chain (headR (rn (2 * (liveL f).length) f)) x n = chain (headR (rn j f)) x n := by
    intro n
    induction n with
    | zero => intro x _; rfl
    | succ n ih =>
      intro x hx
      unfold chain
      rw [← D.hd x hx, ih _ (hI.head hx).2]
  have := D.ls k hk
  unfold Lj at this ⊢
  rw [this, key 3 k hk]
end Go.Proofs.YtahiahjhpakeiaaGreatDoor
