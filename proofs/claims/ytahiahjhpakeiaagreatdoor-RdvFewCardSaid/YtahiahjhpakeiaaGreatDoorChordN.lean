/-
  Nobody skips a base member: what always holds of the members, whatever calls there were. No program is named here.
-/
import Derived.Test.YtahiahjhpakeiaaGreatDoorChordK
namespace Go.Proofs.YtahiahjhpakeiaaGreatDoor
set_option linter.unusedVariables false
set_option linter.unusedSimpArgs false

/-! ### Places -/
theorem within_iff {x a b : Int} : withinB x a b = true ↔ a = b ∧ x ≠ a ∨ a ≠ b ∧ x ≠ a ∧ dist a x < dist a b := by
  unfold withinB
  by_cases h : a = b
  · simp [h]
  · simp [h]
theorem within_no {x a b : Int} : withinB x a b = false ↔ (a = b → x = a) ∧ (a ≠ b → x = a ∨ dist a b ≤ dist a x) := by
  rw [← Bool.not_eq_true, within_iff]
  constructor
  · intro h
    refine ⟨fun e => ?_, fun e => ?_⟩
    · exact Decidable.byContradiction fun hx => h (Or.inl ⟨e, hx⟩)
    · by_cases hx : x = a
      · exact Or.inl hx
      · refine Or.inr ?_
        by_cases h1 : dist a x < dist a b
        · exact absurd (Or.inr ⟨e, hx, h1⟩) h
        · omega
  · rintro ⟨h1, h2⟩ (⟨e, hx⟩ | ⟨e, hx, hd⟩)
    · exact hx (h1 e)
    · rcases h2 e with h | h
      · exact hx h
      · omega
theorem skip_trans {X Y Z b b0 b1 : Int} (pX : isPlace X) (pY : isPlace Y) (pZ : isPlace Z) (pb : isPlace b) (p0 : isPlace b0) (p1 : isPlace b1) (h01 : b0 ≠ b1)
    (y0 : b0 ≠ Y) (y1 : b1 ≠ Y) (yb : b ≠ Y) (n0 : withinB b0 X Y = false) (n1 : withinB b1 X Y = false) (nb : withinB b X Y = false)
    (m0 : withinB b0 Y Z = false) (m1 : withinB b1 Y Z = false) (mb : withinB b Y Z = false) : withinB b X Z = false := by
  rw [within_no] at *
  unfold isPlace at *
  unfold dist at *
  by_cases hXY : X = Y
  · have := n0.1 hXY; have := n1.1 hXY; omega
  · have a0 := n0.2 hXY
    have a1 := n1.2 hXY
    have ab := nb.2 hXY
    by_cases hYZ : Y = Z
    · have := m0.1 hYZ; have := m1.1 hYZ; omega
    · have c0 := m0.2 hYZ
      have c1 := m1.2 hYZ
      have cb := mb.2 hYZ
      clear n0 n1 nb m0 m1 mb
      refine ⟨fun e => ?_, fun e => ?_⟩ <;> omega
/-- A step that doesn't skip a place comes nearer to it. -/
theorem step_near {X H t : Int} (pX : isPlace X) (pH : isPlace H) (pt : isPlace t) (hXH : X ≠ H) (htX : t ≠ X) (h : withinB t X H = false) : dist H t < dist X t := by
  have := (within_no.1 h).2 hXH
  unfold isPlace at *
  unfold dist at *
  omega

/-! ### Chains -/
def Ch (R : Int → Int → Prop) : Int → List Int → Prop
  | _, [] => True
  | x, y :: l => R x y ∧ Ch R y l
theorem Ch.take {R : Int → Int → Prop} : ∀ {x : Int} {l : List Int} (n : Nat), Ch R x l → Ch R x (l.take n)
  | _, [], n, _ => by simp [Ch]
  | _, _ :: _, 0, _ => trivial
  | _, _ :: _, n + 1, h => ⟨h.1, h.2.take n⟩
theorem Ch.imp {R R' : Int → Int → Prop} (h : ∀ x y, R x y → R' x y) : ∀ {x : Int} {l : List Int}, Ch R x l → Ch R' x l
  | _, [], _ => trivial
  | _, _ :: _, hc => ⟨h _ _ hc.1, hc.2.imp h⟩
/-- One that goes is left out. -/
theorem Ch.drop {R : Int → Int → Prop} {y : Int} (ht : ∀ a c, R a y → R y c → R a c) : ∀ {l : List Int} {x : Int}, (Ch R x l → Ch R x (l.filter (· != y))) ∧ (R x y → Ch R y l → Ch R x (l.filter (· != y)))
  | [], x => ⟨fun _ => trivial, fun _ _ => trivial⟩
  | c :: l, x => by
    by_cases e : c = y
    · subst e
      refine ⟨fun h => ?_, fun h1 h2 => ?_⟩
      · simpa using (Ch.drop ht).2 h.1 h.2
      · simpa using (Ch.drop ht).2 h1 h2.2
    · have e' : (c :: l).filter (· != y) = c :: l.filter (· != y) := by simp [List.filter_cons, e]
      refine ⟨fun h => ?_, fun h1 h2 => ?_⟩
      · rw [e']; exact ⟨h.1, (Ch.drop ht).1 h.2⟩
      · rw [e']; exact ⟨ht _ _ h1 h2.1, (Ch.drop ht).1 h2.2⟩
theorem filter_take {p : Int → Bool} : ∀ (l : List Int) (n : Nat), ∃ m, (l.take n).filter p = (l.filter p).take m
  | [], n => ⟨0, by simp⟩
  | x :: l, 0 => ⟨0, by simp⟩
  | x :: l, n + 1 => by
    obtain ⟨m, hm⟩ := filter_take (p := p) l n
    by_cases h : p x = true
    · exact ⟨m + 1, by simp [List.filter_cons, h, hm]⟩
    · exact ⟨m, by simp [List.filter_cons, h, hm]⟩

/-! ### What always holds -/
def NoSkip (f : RS) (x y : Int) : Prop := ∀ b, 0 ≤ b → b < 4 → withinB (idR f b) (idR f x) (idR f y) = false
structure Inv (f : RS) : Prop where
  dom : Dom f
  heads : Heads f
  base : ∀ b, 0 ≤ b → b < 4 → livesR f b = true
  uniq : ∀ x y, livesR f x = true → livesR f y = true → idR f x = idR f y → x = y
  used : ∀ n m, f n = some m → ∀ x ∈ m.succ, (f x).isSome = true
  skip : ∀ n, livesR f n = true → Ch (NoSkip f) n ((succR f n).filter (livesR f))

theorem place_id {f : RS} (h : Dom f) (n : Int) : isPlace (idR f n) := by
  unfold idR
  cases e : f n with
  | none => exact ⟨by simp, by simp⟩
  | some m => exact (h n m e).2.2.1
theorem headL_filter (f : RS) (l : List Int) : headL f l = (l.filter (livesR f)).headD (-1) := by
  induction l with
  | nil => rfl
  | cons x l ih =>
    by_cases h : livesR f x = true
    · simp [headL, List.filter_cons, h]
    · simp [headL, List.filter_cons, h, ih]
section
variable {f : RS} (I : Inv f)
include I
theorem Inv.bases {b c : Int} (hb : 0 ≤ b ∧ b < 4) (hc : 0 ≤ c ∧ c < 4) (h : b ≠ c) : idR f b ≠ idR f c := fun e => h (I.uniq b c (I.base b hb.1 hb.2) (I.base c hc.1 hc.2) e)
/-- A pair that skips nobody lies at two places. -/
theorem Inv.apart {x y : Int} (h : NoSkip f x y) : idR f x ≠ idR f y := fun e => by
  have h0 := h 0 (by omega) (by omega)
  have h1 := h 1 (by omega) (by omega)
  have := (within_no.1 h0).1 e
  have := (within_no.1 h1).1 e
  have := I.bases (b := 0) (c := 1) (by omega) (by omega) (by omega)
  omega
theorem Inv.head {n : Int} (hn : livesR f n = true) : NoSkip f n (headR f n) ∧ livesR f (headR f n) = true := by
  have h1 := I.heads n hn
  have h2 := I.skip n hn
  refine ⟨?_, h1⟩
  unfold headR at h1 ⊢
  rw [headL_filter] at h1 ⊢
  cases e : (succR f n).filter (livesR f) with
  | nil =>
    rw [e] at h1
    rw [show ([] : List Int).headD (-1) = -1 from rfl, livesR_neg I.dom] at h1
    cases h1
  | cons y l => rw [e] at h2; exact h2.1
theorem Inv.head_ne {n : Int} (hn : livesR f n = true) : idR f n ≠ idR f (headR f n) := I.apart (I.head hn).1
theorem Inv.trans {x y z : Int} (hy : livesR f y = true) (hy4 : ¬ (0 ≤ y ∧ y < 4)) (h1 : NoSkip f x y) (h2 : NoSkip f y z) : NoSkip f x z := fun b hb0 hb4 => by
  have ne : ∀ c : Int, 0 ≤ c → c < 4 → idR f c ≠ idR f y := fun c h0 h4 e => hy4 (by have := I.uniq c y (I.base c h0 h4) hy e; omega)
  have P := place_id I.dom
  exact skip_trans (b0 := idR f 0) (b1 := idR f 1) (P x) (P y) (P z) (P b) (P 0) (P 1) (I.bases (b := 0) (c := 1) (by omega) (by omega) (by omega)) (ne 0 (by omega) (by omega)) (ne 1 (by omega) (by omega)) (ne b hb0 hb4)
    (h1 0 (by omega) (by omega)) (h1 1 (by omega) (by omega)) (h1 b hb0 hb4) (h2 0 (by omega) (by omega)) (h2 1 (by omega) (by omega)) (h2 b hb0 hb4)
end
theorem noSkip_congr {f g : RS} (h : ∀ j, idR g j = idR f j) (x y : Int) : NoSkip f x y → NoSkip g x y := fun hs b h0 h4 => by rw [h, h, h]; exact hs b h0 h4
theorem within_sub {q x s b : Int} (pq : isPlace q) (px : isPlace x) (ps : isPlace s) (pb : isPlace b) (hxs : x ≠ s) (h : withinB q x s = true) (hb : withinB b x s = false) : withinB b x q = false := by
  rw [within_iff] at h
  rw [within_no] at hb ⊢
  have := hb.2 hxs
  unfold isPlace at *
  unfold dist at *
  refine ⟨fun e => ?_, fun e => ?_⟩ <;> omega
theorem within_sub2 {q x s b : Int} (pq : isPlace q) (px : isPlace x) (ps : isPlace s) (pb : isPlace b) (hxs : x ≠ s) (h : withinB q x s = true) (hb : withinB b x s = false) : withinB b q s = false := by
  rw [within_iff] at h
  rw [within_no] at hb ⊢
  have := hb.2 hxs
  unfold isPlace at *
  unfold dist at *
  refine ⟨fun e => ?_, fun e => ?_⟩ <;> omega

/-! ### Looking -/
theorem stabT_facts {f : RS} (I : Inv f) {n : Int} (hn : livesR f n = true) : livesR f (stabT f n) = true ∧ NoSkip f n (stabT f n) ∧ (stabT f n = headR f n ∨ withinB (idR f (stabT f n)) (idR f n) (idR f (headR f n)) = true) := by
  have hh := I.head hn
  unfold stabT
  split
  · rename_i h
    unfold nearR at h
    rw [Bool.and_eq_true, Bool.and_eq_true] at h
    have P := place_id I.dom
    exact ⟨h.1.2, fun b h0 h4 => within_sub (P _) (P _) (P _) (P _) (I.head_ne hn) h.2 (hh.1 b h0 h4), Or.inr h.2⟩
  · exact ⟨hh.2, hh.1, Or.inl rfl⟩
theorem isSome_stab (f : RS) (n : Int) {j : Int} (h : (f j).isSome = true) : (stabR f n j).isSome = true := by
  unfold stabR stab1
  rw [isSome_set, isSome_set]
  split <;> simp_all
theorem succR_mem {f : RS} (I : Inv f) {n : Int} : ∀ x ∈ succR f n, (f x).isSome = true := fun x hx => by
  unfold succR at hx
  cases e : f n with
  | none => rw [e] at hx; simp at hx
  | some m => rw [e] at hx; exact I.used n m e x hx
theorem live_isSome {f : RS} {n : Int} (h : livesR f n = true) : (f n).isSome = true := by
  obtain ⟨m, hm, _⟩ := livesR_some h; rw [hm]; rfl
theorem predR_dom {f : RS} (h : Dom f) {n : Int} (hn : livesR f n = true) : -1 ≤ predR f n ∧ predR f n < 32 := by
  obtain ⟨m, hm, _⟩ := livesR_some hn
  unfold predR; rw [hm]; exact (h n m hm).2.2.2.2.1
theorem succR_dom {f : RS} (h : Dom f) (n : Int) : (succR f n).length ≤ 3 ∧ ∀ x ∈ succR f n, 0 ≤ x ∧ x < 32 := by
  unfold succR
  cases e : f n with
  | none => exact ⟨by simp, fun x hx => by simp at hx⟩
  | some m => exact ⟨(h n m e).2.2.2.1, (h n m e).2.2.2.2.2⟩
theorem dom_stab {f : RS} (I : Inv f) {n : Int} (hn : livesR f n = true) : Dom (stabR f n) := by
  have hT := (stabT_facts I hn).1
  have dn := livesR_dom I.dom hn
  have dT := livesR_dom I.dom hT
  have P := place_id I.dom
  have h1 : Dom (stab1 f n) := fun j m e => by
    unfold stab1 at e
    by_cases ej : j = n
    · subst ej
      rw [setM_same] at e
      cases e
      exact ⟨dn.1, dn.2, P _, follow_len _ _, predR_dom I.dom hn, follow_mem dT (succR_dom I.dom _).2⟩
    · rw [setM_ne _ _ ej] at e; exact I.dom j m e
  intro j m e
  unfold stabR at e
  by_cases ej : j = stabT f n
  · rw [ej, setM_same] at e
    cases e
    rw [ej]
    exact ⟨dT.1, dT.2, P _, (succR_dom h1 _).1, rect_dom (predR_dom I.dom hT) dn, (succR_dom h1 _).2⟩
  · rw [setM_ne _ _ ej] at e; exact h1 j m e
theorem inv_stab {f : RS} (I : Inv f) {n : Int} (hn : livesR f n = true) : Inv (stabR f n) where
  dom := dom_stab I hn
  heads := heads_stab I.heads hn
  base := fun b h0 h4 => by rw [livesR_stab]; exact I.base b h0 h4
  uniq := fun x y hx hy e => by
    rw [livesR_stab] at hx hy
    rw [idR_stab, idR_stab] at e
    exact I.uniq x y hx hy e
  used := fun j m e x hx => by
    refine isSome_stab f n ?_
    have hs : x ∈ succR (stabR f n) j := by unfold succR; rw [e]; exact hx
    rw [succR_stab] at hs
    split at hs
    · rcases List.mem_cons.1 (List.mem_of_mem_take hs) with rfl | h
      · exact live_isSome (stabT_facts I hn).1
      · exact succR_mem I x h
    · exact succR_mem I x hs
  skip := fun j hj => by
    rw [livesR_stab] at hj
    have e : livesR (stabR f n) = livesR f := funext (livesR_stab f n)
    rw [e]
    refine Ch.imp (fun x y => noSkip_congr (idR_stab f n) x y) ?_
    rw [succR_stab]
    split
    · rename_i ej
      rw [ej]
      obtain ⟨h1, h2, _⟩ := stabT_facts I hn
      obtain ⟨m, hm⟩ := filter_take (p := livesR f) (stabT f n :: succR f (stabT f n)) 3
      unfold followL
      rw [hm]
      refine Ch.take m ?_
      rw [List.filter_cons_of_pos h1]
      exact ⟨h2, I.skip _ h1⟩
    · exact I.skip j hj
theorem inv_looks {f : RS} (I : Inv f) {l : List Int} (hl : ∀ x ∈ l, livesR f x = true) : Inv (looksR f l) := by
  induction l generalizing f with
  | nil => exact I
  | cons n l ih => exact ih (inv_stab I (hl n (by simp))) fun x hx => by rw [livesR_stab]; exact hl x (List.mem_cons_of_mem _ hx)
theorem inv_round {f : RS} (I : Inv f) : Inv (roundR f) := inv_looks I fun x hx => (mem_liveL I.dom).1 hx

/-! ### Joining -/
/-- Those that live and lie nearer to a place than one. -/
def nearer (f : RS) (t x : Int) : Nat := (liveL f).countP fun y => decide (dist (idR f y) t < dist (idR f x) t)
theorem nearer_le (f : RS) (t x : Int) : nearer f t x ≤ 32 := Nat.le_trans List.countP_le_length (length_liveL f)
theorem countP_lt {p q : Int → Bool} {z : Int} (hp : p z = false) (hq : q z = true) (h : ∀ x, p x = true → q x = true) : ∀ {l : List Int}, z ∈ l → l.countP p < l.countP q
  | [], hz => by simp at hz
  | x :: l, hz => by
    have hle : l.countP p ≤ l.countP q := List.countP_mono_left fun y _ => h y
    rw [List.countP_cons, List.countP_cons]
    rcases List.mem_cons.1 hz with rfl | hz
    · simp [hp, hq]; omega
    · have := countP_lt hp hq h hz
      have hx := h x
      cases hpx : p x <;> cases hqx : q x <;> simp_all <;> omega
theorem nearer_lt {f : RS} (hd : Dom f) {t x y : Int} (hy : livesR f y = true) (h : dist (idR f y) t < dist (idR f x) t) : nearer f t y < nearer f t x := by
  unfold nearer
  exact countP_lt (z := y) (by simp) (by simpa using h) (fun z hz => by simp at hz ⊢; omega) ((mem_liveL hd).2 hy)
theorem joinAt_some {f : RS} (I : Inv f) {id : Int} (hid : isPlace id) (hno : ∀ x, livesR f x = true → idR f x ≠ id) : ∀ (k : Nat) (x : Int), livesR f x = true → nearer f id x < k →
    ∃ z, joinAt f id k x = some z ∧ livesR f z = true ∧ withinB id (idR f z) (idR f (headR f z)) = true
  | 0, x, _, h => absurd h (by omega)
  | k + 1, x, hx, h => by
    unfold joinAt
    by_cases hw : withinB id (idR f x) (idR f (headR f x)) = true
    · rw [if_pos hw]; exact ⟨x, rfl, hx, hw⟩
    · rw [if_neg hw]
      have P := place_id I.dom
      have hh := I.head hx
      have := nearer_lt I.dom (t := id) (x := x) hh.2 (step_near (P _) (P _) hid (I.head_ne hx) (fun e => hno x hx e.symm) (by simpa using hw))
      exact joinAt_some I hid hno k _ hh.2 (by omega)
theorem joinC_cases {f : RS} (I : Inv f) {n id via : Int} (hid : isPlace id) : joinC f n id via ≠ 5 ∧
    (joinC f n id via = 0 → 0 ≤ n ∧ n < 32 ∧ f n = none ∧ livesR f via = true ∧ (∀ x, livesR f x = true → idR f x ≠ id) ∧
      ∃ z, joinAt f id 33 via = some z ∧ livesR f z = true ∧ withinB id (idR f z) (idR f (headR f z)) = true ∧ joinR f n id via = setM f n ⟨true, id, z, succR f z⟩) := by
  unfold joinR
  unfold joinC
  split
  · exact ⟨by decide, fun h => absurd h (by decide)⟩
  rename_i h1
  split
  · exact ⟨by decide, fun h => absurd h (by decide)⟩
  rename_i h2
  split
  · exact ⟨by decide, fun h => absurd h (by decide)⟩
  rename_i h3
  split
  · exact ⟨by decide, fun h => absurd h (by decide)⟩
  rename_i h4
  have hno : ∀ x, livesR f x = true → idR f x ≠ id := fun x hx e => h4 (List.any_eq_true.2 ⟨x, (mem_liveL I.dom).2 hx, by simpa using e⟩)
  have hv : livesR f via = true := by simpa using h3
  obtain ⟨z, hz, hzl, hzw⟩ := joinAt_some I hid hno 33 via hv (by have := nearer_le f id via; omega)
  rw [hz]
  refine ⟨by simp, fun _ => ⟨by omega, by omega, by simpa using h2, hv, hno, z, rfl, hzl, hzw, by simp⟩⟩
theorem joinR_not {f : RS} {n id via : Int} (h : joinC f n id via ≠ 0) : joinR f n id via = f := by unfold joinR; rw [if_neg h]
theorem dom_join {f : RS} (hd : Dom f) {n id z : Int} (h0 : 0 ≤ n) (h1 : n < 32) (hid : isPlace id) (hz : livesR f z = true) : Dom (setM f n ⟨true, id, z, succR f z⟩) := fun j m e => by
  by_cases ej : j = n
  · subst ej
    rw [setM_same] at e
    cases e
    have := livesR_dom hd hz
    exact ⟨h0, h1, hid, (succR_dom hd z).1, ⟨by show -1 ≤ z; omega, by show z < 32; omega⟩, (succR_dom hd z).2⟩
  · rw [setM_ne _ _ ej] at e; exact hd j m e
section
variable {f : RS} (I : Inv f) {n id z : Int} (hn : f n = none) (h0 : 0 ≤ n) (h1 : n < 32) (hid : isPlace id) (hno : ∀ x, livesR f x = true → idR f x ≠ id) (hz : livesR f z = true) (hw : withinB id (idR f z) (idR f (headR f z)) = true)
theorem join_lives (j : Int) : livesR (setM f n ⟨true, id, z, succR f z⟩) j = if j = n then true else livesR f j := livesR_set _ _ _ _
include hn I in
theorem join_filter (j : Int) : (succR f j).filter (livesR (setM f n ⟨true, id, z, succR f z⟩)) = (succR f j).filter (livesR f) := by
  refine List.filter_congr fun x hx => ?_
  rw [livesR_set, if_neg fun e => ?_]
  have := succR_mem I x hx
  rw [e, hn] at this
  cases this
include hn in
theorem join_id {j : Int} (h : livesR f j = true) : idR (setM f n ⟨true, id, z, succR f z⟩) j = idR f j := by
  rw [idR_set, if_neg]
  rintro rfl
  have := live_isSome h
  rw [hn] at this
  cases this
include hn I in
theorem join_head (j : Int) : headR (setM f n ⟨true, id, z, succR f z⟩) j = if j = n then headR f z else headR f j := by
  unfold headR
  rw [headL_filter, headL_filter, headL_filter, succR_set]
  split <;> rw [join_filter I hn]
include hn I in
theorem join_skip {x y : Int} (hx : livesR f x = true) (hy : livesR f y = true) (h : NoSkip f x y) : NoSkip (setM f n ⟨true, id, z, succR f z⟩) x y := fun b b0 b4 => by
  rw [join_id hn hx, join_id hn hy, join_id hn (I.base b b0 b4)]; exact h b b0 b4
theorem ch_lives {f : RS} {R R' : Int → Int → Prop} (h : ∀ x y, livesR f x = true → livesR f y = true → R x y → R' x y) : ∀ {x : Int} {l : List Int}, livesR f x = true → (∀ y ∈ l, livesR f y = true) → Ch R x l → Ch R' x l
  | _, [], _, _, _ => trivial
  | _, _ :: _, hx, hl, hc => ⟨h _ _ hx (hl _ (by simp)) hc.1, ch_lives h (hl _ (by simp)) (fun y hy => hl y (List.mem_cons_of_mem _ hy)) hc.2⟩
include hn h0 h1 hid hno hz hw I in
theorem inv_join : Inv (setM f n ⟨true, id, z, succR f z⟩) where
  dom := dom_join I.dom h0 h1 hid hz
  heads := fun j hj => by
    rw [join_head I hn]
    rw [join_lives] at hj ⊢
    split
    · split
      · rfl
      · exact I.heads z hz
    · rename_i ej
      rw [if_neg ej] at hj
      split
      · rfl
      · exact I.heads j hj
  base := fun b b0 b4 => by rw [join_lives]; split
                            · rfl
                            · exact I.base b b0 b4
  uniq := fun x y hx hy e => by
    rw [join_lives] at hx hy
    by_cases ex : x = n <;> by_cases ey : y = n
    · rw [ex, ey]
    · rw [if_neg ey] at hy
      rw [join_id hn hy, ex, idR_set, if_pos rfl] at e
      exact absurd e.symm (hno y hy)
    · rw [if_neg ex] at hx
      rw [join_id hn hx, ey, idR_set, if_pos rfl] at e
      exact absurd e (hno x hx)
    · rw [if_neg ex] at hx
      rw [if_neg ey] at hy
      rw [join_id hn hx, join_id hn hy] at e
      exact I.uniq x y hx hy e
  used := fun j m e x hx => by
    rw [isSome_set]
    split
    · rfl
    · by_cases ej : j = n
      · rw [ej, setM_same] at e; cases e; exact succR_mem I x hx
      · rw [setM_ne _ _ ej] at e; exact I.used j m e x hx
  skip := fun j hj => by
    have hl : ∀ k, ∀ y ∈ (succR f k).filter (livesR f), livesR f y = true := fun k y hy => (List.mem_filter.1 hy).2
    by_cases ej : j = n
    · subst ej
      rw [succR_set, if_pos rfl]
      show Ch _ _ ((succR f z).filter _)
      rw [join_filter I hn]
      have hs := I.skip z hz
      have hh := I.head hz
      have hhe : headR f z = ((succR f z).filter (livesR f)).headD (-1) := headL_filter _ _
      have hlz := hl z
      cases e : (succR f z).filter (livesR f) with
      | nil => trivial
      | cons y l =>
        rw [e] at hs hhe hlz
        have hy : headR f z = y := hhe
        have hyl := hlz y (by simp)
        refine ⟨fun b b0 b4 => ?_, ch_lives (fun a c ha hc hac => join_skip I hn ha hc hac) hyl (fun c hc => hlz c (List.mem_cons_of_mem _ hc)) hs.2⟩
        have P := place_id I.dom
        rw [join_id hn hyl, join_id hn (I.base b b0 b4), idR_set, if_pos rfl]
        rw [hy] at hw hh
        exact within_sub2 hid (P _) (P _) (P _) (I.apart hh.1) hw (hh.1 b b0 b4)
    · rw [join_lives, if_neg ej] at hj
      rw [succR_set, if_neg ej, join_filter I hn]
      exact ch_lives (fun a c ha hc hac => join_skip I hn ha hc hac) hj (hl j) (I.skip j hj)
end
theorem inv_joinR {f : RS} (I : Inv f) {n id via : Int} (hid : isPlace id) : Inv (joinR f n id via) := by
  by_cases h : joinC f n id via = 0
  · obtain ⟨h0, h1, hn, hv, hno, z, _, hz, hw, e⟩ := (joinC_cases I hid).2 h
    rw [e]
    exact inv_join I hn h0 h1 hid hno hz hw
  · rw [joinR_not h]; exact I

/-! ### Going -/
theorem lives_dies (f : RS) (n j : Int) : livesR (diesR f n) j = if j = n then false else livesR f j := livesR_set _ _ _ _
theorem id_dies (f : RS) (n j : Int) : idR (diesR f n) j = idR f j := by
  unfold diesR; rw [idR_set]; split
  · rename_i e; rw [e]
  · rfl
theorem succ_dies (f : RS) (n j : Int) : succR (diesR f n) j = succR f j := by
  unfold diesR; rw [succR_set]; split
  · rename_i e; rw [e]
  · rfl
theorem dom_dies {f : RS} (hd : Dom f) {n : Int} (hn : livesR f n = true) : Dom (diesR f n) := fun j m e => by
  unfold diesR at e
  by_cases ej : j = n
  · subst ej
    rw [setM_same] at e
    cases e
    have := livesR_dom hd hn
    exact ⟨this.1, this.2, place_id hd _, (succR_dom hd _).1, predR_dom hd hn, (succR_dom hd _).2⟩
  · rw [setM_ne _ _ ej] at e; exact hd j m e
theorem inv_dies {f : RS} (I : Inv f) {n : Int} (hn : livesR f n = true) (h4 : ¬ n < 4) (hh : ∀ k, livesR (diesR f n) k = true → headR (diesR f n) k ≠ -1) : Inv (diesR f n) where
  dom := dom_dies I.dom hn
  heads := fun j hj => by
    have := hh j hj
    unfold headR at this ⊢
    rcases headL_or (diesR f n) (succR (diesR f n) j) with h | h
    · exact h.1
    · exact absurd h.1 this
  base := fun b b0 b4 => by rw [lives_dies, if_neg (by omega)]; exact I.base b b0 b4
  uniq := fun x y hx hy e => by
    rw [lives_dies] at hx hy
    split at hx
    · cases hx
    split at hy
    · cases hy
    rw [id_dies, id_dies] at e
    exact I.uniq x y hx hy e
  used := fun j m e x hx => by
    have hs : x ∈ succR (diesR f n) j := by unfold succR; rw [e]; exact hx
    rw [succ_dies] at hs
    unfold diesR
    rw [isSome_set]
    split
    · rfl
    · exact succR_mem I x hs
  skip := fun j hj => by
    rw [lives_dies] at hj
    split at hj
    · cases hj
    rename_i ej
    rw [succ_dies]
    have e : (succR f j).filter (livesR (diesR f n)) = ((succR f j).filter (livesR f)).filter (· != n) := by
      rw [List.filter_filter]
      refine List.filter_congr fun x _ => ?_
      rw [lives_dies]
      by_cases ex : x = n <;> simp [ex]
    rw [e]
    refine Ch.imp (fun x y => noSkip_congr (id_dies f n) x y) ?_
    exact (Ch.drop (R := NoSkip f) (y := n) fun a c h1 h2 => I.trans hn (by omega) h1 h2).1 (I.skip j hj)
theorem failC_cases {f : RS} (I : Inv f) (n : Int) : failC f n = 0 ∧ failR f n = diesR f n ∧ livesR f n = true ∧ 4 ≤ n ∧ (∀ k, livesR (diesR f n) k = true → headR (diesR f n) k ≠ -1) ∨ failC f n ≠ 0 ∧ failR f n = f := by
  unfold failR
  by_cases h : failC f n = 0
  · left
    rw [if_pos h]
    unfold failC at h
    split at h
    · exact absurd h (by decide)
    rename_i h1
    split at h
    · exact absurd h (by decide)
    rename_i h2
    split at h
    · exact absurd h (by decide)
    rename_i h3
    have hn : livesR f n = true := by simpa using h1
    refine ⟨?_, rfl, hn, by omega, fun k hk e => h3 (List.any_eq_true.2 ⟨k, (mem_liveL (dom_dies I.dom hn)).2 hk, by simpa using e⟩)⟩
    unfold failC
    rw [if_neg h1, if_neg h2, if_neg h3]
  · right
    rw [if_neg h]
    exact ⟨h, rfl⟩
theorem inv_failR {f : RS} (I : Inv f) (n : Int) : Inv (failR f n) := by
  rcases failC_cases I n with ⟨_, e, hn, h4, hh⟩ | ⟨_, e⟩
  · rw [e]; exact inv_dies I hn (by omega) hh
  · rw [e]; exact I

/-! ### The base ring -/
theorem newF_at {ids s : List Int} (h : Four ids s) : ∀ (k : Nat), k ≤ 4 → ∀ i, i < k → newF ids s k (atI ids s i) = some (memAt ids s i)
  | 0, _, i, hi => absurd hi (by omega)
  | k + 1, hk, i, hi => by
    by_cases e : i = k
    · subst e; exact setM_same _ _ _
    · show setM _ _ _ _ = _
      rw [setM_ne _ _ (fun e2 => e (h.inj (by omega) (by omega) e2))]
      exact newF_at h k (by omega) i (by omega)
theorem newF_inv {ids s : List Int} : ∀ (k : Nat) (n : Int) (m : Mem), newF ids s k n = some m → ∃ i : Nat, i < k ∧ n = atI ids s i ∧ m = memAt ids s i
  | 0, n, m, e => by cases e
  | k + 1, n, m, e => by
    by_cases en : n = atI ids s k
    · subst en
      have e' : some (memAt ids s k) = some m := by rw [← e]; exact (setM_same _ _ _).symm
      cases e'
      exact ⟨k, by omega, rfl, rfl⟩
    · have e' : newF ids s k n = some m := by rw [← e]; exact (setM_ne _ _ en).symm
      obtain ⟨i, hi, h1, h2⟩ := newF_inv k n m e'
      exact ⟨i, by omega, h1, h2⟩

theorem atI_mod (ids s : List Int) (t : Int) : atI ids s t = atI ids s (((t + 4) % 4).toNat : Int) := by
  unfold atI
  rw [show (((((t + 4) % 4).toNat : Nat) : Int) + 4) % 4 = (t + 4) % 4 by omega]
section
variable {ids s : List Int} (h : Four ids s)
include h
theorem Four.mk_at {t : Int} : newF ids s 4 (atI ids s t) = some (memAt ids s ((t + 4) % 4).toNat) := by
  rw [atI_mod]; exact newF_at h 4 (Nat.le_refl _) _ (by omega)
theorem Four.id_at (t : Int) : idR (newF ids s 4) (atI ids s t) = nth s ((t + 4) % 4).toNat := by
  unfold idR; rw [h.mk_at]; rfl
theorem Four.lives_at (t : Int) : livesR (newF ids s 4) (atI ids s t) = true := by
  unfold livesR; rw [h.mk_at]; rfl
theorem Four.onto {b : Int} (h0 : 0 ≤ b) (h4 : b < 4) : ∃ j : Nat, j < 4 ∧ b = atI ids s j ∧ nth s j = nth ids b.toNat := by
  have hb : nth ids b.toNat ∈ s := (h.mem _).2 (nth_mem.2 ⟨b.toNat, by rw [h.li]; omega, rfl⟩)
  obtain ⟨j, hj, e⟩ := nth_mem.1 hb
  rw [h.ls] at hj
  refine ⟨j, hj, ?_, e⟩
  unfold atI
  rw [show (((j : Int) + 4) % 4).toNat = j by omega, e, idxI_at h.nodup (by rw [h.li]; omega)]
  omega
theorem Four.places : isPlace (nth s 0) ∧ isPlace (nth s 3) ∧ nth s 0 < nth s 1 ∧ nth s 1 < nth s 2 ∧ nth s 2 < nth s 3 := by
  have hp : ∀ j, j < 4 → isPlace (nth s j) := fun j hj => h.place _ ((h.mem _).1 (nth_mem.2 ⟨j, by rw [h.ls]; exact hj, rfl⟩))
  exact ⟨hp 0 (by omega), hp 3 (by omega), up_nth h.up (by omega) (by rw [h.ls]; omega), up_nth h.up (by omega) (by rw [h.ls]; omega), up_nth h.up (by omega) (by rw [h.ls]; omega)⟩
theorem Four.skip (t : Int) : NoSkip (newF ids s 4) (atI ids s t) (atI ids s (t + 1)) := fun b h0 h4 => by
  obtain ⟨j, hj, rfl, _⟩ := h.onto h0 h4
  rw [h.id_at, h.id_at, h.id_at]
  obtain ⟨⟨p0, _⟩, ⟨_, p3⟩, l0, l1, l2⟩ := h.places
  obtain ⟨i, hi, e1, e2⟩ : ∃ i : Nat, i < 4 ∧ ((t + 4) % 4).toNat = i ∧ ((t + 1 + 4) % 4).toNat = (i + 1) % 4 := ⟨((t + 4) % 4).toNat, by omega, rfl, by omega⟩
  rw [e1, e2, show (((j : Int) + 4) % 4).toNat = j by omega, within_no]
  have hi' : i = 0 ∨ i = 1 ∨ i = 2 ∨ i = 3 := by omega
  have hj' : j = 0 ∨ j = 1 ∨ j = 2 ∨ j = 3 := by omega
  clear e1 e2 h0 h4 h
  unfold dist
  rcases hi' with rfl | rfl | rfl | rfl <;> rcases hj' with rfl | rfl | rfl | rfl <;> (simp only [Nat.reduceAdd, Nat.reduceMod]; refine ⟨fun e => ?_, fun e => ?_⟩ <;> first | rfl | exact Or.inl trivial | omega)
theorem Four.succ_at (t : Int) : succR (newF ids s 4) (atI ids s t) = [atI ids s (t + 1), atI ids s (t + 2), atI ids s (t + 3)] := by
  unfold succR
  rw [h.mk_at]
  simp only [memAt]
  have e : ∀ k : Int, atI ids s (((t + 4) % 4).toNat + k) = atI ids s (t + k) := fun k => by
    rw [atI_mod ids s (((t + 4) % 4).toNat + k), atI_mod ids s (t + k)]
    congr 3
    omega
  rw [e, e, e]
theorem Four.pred_at (t : Int) : predR (newF ids s 4) (atI ids s t) = atI ids s (t - 1) := by
  unfold predR
  rw [h.mk_at]
  simp only [memAt]
  rw [atI_mod ids s (((t + 4) % 4).toNat - 1), atI_mod ids s (t - 1)]
  congr 2
  omega
theorem Four.lives_iff (n : Int) : livesR (newF ids s 4) n = true ↔ 0 ≤ n ∧ n < 4 := by
  constructor
  · intro hn
    obtain ⟨m, hm, _⟩ := livesR_some hn
    obtain ⟨i, hi, rfl, _⟩ := newF_inv 4 n m hm
    exact h.at i
  · rintro ⟨h0, h4⟩
    obtain ⟨j, hj, rfl, _⟩ := h.onto h0 h4
    exact h.lives_at j
theorem Four.head_at (t : Int) : headR (newF ids s 4) (atI ids s t) = atI ids s (t + 1) := by
  unfold headR
  rw [h.succ_at]
  simp only [headL, h.lives_at, if_true]
theorem Four.id_base {b : Int} (h0 : 0 ≤ b) (h4 : b < 4) : idR (newF ids s 4) b = nth ids b.toNat := by
  obtain ⟨j, hj, e, e2⟩ := h.onto h0 h4
  rw [e, h.id_at, show (((j : Int) + 4) % 4).toNat = j by omega, e2]
  rw [← e]
theorem inv_new : Inv (newF ids s 4) where
  dom := newF_dom h 4 (Nat.le_refl _)
  heads := fun n hn => by
    obtain ⟨h0, h4⟩ := (h.lives_iff n).1 hn
    obtain ⟨j, hj, rfl, _⟩ := h.onto h0 h4
    rw [h.head_at]; exact h.lives_at _
  base := fun b h0 h4 => (h.lives_iff b).2 ⟨h0, h4⟩
  uniq := fun x y hx hy e => by
    obtain ⟨x0, x4⟩ := (h.lives_iff x).1 hx
    obtain ⟨y0, y4⟩ := (h.lives_iff y).1 hy
    rw [h.id_base x0 x4, h.id_base y0 y4] at e
    have e1 := idxI_at h.nodup (k := x.toNat) (by rw [h.li]; omega)
    have e2 := idxI_at h.nodup (k := y.toNat) (by rw [h.li]; omega)
    rw [e, e2] at e1
    omega
  used := fun n m e x hx => by
    obtain ⟨i, hi, rfl, rfl⟩ := newF_inv 4 n m e
    simp only [memAt, List.mem_cons, List.not_mem_nil, or_false] at hx
    rcases hx with rfl | rfl | rfl <;> (rw [h.mk_at]; rfl)
  skip := fun n hn => by
    obtain ⟨h0, h4⟩ := (h.lives_iff n).1 hn
    obtain ⟨j, hj, rfl, _⟩ := h.onto h0 h4
    rw [h.succ_at]
    simp only [List.filter_cons, h.lives_at, if_true, List.filter_nil]
    have s1 := h.skip (j + 1)
    have s2 := h.skip (j + 2)
    rw [show (j : Int) + 1 + 1 = j + 2 by omega] at s1
    rw [show (j : Int) + 2 + 1 = j + 3 by omega] at s2
    exact ⟨h.skip j, s1, s2, trivial⟩
end
end Go.Proofs.YtahiahjhpakeiaaGreatDoor
