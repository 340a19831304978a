/-
  The ring and its members as plain data: what each call does. No program is named here.
-/
import Derived.Test.YtacdgfkahppmdaaBase
namespace Go.Proofs.Ytacdgfkahppmdaa
set_option linter.unusedVariables false
set_option linter.unusedSimpArgs false

/-- How far it is from one place on to another one. -/
def dist (a b : Int) : Int := (b - a) % 18446744073709551616
def inB (x a b : Int) : Bool := a == b || (dist a x != 0 && decide (dist a x ≤ dist a b))
def withinB (x a b : Int) : Bool := if a == b then x != a else x != a && decide (dist a x < dist a b)
def isPlace (a : Int) : Prop := 0 ≤ a ∧ a < 18446744073709551616

/-- An address that was used: a member. -/
structure Mem where
  live : Bool
  id : Int
  pred : Int
  succ : List Int
/-- The members, by their addresses. -/
abbrev RS := Int → Option Mem
def livesR (f : RS) (n : Int) : Bool := match f n with | some m => m.live | none => false
def idR (f : RS) (n : Int) : Int := match f n with | some m => m.id | none => 0
def succR (f : RS) (n : Int) : List Int := match f n with | some m => m.succ | none => []
def predR (f : RS) (n : Int) : Int := match f n with | some m => m.pred | none => 0
/-- The first that lives, as a place in the list; -1: none does. -/
def firstR (f : RS) : List Int → Int
  | [] => -1
  | x :: l => if livesR f x then 0 else if firstR f l = -1 then -1 else firstR f l + 1
/-- The first that lives; -1: none does. -/
def headL (f : RS) : List Int → Int
  | [] => -1
  | x :: l => if livesR f x then x else headL f l
def headR (f : RS) (n : Int) : Int := headL f (succR f n)
def nearR (f : RS) (q fr to : Int) : Bool := q != -1 && livesR f q && withinB (idR f q) fr (idR f to)
/-- Who is ahead, when n says that it is. -/
def rectR (f : RS) (id pred n : Int) : Int := if pred == -1 || !livesR f pred || withinB (idR f n) (idR f pred) id then n else pred
def setM (f : RS) (n : Int) (m : Mem) : RS := fun j => if j = n then some m else f j
def followL (s : Int) (l : List Int) : List Int := (s :: l).take 3
/-- A member that lives looks. -/
def stabT (f : RS) (n : Int) : Int := if nearR f (predR f (headR f n)) (idR f n) (headR f n) then predR f (headR f n) else headR f n
def stab1 (f : RS) (n : Int) : RS := setM f n ⟨livesR f n, idR f n, predR f n, followL (stabT f n) (succR f (stabT f n))⟩
def stabR (f : RS) (n : Int) : RS :=
  setM (stab1 f n) (stabT f n) ⟨livesR f (stabT f n), idR f (stabT f n), rectR f (idR f (stabT f n)) (predR f (stabT f n)) n, succR (stab1 f n) (stabT f n)⟩
def liveL (f : RS) : List Int := ((List.range 32).map Int.ofNat).filter (livesR f)
def roundR (f : RS) : RS := (liveL f).foldl stabR f
def joinAt (f : RS) (id : Int) : Nat → Int → Option Int
  | 0, _ => none
  | k + 1, x => if withinB id (idR f x) (idR f (headR f x)) then some x else joinAt f id k (headR f x)
def joinC (f : RS) (n id via : Int) : Int :=
  if n < 0 ∨ 32 ≤ n then 1 else if (f n).isSome then 7 else if livesR f via = false then 6 else if (liveL f).any (fun k => idR f k == id) then 8
  else match joinAt f id 33 via with | some _ => 0 | none => 5
def joinR (f : RS) (n id via : Int) : RS :=
  if joinC f n id via = 0 then (match joinAt f id 33 via with | some x => setM f n ⟨true, id, x, succR f x⟩ | none => f) else f
def diesR (f : RS) (n : Int) : RS := setM f n ⟨false, idR f n, predR f n, succR f n⟩
def failC (f : RS) (n : Int) : Int :=
  if livesR f n = false then 6 else if n < 4 then 5 else if (liveL (diesR f n)).any (fun k => headR (diesR f n) k == -1) then 5 else 0
def failR (f : RS) (n : Int) : RS := if failC f n = 0 then diesR f n else f

/-- Addresses are 0 to 31; places are places. -/
def Dom (f : RS) : Prop := ∀ n m, f n = some m → 0 ≤ n ∧ n < 32 ∧ isPlace m.id ∧ m.succ.length ≤ 3 ∧ (-1 ≤ m.pred ∧ m.pred < 32) ∧ ∀ x ∈ m.succ, 0 ≤ x ∧ x < 32
/-- Each member that lives has a head. -/
def Heads (f : RS) : Prop := ∀ n, livesR f n = true → livesR f (headR f n) = true

theorem livesR_dom {f : RS} (h : Dom f) {n : Int} (hn : livesR f n = true) : 0 ≤ n ∧ n < 32 := by
  unfold livesR at hn
  cases e : f n with
  | none => rw [e] at hn; cases hn
  | some m => have := h n m e; exact ⟨this.1, this.2.1⟩
theorem livesR_neg {f : RS} (h : Dom f) : livesR f (-1) = false := by
  cases e : livesR f (-1)
  · rfl
  · have := livesR_dom h e; omega
theorem livesR_some {f : RS} {n : Int} (h : livesR f n = true) : ∃ m, f n = some m ∧ m.live = true := by
  unfold livesR at h
  cases e : f n with
  | none => rw [e] at h; cases h
  | some m => rw [e] at h; exact ⟨m, rfl, h⟩
theorem headL_or (f : RS) (l : List Int) : livesR f (headL f l) = true ∧ headL f l ∈ l ∨ headL f l = -1 ∧ ∀ x ∈ l, livesR f x = false := by
  induction l with
  | nil => exact Or.inr ⟨rfl, fun x hx => by simp at hx⟩
  | cons x l ih =>
    by_cases h : livesR f x = true
    · exact Or.inl (by simp [headL, h])
    · simp only [Bool.not_eq_true] at h
      rcases ih with ⟨h1, h2⟩ | ⟨h1, h2⟩
      · exact Or.inl ⟨by simpa [headL, h] using h1, by simp [headL, h]; exact Or.inr h2⟩
      · refine Or.inr ⟨by simpa [headL, h] using h1, fun y hy => ?_⟩
        rcases List.mem_cons.1 hy with rfl | hy
        · exact h
        · exact h2 y hy
theorem headL_at (f : RS) (l : List Int) : firstR f l = -1 ∧ headL f l = -1 ∨ ∃ k : Nat, k < l.length ∧ firstR f l = k ∧ headL f l = nth l k := by
  induction l with
  | nil => exact Or.inl ⟨rfl, rfl⟩
  | cons x l ih =>
    by_cases h : livesR f x = true
    · exact Or.inr ⟨0, by simp, by simp [firstR, h], by simp [headL, h, nth_zero]⟩
    · simp only [Bool.not_eq_true] at h
      rcases ih with ⟨h1, h2⟩ | ⟨k, hk, h1, h2⟩
      · exact Or.inl ⟨by simp [firstR, h, h1], by simp [headL, h, h2]⟩
      · exact Or.inr ⟨k + 1, by simp; omega, by simp only [firstR, h, h1]; split <;> (try split) <;> first | contradiction | omega, by simp [headL, h, h2, nth_succ]⟩
theorem firstR_none {f : RS} {l : List Int} (h : ∀ k, k < l.length → livesR f (nth l k) = false) : firstR f l = -1 := by
  induction l with
  | nil => rfl
  | cons x l ih =>
    have h0 := h 0 (by simp)
    rw [nth_zero] at h0
    have := ih (fun k hk => by simpa [nth_succ] using h (k + 1) (by simp; omega))
    simp [firstR, h0, this]
theorem firstR_some {f : RS} {l : List Int} {k : Nat} (hk : k < l.length) (h : ∀ j, j < k → livesR f (nth l j) = false) (h1 : livesR f (nth l k) = true) : firstR f l = k := by
  induction l generalizing k with
  | nil => simp at hk
  | cons x l ih =>
    cases k with
    | zero => rw [nth_zero] at h1; simp [firstR, h1]
    | succ k =>
      have h0 := h 0 (by omega)
      rw [nth_zero] at h0
      have := ih (k := k) (by simp at hk; omega) (fun j hj => by simpa [nth_succ] using h (j + 1) (by omega)) (by simpa [nth_succ] using h1)
      simp only [firstR, h0]
      rw [this]
      split
      · contradiction
      · split <;> omega

/-! Nobody comes or goes, and nobody's place turns, by looking. -/
theorem setM_same (f : RS) (n : Int) (m : Mem) : setM f n m n = some m := by simp [setM]
theorem setM_ne (f : RS) {n j : Int} (m : Mem) (h : j ≠ n) : setM f n m j = f j := by simp [setM, h]
theorem livesR_set (f : RS) (n : Int) (m : Mem) (j : Int) : livesR (setM f n m) j = if j = n then m.live else livesR f j := by
  unfold livesR setM; by_cases h : j = n <;> simp [h]
theorem idR_set (f : RS) (n : Int) (m : Mem) (j : Int) : idR (setM f n m) j = if j = n then m.id else idR f j := by
  unfold idR setM; by_cases h : j = n <;> simp [h]
theorem succR_set (f : RS) (n : Int) (m : Mem) (j : Int) : succR (setM f n m) j = if j = n then m.succ else succR f j := by
  unfold succR setM; by_cases h : j = n <;> simp [h]
theorem predR_set (f : RS) (n : Int) (m : Mem) (j : Int) : predR (setM f n m) j = if j = n then m.pred else predR f j := by
  unfold predR setM; by_cases h : j = n <;> simp [h]
theorem isSome_set (f : RS) (n : Int) (m : Mem) (j : Int) : (setM f n m j).isSome = if j = n then true else (f j).isSome := by
  unfold setM; by_cases h : j = n <;> simp [h]
theorem livesR_stab1 (f : RS) (n j : Int) : livesR (stab1 f n) j = livesR f j := by
  unfold stab1; rw [livesR_set]; split
  · rename_i h; rw [h]
  · rfl
theorem idR_stab1 (f : RS) (n j : Int) : idR (stab1 f n) j = idR f j := by
  unfold stab1; rw [idR_set]; split
  · rename_i h; rw [h]
  · rfl
theorem livesR_stab (f : RS) (n j : Int) : livesR (stabR f n) j = livesR f j := by
  unfold stabR; rw [livesR_set]; split
  · rename_i h; rw [h]
  · exact livesR_stab1 f n j
theorem idR_stab (f : RS) (n j : Int) : idR (stabR f n) j = idR f j := by
  unfold stabR; rw [idR_set]; split
  · rename_i h; rw [h]
  · exact idR_stab1 f n j
theorem liveL_congr {f g : RS} (h : ∀ j, livesR f j = livesR g j) : liveL f = liveL g := by
  unfold liveL; congr 1; exact funext h
theorem headL_congr {f g : RS} (h : ∀ j, livesR f j = livesR g j) (l : List Int) : headL f l = headL g l := by
  induction l with
  | nil => rfl
  | cons x l ih => simp [headL, h x, ih]
theorem mem_liveL {f : RS} (h : Dom f) {n : Int} : n ∈ liveL f ↔ livesR f n = true := by
  unfold liveL
  rw [List.mem_filter]
  constructor
  · exact fun h => h.2
  · intro hn
    have := livesR_dom h hn
    exact ⟨List.mem_map.2 ⟨n.toNat, List.mem_range.2 (by omega), by simp; omega⟩, hn⟩
theorem length_liveL (f : RS) : (liveL f).length ≤ 32 := by
  unfold liveL
  refine Nat.le_trans (List.length_filter_le _ _) (by simp)
end Go.Proofs.Ytacdgfkahppmdaa
