/-
  What the functions of layer 1 that compute with numbers alone answer: Dist, Within, In, Start, and the reference's; for all places. What ring.Owner answers of places that are sorted: the first that isn't below x, round the circle. The place of a text, and of a group.
-/
import Derived.Test.YtahiahjhpakeiaaGreatDoorKept1
import Derived.Test.YtahiahjhpakeiaaGreatDoorRows
import Derived.WalkKit
import Derived.WalkLawsBesides
import Derived.Deep.QuietTactic
import Derived.BigQuiet
import Derived.Deep.Draws
import Derived.Laws.Bits64
import Derived.IntWalk
import Derived.Lib.Hide
import Derived.Deep.Light
import Derived.LoopTactic
import Derived.Outline
import Derived.Lib.ConvBytes
section
namespace Go.Proofs.YtahiahjhpakeiaaGreatDoor
open Go.RowKit
set_option linter.unusedVariables false
set_option linter.unusedSimpArgs false

theorem dist_any (a b : Int) (w : World) :
    Calls Tryz.prog 118 #[.int .u64 a, .int .u64 b] w fun e w' => e = .returned (.int .u64 (dist a b)) ∧ w = w' := by
  go_enter Tryz.func118, Tryz.ntmps118
  go_wp2
  go_ret
  exact ⟨by rw [IntKind.wrap_u64]; rfl, rfl⟩

theorem within_any (x a b : Int) (w : World) :
    Calls Tryz.prog 72 #[.int .u64 x, .int .u64 a, .int .u64 b] w fun e w' => e = .returned (.bool (withinB x a b)) ∧ w = w' := by
  go_enter Tryz.func72, Tryz.ntmps72
  go_wp2_with (go_at_call 118; refine (dist_any _ _ _).mono ?_; rintro e w' ⟨rfl, rfl⟩)
  all_goals (go_ret; go_light; exact ⟨by simp_all [withinB], rfl⟩)
end Go.Proofs.YtahiahjhpakeiaaGreatDoor
end
section
namespace Go.Proofs.YtahiahjhpakeiaaGreatDoor
open Go.RowKit
set_option linter.unusedVariables false
set_option linter.unusedSimpArgs false

theorem nan_any (x : Int) (w : World) : Calls Tryz.prog 130 #[.int .u64 x] w fun e w' => e = .returned (.bool false) ∧ w = w' := by
  go_enter Tryz.func130, Tryz.ntmps130
  go_wp2
  go_ret
  exact ⟨rfl, rfl⟩
theorem nan2_any (x : Int) (w : World) : Calls Tryz.prog 95 #[.int .u64 x] w fun e w' => e = .returned (.bool false) ∧ w = w' := by
  go_enter Tryz.func95, Tryz.ntmps95
  go_wp2
  go_ret
  exact ⟨rfl, rfl⟩
theorem less_any (x y : Int) (w : World) : Calls Tryz.prog 94 #[.int .u64 x, .int .u64 y] w fun e w' => e = .returned (.bool (decide (x < y))) ∧ w = w' := by
  go_enter Tryz.func94, Tryz.ntmps94
  go_wp2_with (go_at_call 130; refine (nan_any _ _).mono ?_; rintro e w' ⟨rfl, rfl⟩)
  go_ret
  exact ⟨rfl, rfl⟩

/-- How many of some places lie below x. -/
def below (l : List Int) (x : Int) : Nat := l.countP (fun y => decide (y < x))
theorem below_le (l : List Int) (x : Int) : below l x ≤ l.length := List.countP_le_length
theorem below_eq (l : List Int) (x : Int) (i : Nat) (hi : i ≤ l.length) (h1 : ∀ k, k < i → nth l k < x) (h2 : ∀ k, i ≤ k → k < l.length → x ≤ nth l k) : below l x = i := by
  induction l generalizing i with
  | nil => simp at hi; subst hi; rfl
  | cons y l ih =>
    cases i with
    | zero =>
      unfold below
      rw [List.countP_eq_zero]
      intro z hz
      obtain ⟨k, hk, rfl⟩ := List.getElem_of_mem hz
      have := h2 k (Nat.zero_le _) hk
      rw [nth_eq hk] at this
      simp; omega
    | succ i =>
      have h0 := h1 0 (Nat.succ_pos _)
      rw [nth_zero] at h0
      have := ih i (by simp at hi; omega) (fun k hk => by simpa [nth_succ] using h1 (k + 1) (by omega)) (fun k hk hk2 => by simpa [nth_succ] using h2 (k + 1) (by omega) (by simp; omega))
      unfold below at *
      rw [List.countP_cons_of_pos (by simpa using h0), this]
def Found (n : Int) (w : World) (e : Ending) (w' : World) : Prop := ∃ f, e = .returned (.tuple #[.int .i64 n, .bool f]) ∧ w = w'

theorem search_any (l : List Int) (hs : l.Pairwise (· < ·)) (x : Int) (b off cap : Nat) (w : World) (hl : l.length ≤ 4000000000)
    (hc : ∀ i, i < l.length → w.cell? ⟨b, off + i, none⟩ = some (.int .u64 (nth l i))) :
    Calls Tryz.prog 42 #[.slice (some ⟨b, off, none⟩) l.length cap, .int .u64 x] w (Found (below l x) w) := by
  have hmono : ∀ i j, i ≤ j → j < l.length → nth l i ≤ nth l j := by
    intro i j hij hj
    rw [nth_eq hj, nth_eq (by omega)]
    rcases Nat.eq_or_lt_of_le hij with rfl | h
    · exact Int.le_refl _
    · have := List.pairwise_iff_getElem.1 hs i j (by omega) hj h; omega
  have HM := Lib.hid hmono
  have HC := Lib.hid hc
  clear hmono hs hc
  go_enter Tryz.func42, Tryz.ntmps42
  go_wp2
  go_loop [7, 8] (fun i j => ∃ p q : Nat, p ≤ q ∧ q ≤ l.length ∧ i = .int .i64 p ∧ j = .int .i64 q ∧ Hid (∀ k, k < p → nth l k < x) ∧ Hid (∀ k, q ≤ k → k < l.length → x ≤ nth l k)) (fun i j => (intOf j).toNat - (intOf i).toNat)
  case atStart => exact ⟨0, l.length, Nat.zero_le _, Nat.le_refl _, rfl, rfl, fun k hk => absurd hk (by omega), fun k hk hk2 => absurd hk (by omega)⟩
  case round =>
    obtain ⟨p, q, hpq, hq, rfl, rfl, h1, h2⟩ := hrel
    have c1 : p < q → w.cell? ⟨b, off + (p + q) / 2, none⟩ = some (.int .u64 (nth l ((p + q) / 2))) := fun h => HC.out _ (by omega)
    have c2 : p < l.length → w.cell? ⟨b, off + p, none⟩ = some (.int .u64 (nth l p)) := fun h => HC.out _ (by omega)
    go_wp2_with (first | (go_at_call 94; refine (less_any _ _ _).mono ?_; rintro e w' ⟨rfl, rfl⟩) | (go_at_call 95; refine (nan2_any _ _).mono ?_; rintro e w' ⟨rfl, rfl⟩))
    · go_round
      case rel =>
        have hlt : p < q := by assumption
        have hx : nth l ((p + q) / 2) < x := by assumption
        go_light
        exact ⟨(p + q) / 2 + 1, q, by omega, hq, by go_num, rfl, fun k hk => by have := HM.out k ((p + q) / 2) (by omega) (by omega); omega, h2⟩
      case measure =>
        have hlt : p < q := by assumption
        go_light
        simp [intOf]; omega
    · go_round
      case rel =>
        have hlt : p < q := by assumption
        have hx : x ≤ nth l ((p + q) / 2) := by assumption
        go_light
        exact ⟨p, (p + q) / 2, by omega, by omega, rfl, by go_num, h1, fun k hk hk2 => by have := HM.out ((p + q) / 2) k (by omega) (by omega); omega⟩
      case measure =>
        have hlt : p < q := by assumption
        go_light
        simp [intOf]; omega
    all_goals
      go_ret2
      have hge : ¬ p < q := by assumption
      go_light
      obtain rfl : p = q := by omega
      rw [below_eq l x p hq h1.out h2.out]
      exact ⟨_, rfl, rfl⟩

/-- Which of some places owns x; -1: there are none. -/
def ownerI (l : List Int) (x : Int) : Int := if l.length = 0 then -1 else if below l x = l.length then 0 else below l x

theorem owner_any (l : List Int) (hs : l.Pairwise (· < ·)) (x : Int) (a : Option Addr) (cap : Nat) (w : World) (hl : l.length ≤ 4000000000)
    (hc : ∀ i, i < l.length → ∃ b off, a = some ⟨b, off, none⟩ ∧ w.cell? ⟨b, off + i, none⟩ = some (.int .u64 (nth l i))) :
    Calls Tryz.prog 74 #[.slice a l.length cap, .int .u64 x] w fun e w' => e = .returned (.int .i64 (ownerI l x)) ∧ w = w' := by
  by_cases h0 : l.length = 0
  · have e : ownerI l x = -1 := by simp [ownerI, h0]
    have E := Lib.hid e
    have hb : ((l.length : Int) == 0) = true := by simp [h0]
    clear e h0 hc hs
    go_enter Tryz.func74, Tryz.ntmps74
    go_wp2
    go_ret
    exact ⟨by rw [E.out]; first | done | rfl, rfl⟩
  · obtain ⟨b, off, rfl, _⟩ := hc 0 (by omega)
    have hc' : ∀ i, i < l.length → w.cell? ⟨b, off + i, none⟩ = some (.int .u64 (nth l i)) := by
      intro i hi
      obtain ⟨b', off', e, h⟩ := hc i hi
      injection e with e; injection e with e1 e2; subst e1 e2; exact h
    have e : ownerI l x = ((below l x % l.length : Nat) : Int) := by
      have := below_le l x
      unfold ownerI
      rw [if_neg h0]
      by_cases h1 : below l x = l.length
      · rw [if_pos h1, h1]; simp
      · rw [if_neg h1, Nat.mod_eq_of_lt (by omega)]
    have hble := below_le l x
    have E := Lib.hid e
    have hb : ((l.length : Int) == 0) = false := by simp [h0]
    have hpos : 0 < l.length := by omega
    have cn := search_any l hs x b off cap w hl hc'
    have CN := Lib.hid cn
    clear cn e h0 hc hs hc'
    go_enter Tryz.func74, Tryz.ntmps74
    go_wp2_with (go_at_call 42; refine CN.out.mono ?_; rintro e w' ⟨f, rfl, rfl⟩)
    go_ret
    exact ⟨by rw [E.out]; first | done | rfl | simp, rfl⟩
end Go.Proofs.YtahiahjhpakeiaaGreatDoor
end
section
namespace Go.Proofs.YtahiahjhpakeiaaGreatDoor
open Go.RowKit
set_option linter.unusedVariables false
set_option linter.unusedSimpArgs false

/-- A byte's turn of the hash. -/
def mix (h : Int) (c : UInt8) : Int :=
  bits .xor .u64 (IntKind.u64.wrap (bits .xor .u64 h (IntKind.u64.wrap (c.toNat : Int)) * 18397679294719823053)) (IntKind.u64.wrap (bits .xor .u64 h (IntKind.u64.wrap (c.toNat : Int)) * 18397679294719823053) / 4294967296)
def mixes (l : List UInt8) (n : Nat) : Int := l.foldl mix (bits .xor .u64 11400714819323198485 (n : Int))
def last (h : Int) : Int := bits .xor .u64 (IntKind.u64.wrap (h * 14181476777654086739)) (IntKind.u64.wrap (h * 14181476777654086739) / 536870912)
/-- The place of a text. -/
def hash (l : List UInt8) : Int := last (mixes l l.length)
theorem mixes_snoc (s : ByteArray) (k : Nat) (h : k < s.size) (n : Nat) : mixes (s.data.toList.take (k + 1)) n = mix (mixes (s.data.toList.take k) n) s.data[k] := by
  unfold mixes
  rw [List.take_succ_eq_append_getElem (by simpa using h), List.foldl_append]; rfl

theorem hash_any (s : ByteArray) (w : World) (hs : s.size ≤ 140737488351232) :
    Calls Tryz.prog 75 #[.string s] w fun e w' => e = .returned (.int .u64 (hash s.data.toList)) ∧ w' = Lib.bytesWorld w 5 s := by
  have hcv := Lib.run_convert_string_bytes (P := Tryz.prog) w 9 189 5 s Tryz.underlying9 Tryz.underlying189 Tryz.underlying5
  go_enter Tryz.func75, Tryz.ntmps75
  go_wp2
  clear hcv
  go_loop [3, 5, 13] (fun p _ i => ∃ k : Nat, k ≤ s.size ∧ i = .int .i64 k ∧ p = .int .u64 (mixes (s.data.toList.take k) s.size)) (fun _ _ i => s.size - (intOf i).toNat)
  case atStart => exact ⟨0, Nat.zero_le _, rfl, rfl⟩
  case round =>
    obtain ⟨k, hk, rfl, rfl⟩ := hrel
    by_cases hlt : k < s.size
    · have hcell : (Lib.bytesWorld w 5 s).cell? ⟨w.heap.size, k, none⟩ = some (.int .u8 ((s.data.toList.getD k 0).toNat : Int)) := Lib.bytesWorld_cell w 5 s k hlt
      have E := Lib.hid (mixes_snoc s k hlt s.size)
      generalize mixes (s.data.toList.take k) s.size = h at *
      go_wp2
      go_round
      case rel => go_light; exact ⟨k + 1, by omega, by go_num, by rw [E.out]; rfl⟩
      case measure => go_light; simp [intOf]; omega
    · obtain rfl : k = s.size := by omega
      have e : mixes (s.data.toList.take s.size) s.size = mixes s.data.toList s.data.toList.length := by rw [List.take_of_length_le (by simp)]; rfl
      have E : Hid (hash s.data.toList = last (mixes (s.data.toList.take s.size) s.size)) := by rw [e]; exact (rfl : hash _ = _)
      clear e
      generalize mixes (s.data.toList.take s.size) s.size = h at *
      go_wp2
      go_ret
      exact ⟨by rw [E.out]; rfl, rfl⟩

theorem below_bytes (w : World) (e : TypeId) (s : ByteArray) : Below w.heap.size w (Lib.bytesWorld w e s) :=
  ⟨rfl, rfl, rfl, by rw [Lib.bytesWorld_size]; omega, fun b hb => Lib.bytesWorld_at_old w e s b hb⟩
/-- The place of a group. -/
def keyH (s : ByteArray) : Int := hash ((ByteArray.mk #[103, 114, 111, 117, 112, 32] ++ s).data.toList)
theorem key_any (s : ByteArray) (w : World) (hs : s.size ≤ 1000000) :
    Calls Tryz.prog 22 #[.string s] w fun e w' => e = .returned (.int .u64 (keyH s)) ∧ Below w.heap.size w w' := by
  obtain ⟨g, hg⟩ : ∃ z, z = ByteArray.mk #[103, 114, 111, 117, 112, 32] ++ s := ⟨_, rfl⟩
  have hgs : g.size ≤ 1000006 := by rw [hg, ByteArray.size_append]; show 6 + s.size ≤ _; omega
  have HK : Hid (keyH s = hash g.data.toList) := show keyH s = _ by rw [hg]; rfl
  have HG := Lib.hid hg
  clear hg
  go_enter Tryz.func22, Tryz.ntmps22
  go_wp2_with fail
  rw [← HG.out]
  refine (hash_any g _ (by omega)).mono ?_
  rintro e w1 ⟨rfl, rfl⟩
  go_wp2_with fail
  go_ret
  exact ⟨by rw [HK.out]; first | done | rfl, below_bytes _ _ _⟩
end Go.Proofs.YtahiahjhpakeiaaGreatDoor
end
