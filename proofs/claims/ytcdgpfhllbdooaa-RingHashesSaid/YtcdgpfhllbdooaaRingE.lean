/-
  The place of a text, the reference's too, and the law RingHashes: for every text, whatever the memory; no conditions.
-/
import Derived.Test.YtcdgpfhllbdooaaRingC
import Derived.Lib.ConvBytes
namespace Go.Proofs.Ytcdgpfhllbdooaa
open Go.RowKit
set_option linter.unusedVariables false
set_option linter.unusedSimpArgs false

/-- A byte's turn of the hash. -/
def mix (h : Int) (c : UInt8) : Int :=
  bits .xor .u64 (IntKind.u64.wrap (bits .xor .u64 h (IntKind.u64.wrap (c.toNat : Int)) * 18397679294719823053)) (IntKind.u64.wrap (bits .xor .u64 h (IntKind.u64.wrap (c.toNat : Int)) * 18397679294719823053) / 4294967296)
def mixes (l : List UInt8) (n : Nat) : Int := l.foldl mix (bits .xor .u64 11400714819323198485 (n : Int))
def last (h : Int) : Int := bits .xor .u64 (IntKind.u64.wrap (h * 14181476777654086739)) (IntKind.u64.wrap (h * 14181476777654086739) / 536870912)
/-- The place of a text. -/
def hash (l : List UInt8) : Int := last (mixes l l.length)
theorem quo_u64 (g : Int) (d : Int) (hd : 1 ≤ d) : IntKind.u64.wrap ((IntKind.u64.wrap g).tdiv d) = IntKind.u64.wrap g / d :=
  IntWalk.u64_quo _ _ (by rw [IntKind.wrap_u64]; omega)
theorem bits_place (x y : Int) : isPlace (bits .xor .u64 x y) := by
  unfold bits; simp only []; rw [IntKind.wrap_u64]; unfold isPlace; omega
theorem hash_place (l : List UInt8) : isPlace (hash l) := bits_place _ _
theorem mixes_snoc (s : ByteArray) (k : Nat) (h : k < s.size) (n : Nat) : mixes (s.data.toList.take (k + 1)) n = mix (mixes (s.data.toList.take k) n) s.data[k] := by
  unfold mixes
  rw [List.take_succ_eq_append_getElem (by simpa using h), List.foldl_append]; rfl

theorem hash_any (s : ByteArray) (w : World) (hs : s.size ≤ 140737488351232) :
    Calls Try.prog 32 #[.string s] w fun e w' => e = .returned (.int .u64 (hash s.data.toList)) ∧ w' = Lib.bytesWorld w 5 s := by
  have hcv := Lib.run_convert_string_bytes (P := Try.prog) w 9 66 5 s Try.underlying9 Try.underlying66 Try.underlying5
  go_enter Try.func32, Try.ntmps32
  go_wp2
  clear hcv
  go_loop [3, 5, 13] (fun p _ i => ∃ k : Nat, k ≤ s.size ∧ i = .int .i64 k ∧ p = .int .u64 (mixes (s.data.toList.take k) s.size)) (fun _ _ i => s.size - (intOf i).toNat)
  case atStart => exact ⟨0, Nat.zero_le _, rfl, rfl⟩
  case round =>
    obtain ⟨k, hk, rfl, rfl⟩ := hrel
    by_cases hlt : k < s.size
    · have hcell : (Lib.bytesWorld w 5 s).cell? ⟨w.heap.size, k, none⟩ = some (.int .u8 ((s.data.toList.getD k 0).toNat : Int)) := Lib.bytesWorld_cell w 5 s k hlt
      have E := Lib.hid (mixes_snoc s k hlt s.size)
      generalize mixes (s.data.toList.take k) s.size = h at *
      go_wp2
      go_round
      case rel => go_light; exact ⟨k + 1, by omega, by go_num, by rw [E.out]; rfl⟩
      case measure => go_light; simp [intOf]; omega
    · obtain rfl : k = s.size := by omega
      have e : mixes (s.data.toList.take s.size) s.size = mixes s.data.toList s.data.toList.length := by rw [List.take_of_length_le (by simp)]; rfl
      have E : Hid (hash s.data.toList = last (mixes (s.data.toList.take s.size) s.size)) := by rw [e]; exact (rfl : hash _ = _)
      clear e
      generalize mixes (s.data.toList.take s.size) s.size = h at *
      go_wp2
      go_ret
      exact ⟨by rw [E.out]; rfl, rfl⟩

theorem rhash_any (s : ByteArray) (w : World) (hs : s.size ≤ 140737488351232) :
    Calls Try.prog 33 #[.string s] w fun e w' => e = .returned (.int .u64 (hash s.data.toList)) ∧ w = w' := by
  go_enter Try.func33, Try.ntmps33
  go_wp2
  go_loop [3, 4] (fun p i => ∃ k : Nat, k ≤ s.size ∧ i = .int .i64 k ∧ p = .int .u64 (mixes (s.data.toList.take k) s.size)) (fun _ i => s.size - (intOf i).toNat)
  case atStart => exact ⟨0, Nat.zero_le _, rfl, rfl⟩
  case round =>
    obtain ⟨k, hk, rfl, rfl⟩ := hrel
    by_cases hlt : k < s.size
    · have E := Lib.hid (mixes_snoc s k hlt s.size)
      generalize mixes (s.data.toList.take k) s.size = h at *
      go_wp2
      go_round
      case rel => go_light; exact ⟨k + 1, by omega, by go_num, by rw [E.out, quo_u64 _ _ (by omega)]; rfl⟩
      case measure => go_light; simp [intOf]; omega
    · obtain rfl : k = s.size := by omega
      have e : mixes (s.data.toList.take s.size) s.size = mixes s.data.toList s.data.toList.length := by rw [List.take_of_length_le (by simp)]; rfl
      have E : Hid (hash s.data.toList = last (mixes (s.data.toList.take s.size) s.size)) := by rw [e]; exact (rfl : hash _ = _)
      clear e
      generalize mixes (s.data.toList.take s.size) s.size = h at *
      go_wp2
      go_ret
      exact ⟨by rw [E.out]; show Ending.returned (.int .u64 (bits .xor .u64 (IntKind.u64.wrap (h * 14181476777654086739)) (IntKind.u64.wrap ((IntKind.u64.wrap (h * 14181476777654086739)).tdiv 536870912)))) = _; rw [quo_u64 _ _ (by omega)]; rfl, rfl⟩

theorem below_bytes {B : Nat} {w : World} (t : TypeId) (s : ByteArray) (hB : B ≤ w.heap.size) : Below B w (Lib.bytesWorld w t s) :=
  ⟨rfl, rfl, rfl, by rw [Lib.bytesWorld_size]; omega, fun k hk => Lib.bytesWorld_at_old w t s k (by omega)⟩

/-- At most n bytes of a text. -/
def cutS (s : ByteArray) (n : Nat) : ByteArray := if s.size ≤ n then s else s.extract 0 n
theorem cutS_size (s : ByteArray) (n : Nat) : (cutS s n).size ≤ n ∧ (cutS s n).size ≤ s.size := by
  unfold cutS; split
  · omega
  · simp; omega
theorem cut_any (s : ByteArray) (n : Nat) (w : World) (hs : s.size ≤ 140737488351232) (hn : n ≤ 1000000) :
    Calls Try.prog 31 #[.string s, .int .i64 n] w fun e w' => e = .returned (.string (cutS s n)) ∧ w = w' := by
  by_cases h : s.size ≤ n
  · have E : Hid (cutS s n = s) := if_pos h
    have h1 : ¬ n < s.size := by omega
    go_enter Try.func31, Try.ntmps31
    go_wp2
    go_ret
    exact ⟨by rw [E.out]; first | done | rfl, rfl⟩
  · have E : Hid (cutS s n = s.extract 0 n) := if_neg h
    have h1 : n < s.size := by omega
    have h2 : n ≤ s.size := by omega
    clear h
    go_enter Try.func31, Try.ntmps31
    go_wp2
    go_ret
    exact ⟨by rw [E.out]; first | done | rfl, rfl⟩

theorem ringHashes_walk (W : World) (s : ByteArray) (hs : s.size ≤ 140737488351232) :
    Calls Try.prog 11 #[.string s] W fun e W' => e = .returned (.bool true) ∧ Below W.heap.size W W' := by
  have hc := cutS_size s 300
  have cut := Lib.hid (cut_any s 300 W hs (by omega))
  have h1 := Lib.hid fun w => hash_any (cutS s 300) w (by omega)
  have h2 := Lib.hid fun w => rhash_any (cutS s 300) w (by omega)
  have hB := Below.refl W.heap.size W
  clear hc
  go_enter Try.func11, Try.ntmps11
  go_wp2_with (first | (go_at_call 31; refine cut.out.mono ?_; rintro e w' ⟨rfl, rfl⟩) | (go_at_call 23; refine (aw_any _).mono ?_; rintro e w' ⟨rfl, hb⟩) | (go_at_call 32; refine (h1.out _).mono ?_; rintro e w' ⟨rfl, rfl⟩) | (go_at_call 33; refine (h2.out _).mono ?_; rintro e w' ⟨rfl, rfl⟩))
  go_ret
  exact ⟨rfl, hb.trans (below_bytes _ _ hb.size)⟩
end Go.Proofs.Ytcdgpfhllbdooaa
