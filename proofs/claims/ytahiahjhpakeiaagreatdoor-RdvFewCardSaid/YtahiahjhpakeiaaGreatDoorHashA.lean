
/-
  The place of a text, and of a group.
-/
import Derived.Test.YtahiahjhpakeiaaGreatDoorRingA
import Derived.Test.YtahiahjhpakeiaaGreatDoorBase
import Derived.Lib.ConvBytes
namespace Go.Proofs.YtahiahjhpakeiaaGreatDoor
open Go.RowKit
set_option linter.unusedVariables false
set_option linter.unusedSimpArgs false

/-- A byte's turn of the hash. -/
def mix (h : Int) (c : UInt8) : Int :=
  bits .xor .u64 (IntKind.u64.wrap (bits .xor .u64 h (IntKind.u64.wrap (c.toNat : Int)) * 18397679294719823053)) (IntKind.u64.wrap (bits .xor .u64 h (IntKind.u64.wrap (c.toNat : Int)) * 18397679294719823053) / 4294967296)
def mixes (l : List UInt8) (n : Nat) : Int := l.foldl mix (bits .xor .u64 11400714819323198485 (n : Int))
def last (h : Int) : Int := bits .xor .u64 (IntKind.u64.wrap (h * 14181476777654086739)) (IntKind.u64.wrap (h * 14181476777654086739) / 536870912)
/-- The place of a text. -/
def hash (l : List UInt8) : Int := last (mixes l l.length)
theorem quo_u64 (g : Int) (d : Int) (hd : 1 ≤ d) : IntKind.u64.wrap ((IntKind.u64.wrap g).tdiv d) = IntKind.u64.wrap g / d :=
  IntWalk.u64_quo _ _ (by rw [IntKind.wrap_u64]; omega)
theorem bits_place (x y : Int) : isPlace (bits .xor .u64 x y) := by
  unfold bits; simp only []; rw [IntKind.wrap_u64]; unfold isPlace; omega
theorem hash_place (l : List UInt8) : isPlace (hash l) := bits_place _ _
theorem mixes_snoc (s : ByteArray) (k : Nat) (h : k < s.size) (n : Nat) : mixes (s.data.toList.take (k + 1)) n = mix (mixes (s.data.toList.take k) n) s.data[k] := by
  unfold mixes
  rw [List.take_succ_eq_append_getElem (by simpa using h), List.foldl_append]; rfl

theorem hash_any (s : ByteArray) (w : World) (hs : s.size ≤ 140737488351232) :
    Calls Tryz.prog 75 #[.string s] w fun e w' => e = .returned (.int .u64 (hash s.data.toList)) ∧ w' = Lib.bytesWorld w 5 s := by
  have hcv := Lib.run_convert_string_bytes (P := Tryz.prog) w 9 189 5 s Tryz.underlying9 Tryz.underlying189 Tryz.underlying5
  go_enter Tryz.func75, Tryz.ntmps75
  go_wp2
  clear hcv
  go_loop [3, 5, 13] (fun p _ i => ∃ k : Nat, k ≤ s.size ∧ i = .int .i64 k ∧ p = .int .u64 (mixes (s.data.toList.take k) s.size)) (fun _ _ i => s.size - (intOf i).toNat)
  case atStart => exact ⟨0, Nat.zero_le _, rfl, rfl⟩
  case round =>
    obtain ⟨k, hk, rfl, rfl⟩ := hrel
    by_cases hlt : k < s.size
    · have hcell : (Lib.bytesWorld w 5 s).cell? ⟨w.heap.size, k, none⟩ = some (.int .u8 ((s.data.toList.getD k 0).toNat : Int)) := Lib.bytesWorld_cell w 5 s k hlt
      have E := Lib.hid (mixes_snoc s k hlt s.size)
      generalize mixes (s.data.toList.take k) s.size = h at *
      go_wp2
      go_round
      case rel => go_light; exact ⟨k + 1, by omega, by go_num, by rw [E.out]; rfl⟩
      case measure => go_light; simp [intOf]; omega
    · obtain rfl : k = s.size := by omega
      have e : mixes (s.data.toList.take s.size) s.size = mixes s.data.toList s.data.toList.length := by rw [List.take_of_length_le (by simp)]; rfl
      have E : Hid (hash s.data.toList = last (mixes (s.data.toList.take s.size) s.size)) := by rw [e]; exact (rfl : hash _ = _)
      clear e
      generalize mixes (s.data.toList.take s.size) s.size = h at *
      go_wp2
      go_ret
      exact ⟨by rw [E.out]; rfl, rfl⟩

theorem below_bytes (w : World) (e : TypeId) (s : ByteArray) : Below w.heap.size w (Lib.bytesWorld w e s) :=
  ⟨rfl, rfl, rfl, by rw [Lib.bytesWorld_size]; omega, fun b hb => Lib.bytesWorld_at_old w e s b hb⟩
/-- The place of a group. -/
def keyH (s : ByteArray) : Int := hash ((ByteArray.mk #[103, 114, 111, 117, 112, 32] ++ s).data.toList)
theorem keyH_place (s : ByteArray) : isPlace (keyH s) := hash_place _
theorem key_any (s : ByteArray) (w : World) (hs : s.size ≤ 1000000) :
    Calls Tryz.prog 22 #[.string s] w fun e w' => e = .returned (.int .u64 (keyH s)) ∧ Below w.heap.size w w' := by
  obtain ⟨g, hg⟩ : ∃ z, z = ByteArray.mk #[103, 114, 111, 117, 112, 32] ++ s := ⟨_, rfl⟩
  have hgs : g.size ≤ 1000006 := by rw [hg, ByteArray.size_append]; show 6 + s.size ≤ _; omega
  have HK : Hid (keyH s = hash g.data.toList) := show keyH s = _ by rw [hg]; rfl
  have HG := Lib.hid hg
  clear hg
  go_enter Tryz.func22, Tryz.ntmps22
  go_wp2_with fail
  rw [← HG.out]
  refine (hash_any g _ (by omega)).mono ?_
  rintro e w1 ⟨rfl, rfl⟩
  go_wp2_with fail
  go_ret
  exact ⟨by rw [HK.out]; first | done | rfl, below_bytes _ _ _⟩
end Go.Proofs.YtahiahjhpakeiaaGreatDoor
