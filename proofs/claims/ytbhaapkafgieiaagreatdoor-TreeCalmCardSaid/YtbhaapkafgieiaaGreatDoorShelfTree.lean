/-
  DERIVED: THE SHELF's CONTRACTS AT THIS DUMP, IN PLAIN WORDS (tools/lay-plain.mjs out of 'YtbhaapkafgieiaaGreatDoorShelfTree.lean', which tools/lay-shelf.mjs wrote): THE SAME DECLARATIONS UNDER THE SAME NAMES: 'import', 'namespace', 'open', 'def', 'theorem' AND NOTHING ELSE: no command of the shelf's: FOR A HAND-IN. Each laying: the table of numbers ('.._ren') and one theorem, a field a fact of the dump's own or the kernel's comparison; each contract: ONE APPLICATION.
-/
import Derived.Shelf.SlGeneric
import Derived.Shelf.SlIterI.Collect
import Derived.Shelf.SlicesE.Compact
import Derived.Ground.SlgnProg
import Derived.Ground.GgzProg
import Derived.Test.YtbhaapkafgieiaaGreatDoorProg
namespace Go.Proofs
open Go.Shelf
def Tryz.keysI_ren : Go.Shelf.Ren := ⟨fun | 7 => 81 | 10 => 106 | n => n, fun | 23 => 85 | 26 => 3 | 3 => 3 | 28 => 141 | 0 => 0 | 27 => 140 | 33 => 49 | 4 => 4 | n => n, fun | n => n⟩
theorem Tryz.keysI : Go.Proofs.SlLaysZI.n7 Tryz.prog Tryz.keysI_ren := {
  mixed := by kernel_rfl
  f7 := ⟨Tryz.f81.name, by decide, Tryz.func81.trans (congrArg some (by kernel_rfl))⟩
  f10 := ⟨Tryz.f106.name, by decide, Tryz.func106.trans (congrArg some (by kernel_rfl))⟩
  t0 := Tryz.underlying0
  a0 := Tryz.isAgg0
  z0 := Tryz.sizeOf0
  v0 := Tryz.zeroValue0
  t4 := Tryz.underlying4
  a4 := Tryz.isAgg4
  z4 := Tryz.sizeOf4
  v4 := Tryz.zeroValue4
  t23 := Tryz.underlying85
  a23 := Tryz.isAgg85
  z23 := Tryz.sizeOf85
  v23 := Tryz.zeroValue85
  t26 := Tryz.underlying3
  a26 := Tryz.isAgg3
  z26 := Tryz.sizeOf3
  v26 := Tryz.zeroValue3
  t27 := Tryz.underlying140
  a27 := Tryz.isAgg140
  z27 := Tryz.sizeOf140
  v27 := Tryz.zeroValue140
  t28 := Tryz.underlying141
  a28 := Tryz.isAgg141
  z28 := Tryz.sizeOf141
  v28 := Tryz.zeroValue141
  t33 := Tryz.underlying49
  a33 := Tryz.isAgg49
  z33 := Tryz.sizeOf49
  v33 := Tryz.zeroValue49 }
def Tryz.collectI_ren : Go.Shelf.Ren := ⟨fun | 8 => 80 | 11 => 105 | n => n, fun | 26 => 3 | 28 => 141 | 24 => 39 | 0 => 0 | 33 => 49 | 4 => 4 | n => n, fun | n => n⟩
theorem Tryz.collectI : Go.Proofs.SlLaysZI.n8 Tryz.prog Tryz.collectI_ren := {
  mixed := by kernel_rfl
  f8 := ⟨Tryz.f80.name, by decide, Tryz.func80.trans (congrArg some (by kernel_rfl))⟩
  f11 := ⟨Tryz.f105.name, by decide, Tryz.func105.trans (congrArg some (by kernel_rfl))⟩
  t0 := Tryz.underlying0
  a0 := Tryz.isAgg0
  z0 := Tryz.sizeOf0
  v0 := Tryz.zeroValue0
  t24 := Tryz.underlying39
  a24 := Tryz.isAgg39
  z24 := Tryz.sizeOf39
  v24 := Tryz.zeroValue39
  t26 := Tryz.underlying3
  a26 := Tryz.isAgg3
  z26 := Tryz.sizeOf3
  v26 := Tryz.zeroValue3
  t28 := Tryz.underlying141
  a28 := Tryz.isAgg141
  z28 := Tryz.sizeOf141
  v28 := Tryz.zeroValue141
  i26 := by kernel_rfl }
def Tryz.compactI_ren : Go.Shelf.Ren := ⟨fun | 43 => 82 | n => n, fun | 22 => 39 | 23 => 3 | 3 => 3 | 4 => 4 | 0 => 0 | n => n, fun | n => n⟩
theorem Tryz.compactI : Go.Proofs.SlLaysE.n43 Tryz.prog Tryz.compactI_ren := {
  mixed := by kernel_rfl
  f43 := ⟨Tryz.f82.name, by decide, Tryz.func82.trans (congrArg some (by kernel_rfl))⟩
  t0 := Tryz.underlying0
  a0 := Tryz.isAgg0
  z0 := Tryz.sizeOf0
  v0 := Tryz.zeroValue0
  t3 := Tryz.underlying3
  a3 := Tryz.isAgg3
  z3 := Tryz.sizeOf3
  v3 := Tryz.zeroValue3
  t4 := Tryz.underlying4
  a4 := Tryz.isAgg4
  z4 := Tryz.sizeOf4
  v4 := Tryz.zeroValue4
  t22 := Tryz.underlying39
  a22 := Tryz.isAgg39
  z22 := Tryz.sizeOf39
  v22 := Tryz.zeroValue39
  a23 := Tryz.isAgg3
  z23 := Tryz.sizeOf3 }
end Go.Proofs
