/-
  DERIVED: THE SHELF's CONTRACTS AT THIS DUMP, IN PLAIN WORDS (tools/lay-plain.mjs out of 'YtahiahjhpakeiaaGreatDoorShelfTab.lean', which tools/lay-shelf.mjs wrote): THE SAME DECLARATIONS UNDER THE SAME NAMES: 'import', 'namespace', 'open', 'def', 'theorem' AND NOTHING ELSE: no command of the shelf's: FOR A HAND-IN. Each laying: the table of numbers ('.._ren') and one theorem, a field a fact of the dump's own or the kernel's comparison; each contract: ONE APPLICATION.
-/
import Derived.Shelf.SlGeneric
import Derived.Shelf.SlicesE.Compact
import Derived.Shelf.SortM.Plain
import Derived.Shelf.SortM.SortNone
import Derived.Ground.SlgnProg
import Derived.Ground.SlgmProg
import Derived.Test.YtahiahjhpakeiaaGreatDoorProg
namespace Go.Proofs
open Go.Shelf
def Tryz.compactS_ren : Go.Shelf.Ren := ⟨fun | 43 => 54 | n => n, fun | 22 => 24 | 23 => 9 | 3 => 3 | 4 => 4 | 0 => 0 | n => n, fun | n => n⟩
theorem Tryz.compactS : Go.Proofs.SlLaysE.n43 Tryz.prog Tryz.compactS_ren := {
  mixed := by kernel_rfl
  f43 := ⟨Tryz.f54.name, by decide, Tryz.func54.trans (congrArg some (by kernel_rfl))⟩
  t0 := Tryz.underlying0
  a0 := Tryz.isAgg0
  z0 := Tryz.sizeOf0
  v0 := Tryz.zeroValue0
  t3 := Tryz.underlying3
  a3 := Tryz.isAgg3
  z3 := Tryz.sizeOf3
  v3 := Tryz.zeroValue3
  t4 := Tryz.underlying4
  a4 := Tryz.isAgg4
  z4 := Tryz.sizeOf4
  v4 := Tryz.zeroValue4
  t22 := Tryz.underlying24
  a22 := Tryz.isAgg24
  z22 := Tryz.sizeOf24
  v22 := Tryz.zeroValue24
  a23 := Tryz.isAgg9
  z23 := Tryz.sizeOf9 }
def Tryz.sortS_ren : Go.Shelf.Ren := ⟨fun | 6 => 53 | 8 => 112 | 9 => 111 | 19 => 146 | 20 => 147 | 21 => 137 | 22 => 138 | 23 => 139 | 24 => 140 | 25 => 141 | 26 => 142 | 27 => 143 | 28 => 144 | 29 => 145 | 36 => 169 | 31 => 170 | 32 => 171 | 37 => 172 | 38 => 173 | 39 => 114 | 41 => 187 | n => n, fun | 27 => 24 | 29 => 9 | 3 => 3 | 32 => 163 | 26 => 24 | 0 => 0 | 44 => 220 | 46 => 42 | 4 => 4 | 36 => 213 | 35 => 212 | 41 => 103 | 5 => 5 | 9 => 9 | 53 => 249 | 57 => 253 | 63 => 262 | 64 => 263 | n => n, fun | n => n⟩
theorem Tryz.sortS : Go.Proofs.SlLaysM.n6 Tryz.prog Tryz.sortS_ren := {
  mixed := by kernel_rfl
  f6 := ⟨Tryz.f53.name, by decide, Tryz.func53.trans (congrArg some (by kernel_rfl))⟩
  f8 := Tryz.func112.trans (congrArg some (by kernel_rfl))
  f9 := ⟨Tryz.f111.name, by decide, Tryz.func111.trans (congrArg some (by kernel_rfl))⟩
  f19 := Tryz.func146.trans (congrArg some (by kernel_rfl))
  f20 := Tryz.func147.trans (congrArg some (by kernel_rfl))
  f21 := ⟨Tryz.f137.name, by decide, Tryz.func137.trans (congrArg some (by kernel_rfl))⟩
  f22 := ⟨Tryz.f138.name, by decide, Tryz.func138.trans (congrArg some (by kernel_rfl))⟩
  f23 := ⟨Tryz.f139.name, by decide, Tryz.func139.trans (congrArg some (by kernel_rfl))⟩
  f24 := ⟨Tryz.f140.name, by decide, Tryz.func140.trans (congrArg some (by kernel_rfl))⟩
  f25 := ⟨Tryz.f141.name, by decide, Tryz.func141.trans (congrArg some (by kernel_rfl))⟩
  f26 := ⟨Tryz.f142.name, by decide, Tryz.func142.trans (congrArg some (by kernel_rfl))⟩
  f27 := ⟨Tryz.f143.name, by decide, Tryz.func143.trans (congrArg some (by kernel_rfl))⟩
  f28 := ⟨Tryz.f144.name, by decide, Tryz.func144.trans (congrArg some (by kernel_rfl))⟩
  f29 := ⟨Tryz.f145.name, by decide, Tryz.func145.trans (congrArg some (by kernel_rfl))⟩
  f31 := Tryz.func170.trans (congrArg some (by kernel_rfl))
  f32 := Tryz.func171.trans (congrArg some (by kernel_rfl))
  f36 := ⟨Tryz.f169.name, by decide, Tryz.func169.trans (congrArg some (by kernel_rfl))⟩
  f37 := ⟨Tryz.f172.name, by decide, Tryz.func172.trans (congrArg some (by kernel_rfl))⟩
  f38 := ⟨Tryz.f173.name, by decide, Tryz.func173.trans (congrArg some (by kernel_rfl))⟩
  f39 := ⟨Tryz.f114.name, by decide, Tryz.func114.trans (congrArg some (by kernel_rfl))⟩
  f41 := ⟨Tryz.f187.name, by decide, Tryz.func187.trans (congrArg some (by kernel_rfl))⟩
  t0 := Tryz.underlying0
  a0 := Tryz.isAgg0
  z0 := Tryz.sizeOf0
  v0 := Tryz.zeroValue0
  t3 := Tryz.underlying3
  a3 := Tryz.isAgg3
  z3 := Tryz.sizeOf3
  v3 := Tryz.zeroValue3
  t4 := Tryz.underlying4
  a4 := Tryz.isAgg4
  z4 := Tryz.sizeOf4
  v4 := Tryz.zeroValue4
  t5 := Tryz.underlying5
  a5 := Tryz.isAgg5
  z5 := Tryz.sizeOf5
  v5 := Tryz.zeroValue5
  t9 := Tryz.underlying9
  a9 := Tryz.isAgg9
  z9 := Tryz.sizeOf9
  v9 := Tryz.zeroValue9
  t26 := Tryz.underlying24
  a26 := Tryz.isAgg24
  z26 := Tryz.sizeOf24
  v26 := Tryz.zeroValue24
  t27 := Tryz.underlying24
  a27 := Tryz.isAgg24
  z27 := Tryz.sizeOf24
  v27 := Tryz.zeroValue24
  t29 := Tryz.underlying9
  a29 := Tryz.isAgg9
  z29 := Tryz.sizeOf9
  v29 := Tryz.zeroValue9
  t32 := Tryz.underlying163
  a32 := Tryz.isAgg163
  z32 := Tryz.sizeOf163
  v32 := Tryz.zeroValue163
  t35 := Tryz.underlying212
  a35 := Tryz.isAgg212
  z35 := Tryz.sizeOf212
  v35 := Tryz.zeroValue212
  t36 := Tryz.underlying213
  a36 := Tryz.isAgg213
  z36 := Tryz.sizeOf213
  v36 := Tryz.zeroValue213
  t41 := Tryz.underlying103
  a41 := Tryz.isAgg103
  z41 := Tryz.sizeOf103
  v41 := Tryz.zeroValue103
  t44 := Tryz.underlying220
  a44 := Tryz.isAgg220
  z44 := Tryz.sizeOf220
  v44 := Tryz.zeroValue220
  t46 := Tryz.underlying42
  a46 := Tryz.isAgg42
  z46 := Tryz.sizeOf42
  v46 := Tryz.zeroValue42
  t53 := Tryz.underlying249
  a53 := Tryz.isAgg249
  z53 := Tryz.sizeOf249
  v53 := Tryz.zeroValue249
  t57 := Tryz.underlying253
  a57 := Tryz.isAgg253
  z57 := Tryz.sizeOf253
  v57 := Tryz.zeroValue253
  t63 := Tryz.underlying262
  a63 := Tryz.isAgg262
  z63 := Tryz.sizeOf262
  v63 := Tryz.zeroValue262
  t64 := Tryz.underlying263
  a64 := Tryz.isAgg263
  z64 := Tryz.sizeOf263
  v64 := Tryz.zeroValue263 }
end Go.Proofs
