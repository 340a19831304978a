/-
  DERIVED: THE SHELF's CONTRACTS AT THIS DUMP, IN PLAIN WORDS (tools/lay-plain.mjs out of 'YthbijjpaljjapaaDoorShelfChord.lean', which tools/lay-shelf.mjs wrote): THE SAME DECLARATIONS UNDER THE SAME NAMES: 'import', 'namespace', 'open', 'def', 'theorem' AND NOTHING ELSE: no command of the shelf's: FOR A HAND-IN. Each laying: the table of numbers ('.._ren') and one theorem, a field a fact of the dump's own or the kernel's comparison; each contract: ONE APPLICATION.
-/
import Derived.Shelf.SlGeneric
import Derived.Shelf.SlicesE.Index
import Derived.Shelf.Sort.Plain
import Derived.Ground.SlgnProg
import Derived.Test.YthbijjpaljjapaaDoorProg
namespace Go.Proofs
open Go.Shelf
def Tryd.indexU_ren : Go.Shelf.Ren := ⟨fun | 29 => 17 | n => n, fun | 22 => 22 | 23 => 31 | 3 => 3 | 0 => 0 | 4 => 4 | n => n, fun | n => n⟩
theorem Tryd.indexU : Go.Proofs.SlLaysE.n29 Tryd.prog Tryd.indexU_ren := {
  mixed := by kernel_rfl
  f29 := ⟨Tryd.f17.name, by decide, Tryd.func17.trans (congrArg some (by kernel_rfl))⟩
  t0 := Tryd.underlying0
  a0 := Tryd.isAgg0
  z0 := Tryd.sizeOf0
  v0 := Tryd.zeroValue0
  t3 := Tryd.underlying3
  a3 := Tryd.isAgg3
  z3 := Tryd.sizeOf3
  v3 := Tryd.zeroValue3
  t4 := Tryd.underlying4
  a4 := Tryd.isAgg4
  z4 := Tryd.sizeOf4
  v4 := Tryd.zeroValue4
  t22 := Tryd.underlying22
  a22 := Tryd.isAgg22
  z22 := Tryd.sizeOf22
  v22 := Tryd.zeroValue22
  a23 := Tryd.isAgg31
  z23 := Tryd.sizeOf31 }
def Tryd.lays189_ren : Go.Shelf.Ren := ⟨fun | 189 => 30 | 125 => 42 | 257 => 41 | 128 => 56 | 129 => 57 | 294 => 47 | 295 => 48 | 296 => 49 | 297 => 50 | 298 => 51 | 299 => 52 | 216 => 53 | 300 => 54 | 301 => 55 | 328 => 67 | 329 => 68 | 330 => 69 | 331 => 70 | 332 => 71 | 215 => 72 | 343 => 77 | n => n, fun | 28 => 38 | 3 => 3 | 46 => 93 | 0 => 0 | 51 => 119 | 53 => 30 | 4 => 4 | 183 => 111 | 182 => 110 | 131 => 116 | 5 => 5 | 9 => 9 | 218 => 127 | 222 => 131 | 228 => 136 | 229 => 137 | n => n, fun | n => n⟩
theorem Tryd.lays189 : Go.Proofs.Lays.n189 Tryd.prog Tryd.lays189_ren := {
  mixed := by kernel_rfl
  f125 := Tryd.func42.trans (congrArg some (by kernel_rfl))
  f128 := Tryd.func56.trans (congrArg some (by kernel_rfl))
  f129 := Tryd.func57.trans (congrArg some (by kernel_rfl))
  f189 := Tryd.func30.trans (congrArg some (by kernel_rfl))
  f215 := Tryd.func72.trans (congrArg some (by kernel_rfl))
  f216 := Tryd.func53.trans (congrArg some (by kernel_rfl))
  f257 := Tryd.func41.trans (congrArg some (by kernel_rfl))
  f294 := Tryd.func47.trans (congrArg some (by kernel_rfl))
  f295 := Tryd.func48.trans (congrArg some (by kernel_rfl))
  f296 := Tryd.func49.trans (congrArg some (by kernel_rfl))
  f297 := Tryd.func50.trans (congrArg some (by kernel_rfl))
  f298 := Tryd.func51.trans (congrArg some (by kernel_rfl))
  f299 := Tryd.func52.trans (congrArg some (by kernel_rfl))
  f300 := Tryd.func54.trans (congrArg some (by kernel_rfl))
  f301 := Tryd.func55.trans (congrArg some (by kernel_rfl))
  f328 := Tryd.func67.trans (congrArg some (by kernel_rfl))
  f329 := Tryd.func68.trans (congrArg some (by kernel_rfl))
  f330 := Tryd.func69.trans (congrArg some (by kernel_rfl))
  f331 := Tryd.func70.trans (congrArg some (by kernel_rfl))
  f332 := Tryd.func71.trans (congrArg some (by kernel_rfl))
  f343 := Tryd.func77.trans (congrArg some (by kernel_rfl))
  t0 := Tryd.underlying0
  a0 := Tryd.isAgg0
  z0 := Tryd.sizeOf0
  v0 := Tryd.zeroValue0
  t3 := Tryd.underlying3
  a3 := Tryd.isAgg3
  z3 := Tryd.sizeOf3
  v3 := Tryd.zeroValue3
  t4 := Tryd.underlying4
  a4 := Tryd.isAgg4
  z4 := Tryd.sizeOf4
  v4 := Tryd.zeroValue4
  t5 := Tryd.underlying5
  a5 := Tryd.isAgg5
  z5 := Tryd.sizeOf5
  v5 := Tryd.zeroValue5
  t9 := Tryd.underlying9
  a9 := Tryd.isAgg9
  z9 := Tryd.sizeOf9
  v9 := Tryd.zeroValue9
  t28 := Tryd.underlying38
  a28 := Tryd.isAgg38
  z28 := Tryd.sizeOf38
  v28 := Tryd.zeroValue38
  t46 := Tryd.underlying93
  a46 := Tryd.isAgg93
  z46 := Tryd.sizeOf93
  v46 := Tryd.zeroValue93
  t51 := Tryd.underlying119
  a51 := Tryd.isAgg119
  z51 := Tryd.sizeOf119
  v51 := Tryd.zeroValue119
  t53 := Tryd.underlying30
  a53 := Tryd.isAgg30
  z53 := Tryd.sizeOf30
  v53 := Tryd.zeroValue30
  t131 := Tryd.underlying116
  a131 := Tryd.isAgg116
  z131 := Tryd.sizeOf116
  v131 := Tryd.zeroValue116
  t182 := Tryd.underlying110
  a182 := Tryd.isAgg110
  z182 := Tryd.sizeOf110
  v182 := Tryd.zeroValue110
  t183 := Tryd.underlying111
  a183 := Tryd.isAgg111
  z183 := Tryd.sizeOf111
  v183 := Tryd.zeroValue111
  t218 := Tryd.underlying127
  a218 := Tryd.isAgg127
  z218 := Tryd.sizeOf127
  v218 := Tryd.zeroValue127
  t222 := Tryd.underlying131
  a222 := Tryd.isAgg131
  z222 := Tryd.sizeOf131
  v222 := Tryd.zeroValue131
  t228 := Tryd.underlying136
  a228 := Tryd.isAgg136
  z228 := Tryd.sizeOf136
  v228 := Tryd.zeroValue136
  t229 := Tryd.underlying137
  a229 := Tryd.isAgg137
  z229 := Tryd.sizeOf137
  v229 := Tryd.zeroValue137 }
end Go.Proofs
