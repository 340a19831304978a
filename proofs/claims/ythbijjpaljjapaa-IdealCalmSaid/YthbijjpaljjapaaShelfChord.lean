/-
  DERIVED: THE SHELF's CONTRACTS AT THIS DUMP, IN PLAIN WORDS (tools/lay-plain.mjs out of 'YthbijjpaljjapaaShelfChord.lean', which tools/lay-shelf.mjs wrote): THE SAME DECLARATIONS UNDER THE SAME NAMES: 'import', 'namespace', 'open', 'def', 'theorem' AND NOTHING ELSE: no command of the shelf's: FOR A HAND-IN. Each laying: the table of numbers ('.._ren') and one theorem, a field a fact of the dump's own or the kernel's comparison; each contract: ONE APPLICATION.
-/
import Derived.Shelf.SlGeneric
import Derived.Shelf.SlicesE.Index
import Derived.Shelf.Sort.Plain
import Derived.Ground.SlgnProg
import Derived.Test.YthbijjpaljjapaaProg
namespace Go.Proofs
open Go.Shelf
def Try.indexU_ren : Go.Shelf.Ren := ⟨fun | 29 => 30 | n => n, fun | 22 => 22 | 23 => 32 | 3 => 3 | 0 => 0 | 4 => 4 | n => n, fun | n => n⟩
theorem Try.indexU : Go.Proofs.SlLaysE.n29 Try.prog Try.indexU_ren := {
  mixed := by kernel_rfl
  f29 := ⟨Try.f30.name, by decide, Try.func30.trans (congrArg some (by kernel_rfl))⟩
  t0 := Try.underlying0
  a0 := Try.isAgg0
  z0 := Try.sizeOf0
  v0 := Try.zeroValue0
  t3 := Try.underlying3
  a3 := Try.isAgg3
  z3 := Try.sizeOf3
  v3 := Try.zeroValue3
  t4 := Try.underlying4
  a4 := Try.isAgg4
  z4 := Try.sizeOf4
  v4 := Try.zeroValue4
  t22 := Try.underlying22
  a22 := Try.isAgg22
  z22 := Try.sizeOf22
  v22 := Try.zeroValue22
  a23 := Try.isAgg32
  z23 := Try.sizeOf32 }
def Try.lays189_ren : Go.Shelf.Ren := ⟨fun | 189 => 37 | 125 => 54 | 257 => 53 | 128 => 73 | 129 => 74 | 294 => 64 | 295 => 65 | 296 => 66 | 297 => 67 | 298 => 68 | 299 => 69 | 216 => 70 | 300 => 71 | 301 => 72 | 328 => 89 | 329 => 90 | 330 => 91 | 331 => 92 | 332 => 93 | 215 => 94 | 343 => 101 | n => n, fun | 28 => 23 | 3 => 3 | 46 => 98 | 0 => 0 | 51 => 126 | 53 => 31 | 4 => 4 | 183 => 119 | 182 => 118 | 131 => 110 | 5 => 5 | 9 => 9 | 218 => 138 | 222 => 142 | 228 => 146 | 229 => 147 | n => n, fun | n => n⟩
theorem Try.lays189 : Go.Proofs.Lays.n189 Try.prog Try.lays189_ren := {
  mixed := by kernel_rfl
  f125 := Try.func54.trans (congrArg some (by kernel_rfl))
  f128 := Try.func73.trans (congrArg some (by kernel_rfl))
  f129 := Try.func74.trans (congrArg some (by kernel_rfl))
  f189 := Try.func37.trans (congrArg some (by kernel_rfl))
  f215 := Try.func94.trans (congrArg some (by kernel_rfl))
  f216 := Try.func70.trans (congrArg some (by kernel_rfl))
  f257 := Try.func53.trans (congrArg some (by kernel_rfl))
  f294 := Try.func64.trans (congrArg some (by kernel_rfl))
  f295 := Try.func65.trans (congrArg some (by kernel_rfl))
  f296 := Try.func66.trans (congrArg some (by kernel_rfl))
  f297 := Try.func67.trans (congrArg some (by kernel_rfl))
  f298 := Try.func68.trans (congrArg some (by kernel_rfl))
  f299 := Try.func69.trans (congrArg some (by kernel_rfl))
  f300 := Try.func71.trans (congrArg some (by kernel_rfl))
  f301 := Try.func72.trans (congrArg some (by kernel_rfl))
  f328 := Try.func89.trans (congrArg some (by kernel_rfl))
  f329 := Try.func90.trans (congrArg some (by kernel_rfl))
  f330 := Try.func91.trans (congrArg some (by kernel_rfl))
  f331 := Try.func92.trans (congrArg some (by kernel_rfl))
  f332 := Try.func93.trans (congrArg some (by kernel_rfl))
  f343 := Try.func101.trans (congrArg some (by kernel_rfl))
  t0 := Try.underlying0
  a0 := Try.isAgg0
  z0 := Try.sizeOf0
  v0 := Try.zeroValue0
  t3 := Try.underlying3
  a3 := Try.isAgg3
  z3 := Try.sizeOf3
  v3 := Try.zeroValue3
  t4 := Try.underlying4
  a4 := Try.isAgg4
  z4 := Try.sizeOf4
  v4 := Try.zeroValue4
  t5 := Try.underlying5
  a5 := Try.isAgg5
  z5 := Try.sizeOf5
  v5 := Try.zeroValue5
  t9 := Try.underlying9
  a9 := Try.isAgg9
  z9 := Try.sizeOf9
  v9 := Try.zeroValue9
  t28 := Try.underlying23
  a28 := Try.isAgg23
  z28 := Try.sizeOf23
  v28 := Try.zeroValue23
  t46 := Try.underlying98
  a46 := Try.isAgg98
  z46 := Try.sizeOf98
  v46 := Try.zeroValue98
  t51 := Try.underlying126
  a51 := Try.isAgg126
  z51 := Try.sizeOf126
  v51 := Try.zeroValue126
  t53 := Try.underlying31
  a53 := Try.isAgg31
  z53 := Try.sizeOf31
  v53 := Try.zeroValue31
  t131 := Try.underlying110
  a131 := Try.isAgg110
  z131 := Try.sizeOf110
  v131 := Try.zeroValue110
  t182 := Try.underlying118
  a182 := Try.isAgg118
  z182 := Try.sizeOf118
  v182 := Try.zeroValue118
  t183 := Try.underlying119
  a183 := Try.isAgg119
  z183 := Try.sizeOf119
  v183 := Try.zeroValue119
  t218 := Try.underlying138
  a218 := Try.isAgg138
  z218 := Try.sizeOf138
  v218 := Try.zeroValue138
  t222 := Try.underlying142
  a222 := Try.isAgg142
  z222 := Try.sizeOf142
  v222 := Try.zeroValue142
  t228 := Try.underlying146
  a228 := Try.isAgg146
  z228 := Try.sizeOf146
  v228 := Try.zeroValue146
  t229 := Try.underlying147
  a229 := Try.isAgg147
  z229 := Try.sizeOf147
  v229 := Try.zeroValue147 }
end Go.Proofs
