/-
  DERIVED: THE SHELF's CONTRACTS AT THIS DUMP, IN PLAIN WORDS (tools/lay-plain.mjs out of 'NLay.lean', which tools/lay-shelf.mjs wrote): THE SAME DECLARATIONS UNDER THE SAME NAMES: 'import', 'namespace', 'open', 'def', 'theorem' AND NOTHING ELSE: no command of the shelf's: FOR A HAND-IN. Each laying: the table of numbers ('.._ren') and one theorem, a field a fact of the dump's own or the kernel's comparison; each contract: ONE APPLICATION.
-/
import Derived.Shelf.Sort.Plain
import Derived.Test.YtmfcbhoocelfeaaProg
namespace Go.Proofs
open Go.Shelf
def Try.lays189_ren : Go.Shelf.Ren := ⟨fun | 189 => 38 | 125 => 53 | 257 => 52 | 128 => 69 | 129 => 70 | 294 => 60 | 295 => 61 | 296 => 62 | 297 => 63 | 298 => 64 | 299 => 65 | 216 => 66 | 300 => 67 | 301 => 68 | 328 => 73 | 329 => 74 | 330 => 75 | 331 => 76 | 332 => 77 | 215 => 78 | 343 => 79 | n => n, fun | 28 => 25 | 3 => 3 | 46 => 79 | 0 => 0 | 51 => 99 | 53 => 101 | 4 => 4 | 183 => 92 | 182 => 91 | 131 => 96 | 5 => 5 | 9 => 9 | 218 => 103 | 222 => 107 | 228 => 110 | 229 => 111 | n => n, fun | n => n⟩
theorem Try.lays189 : Go.Proofs.Lays.n189 Try.prog Try.lays189_ren := {
  mixed := by kernel_rfl
  f125 := Try.func53.trans (congrArg some (by kernel_rfl))
  f128 := Try.func69.trans (congrArg some (by kernel_rfl))
  f129 := Try.func70.trans (congrArg some (by kernel_rfl))
  f189 := Try.func38.trans (congrArg some (by kernel_rfl))
  f215 := Try.func78.trans (congrArg some (by kernel_rfl))
  f216 := Try.func66.trans (congrArg some (by kernel_rfl))
  f257 := Try.func52.trans (congrArg some (by kernel_rfl))
  f294 := Try.func60.trans (congrArg some (by kernel_rfl))
  f295 := Try.func61.trans (congrArg some (by kernel_rfl))
  f296 := Try.func62.trans (congrArg some (by kernel_rfl))
  f297 := Try.func63.trans (congrArg some (by kernel_rfl))
  f298 := Try.func64.trans (congrArg some (by kernel_rfl))
  f299 := Try.func65.trans (congrArg some (by kernel_rfl))
  f300 := Try.func67.trans (congrArg some (by kernel_rfl))
  f301 := Try.func68.trans (congrArg some (by kernel_rfl))
  f328 := Try.func73.trans (congrArg some (by kernel_rfl))
  f329 := Try.func74.trans (congrArg some (by kernel_rfl))
  f330 := Try.func75.trans (congrArg some (by kernel_rfl))
  f331 := Try.func76.trans (congrArg some (by kernel_rfl))
  f332 := Try.func77.trans (congrArg some (by kernel_rfl))
  f343 := Try.func79.trans (congrArg some (by kernel_rfl))
  t0 := Try.underlying0
  a0 := Try.isAgg0
  z0 := Try.sizeOf0
  v0 := Try.zeroValue0
  t3 := Try.underlying3
  a3 := Try.isAgg3
  z3 := Try.sizeOf3
  v3 := Try.zeroValue3
  t4 := Try.underlying4
  a4 := Try.isAgg4
  z4 := Try.sizeOf4
  v4 := Try.zeroValue4
  t5 := Try.underlying5
  a5 := Try.isAgg5
  z5 := Try.sizeOf5
  v5 := Try.zeroValue5
  t9 := Try.underlying9
  a9 := Try.isAgg9
  z9 := Try.sizeOf9
  v9 := Try.zeroValue9
  t28 := Try.underlying25
  a28 := Try.isAgg25
  z28 := Try.sizeOf25
  v28 := Try.zeroValue25
  t46 := Try.underlying79
  a46 := Try.isAgg79
  z46 := Try.sizeOf79
  v46 := Try.zeroValue79
  t51 := Try.underlying99
  a51 := Try.isAgg99
  z51 := Try.sizeOf99
  v51 := Try.zeroValue99
  t53 := Try.underlying101
  a53 := Try.isAgg101
  z53 := Try.sizeOf101
  v53 := Try.zeroValue101
  t131 := Try.underlying96
  a131 := Try.isAgg96
  z131 := Try.sizeOf96
  v131 := Try.zeroValue96
  t182 := Try.underlying91
  a182 := Try.isAgg91
  z182 := Try.sizeOf91
  v182 := Try.zeroValue91
  t183 := Try.underlying92
  a183 := Try.isAgg92
  z183 := Try.sizeOf92
  v183 := Try.zeroValue92
  t218 := Try.underlying103
  a218 := Try.isAgg103
  z218 := Try.sizeOf103
  v218 := Try.zeroValue103
  t222 := Try.underlying107
  a222 := Try.isAgg107
  z222 := Try.sizeOf107
  v222 := Try.zeroValue107
  t228 := Try.underlying110
  a228 := Try.isAgg110
  z228 := Try.sizeOf110
  v228 := Try.zeroValue110
  t229 := Try.underlying111
  a229 := Try.isAgg111
  z229 := Try.sizeOf111
  v229 := Try.zeroValue111 }
end Go.Proofs
