/-
  DERIVED: THE SHELF's CONTRACTS AT THIS DUMP, IN PLAIN WORDS (tools/lay-plain.mjs out of 'YtiknddnlfcilkaaLay.lean', which tools/lay-shelf.mjs wrote): THE SAME DECLARATIONS UNDER THE SAME NAMES: 'import', 'namespace', 'open', 'def', 'theorem' AND NOTHING ELSE: no command of the shelf's: FOR A HAND-IN. Each laying: the table of numbers ('.._ren') and one theorem, a field a fact of the dump's own or the kernel's comparison; each contract: ONE APPLICATION.
-/
import Derived.Shelf.Sort.Plain
import Derived.Test.YtiknddnlfcilkaaProg
namespace Go.Proofs
open Go.Shelf
def Try.lays189_ren : Go.Shelf.Ren := ⟨fun | 189 => 20 | 125 => 28 | 257 => 27 | 128 => 41 | 129 => 42 | 294 => 32 | 295 => 33 | 296 => 34 | 297 => 35 | 298 => 36 | 299 => 37 | 216 => 38 | 300 => 39 | 301 => 40 | 328 => 48 | 329 => 49 | 330 => 50 | 331 => 51 | 332 => 52 | 215 => 53 | 343 => 58 | n => n, fun | 28 => 23 | 3 => 3 | 46 => 57 | 0 => 0 | 51 => 71 | 53 => 73 | 4 => 4 | 183 => 63 | 182 => 62 | 131 => 68 | 5 => 5 | 9 => 9 | 218 => 76 | 222 => 80 | 228 => 93 | 229 => 94 | n => n, fun | n => n⟩
theorem Try.lays189 : Go.Proofs.Lays.n189 Try.prog Try.lays189_ren := {
  mixed := by kernel_rfl
  f125 := Try.func28.trans (congrArg some (by kernel_rfl))
  f128 := Try.func41.trans (congrArg some (by kernel_rfl))
  f129 := Try.func42.trans (congrArg some (by kernel_rfl))
  f189 := Try.func20.trans (congrArg some (by kernel_rfl))
  f215 := Try.func53.trans (congrArg some (by kernel_rfl))
  f216 := Try.func38.trans (congrArg some (by kernel_rfl))
  f257 := Try.func27.trans (congrArg some (by kernel_rfl))
  f294 := Try.func32.trans (congrArg some (by kernel_rfl))
  f295 := Try.func33.trans (congrArg some (by kernel_rfl))
  f296 := Try.func34.trans (congrArg some (by kernel_rfl))
  f297 := Try.func35.trans (congrArg some (by kernel_rfl))
  f298 := Try.func36.trans (congrArg some (by kernel_rfl))
  f299 := Try.func37.trans (congrArg some (by kernel_rfl))
  f300 := Try.func39.trans (congrArg some (by kernel_rfl))
  f301 := Try.func40.trans (congrArg some (by kernel_rfl))
  f328 := Try.func48.trans (congrArg some (by kernel_rfl))
  f329 := Try.func49.trans (congrArg some (by kernel_rfl))
  f330 := Try.func50.trans (congrArg some (by kernel_rfl))
  f331 := Try.func51.trans (congrArg some (by kernel_rfl))
  f332 := Try.func52.trans (congrArg some (by kernel_rfl))
  f343 := Try.func58.trans (congrArg some (by kernel_rfl))
  t0 := Try.underlying0
  a0 := Try.isAgg0
  z0 := Try.sizeOf0
  v0 := Try.zeroValue0
  t3 := Try.underlying3
  a3 := Try.isAgg3
  z3 := Try.sizeOf3
  v3 := Try.zeroValue3
  t4 := Try.underlying4
  a4 := Try.isAgg4
  z4 := Try.sizeOf4
  v4 := Try.zeroValue4
  t5 := Try.underlying5
  a5 := Try.isAgg5
  z5 := Try.sizeOf5
  v5 := Try.zeroValue5
  t9 := Try.underlying9
  a9 := Try.isAgg9
  z9 := Try.sizeOf9
  v9 := Try.zeroValue9
  t28 := Try.underlying23
  a28 := Try.isAgg23
  z28 := Try.sizeOf23
  v28 := Try.zeroValue23
  t46 := Try.underlying57
  a46 := Try.isAgg57
  z46 := Try.sizeOf57
  v46 := Try.zeroValue57
  t51 := Try.underlying71
  a51 := Try.isAgg71
  z51 := Try.sizeOf71
  v51 := Try.zeroValue71
  t53 := Try.underlying73
  a53 := Try.isAgg73
  z53 := Try.sizeOf73
  v53 := Try.zeroValue73
  t131 := Try.underlying68
  a131 := Try.isAgg68
  z131 := Try.sizeOf68
  v131 := Try.zeroValue68
  t182 := Try.underlying62
  a182 := Try.isAgg62
  z182 := Try.sizeOf62
  v182 := Try.zeroValue62
  t183 := Try.underlying63
  a183 := Try.isAgg63
  z183 := Try.sizeOf63
  v183 := Try.zeroValue63
  t218 := Try.underlying76
  a218 := Try.isAgg76
  z218 := Try.sizeOf76
  v218 := Try.zeroValue76
  t222 := Try.underlying80
  a222 := Try.isAgg80
  z222 := Try.sizeOf80
  v222 := Try.zeroValue80
  t228 := Try.underlying93
  a228 := Try.isAgg93
  z228 := Try.sizeOf93
  v228 := Try.zeroValue93
  t229 := Try.underlying94
  a229 := Try.isAgg94
  z229 := Try.sizeOf94
  v229 := Try.zeroValue94 }
end Go.Proofs
