/-
  DERIVED: THE SHELF's CONTRACTS AT THIS DUMP, IN PLAIN WORDS (tools/lay-plain.mjs out of 'YtgnceldnfefnmaaSortStr.lean', which tools/lay-shelf.mjs wrote): THE SAME DECLARATIONS UNDER THE SAME NAMES: 'import', 'namespace', 'open', 'def', 'theorem' AND NOTHING ELSE: no command of the shelf's: FOR A HAND-IN. Each laying: the table of numbers ('.._ren') and one theorem, a field a fact of the dump's own or the kernel's comparison; each contract: ONE APPLICATION.
-/
import Derived.Shelf.Sort.Plain
import Derived.Shelf.Slices.In.SortNone
import Derived.Ground.NamesProg
import Derived.Test.YtgnceldnfefnmaaProg
namespace Go.Proofs
open Go.Shelf
def Try.sortStr_ren : Go.Shelf.Ren := ⟨fun | 190 => 52 | 125 => 46 | 258 => 65 | 128 => 62 | 129 => 63 | 302 => 79 | 303 => 80 | 304 => 81 | 305 => 82 | 306 => 83 | 307 => 84 | 308 => 85 | 309 => 86 | 310 => 87 | 333 => 92 | 329 => 67 | 330 => 68 | 334 => 93 | 335 => 94 | 336 => 95 | 344 => 97 | n => n, fun | 31 => 72 | 9 => 9 | 3 => 3 | 46 => 93 | 0 => 0 | 51 => 108 | 53 => 110 | 4 => 4 | 183 => 101 | 182 => 100 | 131 => 105 | 5 => 5 | 218 => 113 | 222 => 117 | 228 => 130 | 229 => 131 | n => n, fun | n => n⟩
theorem Try.sortStr : Go.Proofs.Lays.n190 Try.prog Try.sortStr_ren := {
  mixed := by kernel_rfl
  f125 := Try.func46.trans (congrArg some (by kernel_rfl))
  f128 := Try.func62.trans (congrArg some (by kernel_rfl))
  f129 := Try.func63.trans (congrArg some (by kernel_rfl))
  f190 := Try.func52.trans (congrArg some (by kernel_rfl))
  f258 := Try.func65.trans (congrArg some (by kernel_rfl))
  f302 := Try.func79.trans (congrArg some (by kernel_rfl))
  f303 := Try.func80.trans (congrArg some (by kernel_rfl))
  f304 := Try.func81.trans (congrArg some (by kernel_rfl))
  f305 := Try.func82.trans (congrArg some (by kernel_rfl))
  f306 := Try.func83.trans (congrArg some (by kernel_rfl))
  f307 := Try.func84.trans (congrArg some (by kernel_rfl))
  f308 := Try.func85.trans (congrArg some (by kernel_rfl))
  f309 := Try.func86.trans (congrArg some (by kernel_rfl))
  f310 := Try.func87.trans (congrArg some (by kernel_rfl))
  f329 := Try.func67.trans (congrArg some (by kernel_rfl))
  f330 := Try.func68.trans (congrArg some (by kernel_rfl))
  f333 := Try.func92.trans (congrArg some (by kernel_rfl))
  f334 := Try.func93.trans (congrArg some (by kernel_rfl))
  f335 := Try.func94.trans (congrArg some (by kernel_rfl))
  f336 := Try.func95.trans (congrArg some (by kernel_rfl))
  f344 := Try.func97.trans (congrArg some (by kernel_rfl))
  t0 := Try.underlying0
  a0 := Try.isAgg0
  z0 := Try.sizeOf0
  v0 := Try.zeroValue0
  t3 := Try.underlying3
  a3 := Try.isAgg3
  z3 := Try.sizeOf3
  v3 := Try.zeroValue3
  t4 := Try.underlying4
  a4 := Try.isAgg4
  z4 := Try.sizeOf4
  v4 := Try.zeroValue4
  t5 := Try.underlying5
  a5 := Try.isAgg5
  z5 := Try.sizeOf5
  v5 := Try.zeroValue5
  t9 := Try.underlying9
  a9 := Try.isAgg9
  z9 := Try.sizeOf9
  v9 := Try.zeroValue9
  t31 := Try.underlying72
  a31 := Try.isAgg72
  z31 := Try.sizeOf72
  v31 := Try.zeroValue72
  t46 := Try.underlying93
  a46 := Try.isAgg93
  z46 := Try.sizeOf93
  v46 := Try.zeroValue93
  t51 := Try.underlying108
  a51 := Try.isAgg108
  z51 := Try.sizeOf108
  v51 := Try.zeroValue108
  t53 := Try.underlying110
  a53 := Try.isAgg110
  z53 := Try.sizeOf110
  v53 := Try.zeroValue110
  t131 := Try.underlying105
  a131 := Try.isAgg105
  z131 := Try.sizeOf105
  v131 := Try.zeroValue105
  t182 := Try.underlying100
  a182 := Try.isAgg100
  z182 := Try.sizeOf100
  v182 := Try.zeroValue100
  t183 := Try.underlying101
  a183 := Try.isAgg101
  z183 := Try.sizeOf101
  v183 := Try.zeroValue101
  t218 := Try.underlying113
  a218 := Try.isAgg113
  z218 := Try.sizeOf113
  v218 := Try.zeroValue113
  t222 := Try.underlying117
  a222 := Try.isAgg117
  z222 := Try.sizeOf117
  v222 := Try.zeroValue117
  t228 := Try.underlying130
  a228 := Try.isAgg130
  z228 := Try.sizeOf130
  v228 := Try.zeroValue130
  t229 := Try.underlying131
  a229 := Try.isAgg131
  z229 := Try.sizeOf131
  v229 := Try.zeroValue131 }
end Go.Proofs
