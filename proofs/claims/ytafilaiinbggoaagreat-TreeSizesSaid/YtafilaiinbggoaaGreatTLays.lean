/-
  DERIVED: THE SHELF's CONTRACTS AT THIS DUMP, IN PLAIN WORDS (tools/lay-plain.mjs out of 'YtafilaiinbggoaaGreatTShelf.lean', which tools/lay-shelf.mjs wrote): THE SAME DECLARATIONS UNDER THE SAME NAMES: 'import', 'namespace', 'open', 'def', 'theorem' AND NOTHING ELSE: no command of the shelf's: FOR A HAND-IN. Each laying: the table of numbers ('.._ren') and one theorem, a field a fact of the dump's own or the kernel's comparison; each contract: ONE APPLICATION.
-/
import Derived.Shelf.Sort.Plain
import Derived.Ground.NamesProg
import Derived.Test.YtafilaiinbggoaaGreatProg
namespace Go.Proofs
open Go.Shelf
def Tryz.laysSortI_ren : Go.Shelf.Ren := ⟨fun | 189 => 64 | 125 => 91 | 257 => 90 | 128 => 116 | 129 => 117 | 294 => 107 | 295 => 108 | 296 => 109 | 297 => 110 | 298 => 111 | 299 => 112 | 216 => 113 | 300 => 114 | 301 => 115 | 328 => 126 | 329 => 127 | 330 => 128 | 331 => 129 | 332 => 130 | 215 => 131 | 343 => 133 | n => n, fun | 28 => 91 | 3 => 3 | 46 => 147 | 0 => 0 | 51 => 167 | 53 => 30 | 4 => 4 | 183 => 193 | 182 => 192 | 131 => 112 | 5 => 5 | 9 => 9 | 218 => 207 | 222 => 211 | 228 => 215 | 229 => 216 | n => n, fun | n => n⟩
theorem Tryz.laysSortI : Go.Proofs.Lays.n189 Tryz.prog Tryz.laysSortI_ren := {
  mixed := by kernel_rfl
  f125 := Tryz.func91.trans (congrArg some (by kernel_rfl))
  f128 := Tryz.func116.trans (congrArg some (by kernel_rfl))
  f129 := Tryz.func117.trans (congrArg some (by kernel_rfl))
  f189 := Tryz.func64.trans (congrArg some (by kernel_rfl))
  f215 := Tryz.func131.trans (congrArg some (by kernel_rfl))
  f216 := Tryz.func113.trans (congrArg some (by kernel_rfl))
  f257 := Tryz.func90.trans (congrArg some (by kernel_rfl))
  f294 := Tryz.func107.trans (congrArg some (by kernel_rfl))
  f295 := Tryz.func108.trans (congrArg some (by kernel_rfl))
  f296 := Tryz.func109.trans (congrArg some (by kernel_rfl))
  f297 := Tryz.func110.trans (congrArg some (by kernel_rfl))
  f298 := Tryz.func111.trans (congrArg some (by kernel_rfl))
  f299 := Tryz.func112.trans (congrArg some (by kernel_rfl))
  f300 := Tryz.func114.trans (congrArg some (by kernel_rfl))
  f301 := Tryz.func115.trans (congrArg some (by kernel_rfl))
  f328 := Tryz.func126.trans (congrArg some (by kernel_rfl))
  f329 := Tryz.func127.trans (congrArg some (by kernel_rfl))
  f330 := Tryz.func128.trans (congrArg some (by kernel_rfl))
  f331 := Tryz.func129.trans (congrArg some (by kernel_rfl))
  f332 := Tryz.func130.trans (congrArg some (by kernel_rfl))
  f343 := Tryz.func133.trans (congrArg some (by kernel_rfl))
  t0 := Tryz.underlying0
  a0 := Tryz.isAgg0
  z0 := Tryz.sizeOf0
  v0 := Tryz.zeroValue0
  t3 := Tryz.underlying3
  a3 := Tryz.isAgg3
  z3 := Tryz.sizeOf3
  v3 := Tryz.zeroValue3
  t4 := Tryz.underlying4
  a4 := Tryz.isAgg4
  z4 := Tryz.sizeOf4
  v4 := Tryz.zeroValue4
  t5 := Tryz.underlying5
  a5 := Tryz.isAgg5
  z5 := Tryz.sizeOf5
  v5 := Tryz.zeroValue5
  t9 := Tryz.underlying9
  a9 := Tryz.isAgg9
  z9 := Tryz.sizeOf9
  v9 := Tryz.zeroValue9
  t28 := Tryz.underlying91
  a28 := Tryz.isAgg91
  z28 := Tryz.sizeOf91
  v28 := Tryz.zeroValue91
  t46 := Tryz.underlying147
  a46 := Tryz.isAgg147
  z46 := Tryz.sizeOf147
  v46 := Tryz.zeroValue147
  t51 := Tryz.underlying167
  a51 := Tryz.isAgg167
  z51 := Tryz.sizeOf167
  v51 := Tryz.zeroValue167
  t53 := Tryz.underlying30
  a53 := Tryz.isAgg30
  z53 := Tryz.sizeOf30
  v53 := Tryz.zeroValue30
  t131 := Tryz.underlying112
  a131 := Tryz.isAgg112
  z131 := Tryz.sizeOf112
  v131 := Tryz.zeroValue112
  t182 := Tryz.underlying192
  a182 := Tryz.isAgg192
  z182 := Tryz.sizeOf192
  v182 := Tryz.zeroValue192
  t183 := Tryz.underlying193
  a183 := Tryz.isAgg193
  z183 := Tryz.sizeOf193
  v183 := Tryz.zeroValue193
  t218 := Tryz.underlying207
  a218 := Tryz.isAgg207
  z218 := Tryz.sizeOf207
  v218 := Tryz.zeroValue207
  t222 := Tryz.underlying211
  a222 := Tryz.isAgg211
  z222 := Tryz.sizeOf211
  v222 := Tryz.zeroValue211
  t228 := Tryz.underlying215
  a228 := Tryz.isAgg215
  z228 := Tryz.sizeOf215
  v228 := Tryz.zeroValue215
  t229 := Tryz.underlying216
  a229 := Tryz.isAgg216
  z229 := Tryz.sizeOf216
  v229 := Tryz.zeroValue216 }
end Go.Proofs
