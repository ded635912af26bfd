/-
  DERIVED: THE SHELF's CONTRACTS AT THIS DUMP, IN PLAIN WORDS (tools/lay-plain.mjs out of 'YtfllnlmanopfaaaDoorFShelf.lean', which tools/lay-shelf.mjs wrote): THE SAME DECLARATIONS UNDER THE SAME NAMES: 'import', 'namespace', 'open', 'def', 'theorem' AND NOTHING ELSE: no command of the shelf's: FOR A HAND-IN. Each laying: the table of numbers ('.._ren') and one theorem, a field a fact of the dump's own or the kernel's comparison; each contract: ONE APPLICATION.
-/
import Derived.Shelf.Sort.Plain
import Derived.Shelf.Slices.CompactS
import Derived.Ground.NamesProg
import Derived.Test.YtfllnlmanopfaaaDoorProg
namespace Go.Proofs
open Go.Shelf
def Tryd.laysSort_ren : Go.Shelf.Ren := ⟨fun | 190 => 69 | 125 => 103 | 258 => 102 | 128 => 149 | 129 => 150 | 302 => 140 | 303 => 141 | 304 => 142 | 305 => 143 | 306 => 144 | 307 => 145 | 308 => 146 | 309 => 147 | 310 => 148 | 333 => 173 | 329 => 174 | 330 => 175 | 334 => 176 | 335 => 177 | 336 => 155 | 344 => 183 | n => n, fun | 31 => 22 | 9 => 9 | 3 => 3 | 46 => 125 | 0 => 0 | 51 => 165 | 53 => 121 | 4 => 4 | 183 => 159 | 182 => 158 | 131 => 95 | 5 => 5 | 218 => 183 | 222 => 187 | 228 => 193 | 229 => 194 | n => n, fun | n => n⟩
theorem Tryd.laysSort : Go.Proofs.Lays.n190 Tryd.prog Tryd.laysSort_ren := {
  mixed := by kernel_rfl
  f125 := Tryd.func103.trans (congrArg some (by kernel_rfl))
  f128 := Tryd.func149.trans (congrArg some (by kernel_rfl))
  f129 := Tryd.func150.trans (congrArg some (by kernel_rfl))
  f190 := Tryd.func69.trans (congrArg some (by kernel_rfl))
  f258 := Tryd.func102.trans (congrArg some (by kernel_rfl))
  f302 := Tryd.func140.trans (congrArg some (by kernel_rfl))
  f303 := Tryd.func141.trans (congrArg some (by kernel_rfl))
  f304 := Tryd.func142.trans (congrArg some (by kernel_rfl))
  f305 := Tryd.func143.trans (congrArg some (by kernel_rfl))
  f306 := Tryd.func144.trans (congrArg some (by kernel_rfl))
  f307 := Tryd.func145.trans (congrArg some (by kernel_rfl))
  f308 := Tryd.func146.trans (congrArg some (by kernel_rfl))
  f309 := Tryd.func147.trans (congrArg some (by kernel_rfl))
  f310 := Tryd.func148.trans (congrArg some (by kernel_rfl))
  f329 := Tryd.func174.trans (congrArg some (by kernel_rfl))
  f330 := Tryd.func175.trans (congrArg some (by kernel_rfl))
  f333 := Tryd.func173.trans (congrArg some (by kernel_rfl))
  f334 := Tryd.func176.trans (congrArg some (by kernel_rfl))
  f335 := Tryd.func177.trans (congrArg some (by kernel_rfl))
  f336 := Tryd.func155.trans (congrArg some (by kernel_rfl))
  f344 := Tryd.func183.trans (congrArg some (by kernel_rfl))
  t0 := Tryd.underlying0
  a0 := Tryd.isAgg0
  z0 := Tryd.sizeOf0
  v0 := Tryd.zeroValue0
  t3 := Tryd.underlying3
  a3 := Tryd.isAgg3
  z3 := Tryd.sizeOf3
  v3 := Tryd.zeroValue3
  t4 := Tryd.underlying4
  a4 := Tryd.isAgg4
  z4 := Tryd.sizeOf4
  v4 := Tryd.zeroValue4
  t5 := Tryd.underlying5
  a5 := Tryd.isAgg5
  z5 := Tryd.sizeOf5
  v5 := Tryd.zeroValue5
  t9 := Tryd.underlying9
  a9 := Tryd.isAgg9
  z9 := Tryd.sizeOf9
  v9 := Tryd.zeroValue9
  t31 := Tryd.underlying22
  a31 := Tryd.isAgg22
  z31 := Tryd.sizeOf22
  v31 := Tryd.zeroValue22
  t46 := Tryd.underlying125
  a46 := Tryd.isAgg125
  z46 := Tryd.sizeOf125
  v46 := Tryd.zeroValue125
  t51 := Tryd.underlying165
  a51 := Tryd.isAgg165
  z51 := Tryd.sizeOf165
  v51 := Tryd.zeroValue165
  t53 := Tryd.underlying121
  a53 := Tryd.isAgg121
  z53 := Tryd.sizeOf121
  v53 := Tryd.zeroValue121
  t131 := Tryd.underlying95
  a131 := Tryd.isAgg95
  z131 := Tryd.sizeOf95
  v131 := Tryd.zeroValue95
  t182 := Tryd.underlying158
  a182 := Tryd.isAgg158
  z182 := Tryd.sizeOf158
  v182 := Tryd.zeroValue158
  t183 := Tryd.underlying159
  a183 := Tryd.isAgg159
  z183 := Tryd.sizeOf159
  v183 := Tryd.zeroValue159
  t218 := Tryd.underlying183
  a218 := Tryd.isAgg183
  z218 := Tryd.sizeOf183
  v218 := Tryd.zeroValue183
  t222 := Tryd.underlying187
  a222 := Tryd.isAgg187
  z222 := Tryd.sizeOf187
  v222 := Tryd.zeroValue187
  t228 := Tryd.underlying193
  a228 := Tryd.isAgg193
  z228 := Tryd.sizeOf193
  v228 := Tryd.zeroValue193
  t229 := Tryd.underlying194
  a229 := Tryd.isAgg194
  z229 := Tryd.sizeOf194
  v229 := Tryd.zeroValue194 }
def Tryd.laysCompact_ren : Go.Shelf.Ren := ⟨fun | 194 => 70 | n => n, fun | 31 => 22 | 9 => 9 | 3 => 3 | 4 => 4 | 0 => 0 | n => n, fun | n => n⟩
theorem Tryd.laysCompact : Go.Proofs.Lays.n194 Tryd.prog Tryd.laysCompact_ren := {
  mixed := by kernel_rfl
  f194 := Tryd.func70.trans (congrArg some (by kernel_rfl))
  t0 := Tryd.underlying0
  a0 := Tryd.isAgg0
  z0 := Tryd.sizeOf0
  v0 := Tryd.zeroValue0
  t3 := Tryd.underlying3
  a3 := Tryd.isAgg3
  z3 := Tryd.sizeOf3
  v3 := Tryd.zeroValue3
  t4 := Tryd.underlying4
  a4 := Tryd.isAgg4
  z4 := Tryd.sizeOf4
  v4 := Tryd.zeroValue4
  t9 := Tryd.underlying9
  a9 := Tryd.isAgg9
  z9 := Tryd.sizeOf9
  v9 := Tryd.zeroValue9
  t31 := Tryd.underlying22
  a31 := Tryd.isAgg22
  z31 := Tryd.sizeOf22
  v31 := Tryd.zeroValue22 }
end Go.Proofs
