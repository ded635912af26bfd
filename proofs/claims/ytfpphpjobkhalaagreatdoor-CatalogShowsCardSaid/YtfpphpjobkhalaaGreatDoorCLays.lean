/-
  DERIVED: THE SHELF's CONTRACTS AT THIS DUMP, IN PLAIN WORDS (tools/lay-plain.mjs out of 'YtfpphpjobkhalaaGreatDoorCShelf.lean', which tools/lay-shelf.mjs wrote): THE SAME DECLARATIONS UNDER THE SAME NAMES: 'import', 'namespace', 'open', 'def', 'theorem' AND NOTHING ELSE: no command of the shelf's: FOR A HAND-IN. Each laying: the table of numbers ('.._ren') and one theorem, a field a fact of the dump's own or the kernel's comparison; each contract: ONE APPLICATION.
-/
import Derived.Shelf.Sort.Plain
import Derived.Shelf.Slices.CompactI
import Derived.Ground.NamesProg
import Derived.Ground.Names2Prog
import Derived.Test.YtfpphpjobkhalaaGreatDoorProg
namespace Go.Proofs
open Go.Shelf
def Tryz.laysSortI_ren : Go.Shelf.Ren := ⟨fun | 189 => 48 | 125 => 84 | 257 => 83 | 128 => 121 | 129 => 122 | 294 => 112 | 295 => 113 | 296 => 114 | 297 => 115 | 298 => 116 | 299 => 117 | 216 => 118 | 300 => 119 | 301 => 120 | 328 => 142 | 329 => 143 | 330 => 144 | 331 => 145 | 332 => 146 | 215 => 147 | 343 => 162 | n => n, fun | 28 => 47 | 3 => 3 | 46 => 135 | 0 => 0 | 51 => 173 | 53 => 175 | 4 => 4 | 183 => 166 | 182 => 165 | 131 => 110 | 5 => 5 | 9 => 9 | 218 => 198 | 222 => 202 | 228 => 218 | 229 => 219 | n => n, fun | n => n⟩
theorem Tryz.laysSortI : Go.Proofs.Lays.n189 Tryz.prog Tryz.laysSortI_ren := {
  mixed := by kernel_rfl
  f125 := Tryz.func84.trans (congrArg some (by kernel_rfl))
  f128 := Tryz.func121.trans (congrArg some (by kernel_rfl))
  f129 := Tryz.func122.trans (congrArg some (by kernel_rfl))
  f189 := Tryz.func48.trans (congrArg some (by kernel_rfl))
  f215 := Tryz.func147.trans (congrArg some (by kernel_rfl))
  f216 := Tryz.func118.trans (congrArg some (by kernel_rfl))
  f257 := Tryz.func83.trans (congrArg some (by kernel_rfl))
  f294 := Tryz.func112.trans (congrArg some (by kernel_rfl))
  f295 := Tryz.func113.trans (congrArg some (by kernel_rfl))
  f296 := Tryz.func114.trans (congrArg some (by kernel_rfl))
  f297 := Tryz.func115.trans (congrArg some (by kernel_rfl))
  f298 := Tryz.func116.trans (congrArg some (by kernel_rfl))
  f299 := Tryz.func117.trans (congrArg some (by kernel_rfl))
  f300 := Tryz.func119.trans (congrArg some (by kernel_rfl))
  f301 := Tryz.func120.trans (congrArg some (by kernel_rfl))
  f328 := Tryz.func142.trans (congrArg some (by kernel_rfl))
  f329 := Tryz.func143.trans (congrArg some (by kernel_rfl))
  f330 := Tryz.func144.trans (congrArg some (by kernel_rfl))
  f331 := Tryz.func145.trans (congrArg some (by kernel_rfl))
  f332 := Tryz.func146.trans (congrArg some (by kernel_rfl))
  f343 := Tryz.func162.trans (congrArg some (by kernel_rfl))
  t0 := Tryz.underlying0
  a0 := Tryz.isAgg0
  z0 := Tryz.sizeOf0
  v0 := Tryz.zeroValue0
  t3 := Tryz.underlying3
  a3 := Tryz.isAgg3
  z3 := Tryz.sizeOf3
  v3 := Tryz.zeroValue3
  t4 := Tryz.underlying4
  a4 := Tryz.isAgg4
  z4 := Tryz.sizeOf4
  v4 := Tryz.zeroValue4
  t5 := Tryz.underlying5
  a5 := Tryz.isAgg5
  z5 := Tryz.sizeOf5
  v5 := Tryz.zeroValue5
  t9 := Tryz.underlying9
  a9 := Tryz.isAgg9
  z9 := Tryz.sizeOf9
  v9 := Tryz.zeroValue9
  t28 := Tryz.underlying47
  a28 := Tryz.isAgg47
  z28 := Tryz.sizeOf47
  v28 := Tryz.zeroValue47
  t46 := Tryz.underlying135
  a46 := Tryz.isAgg135
  z46 := Tryz.sizeOf135
  v46 := Tryz.zeroValue135
  t51 := Tryz.underlying173
  a51 := Tryz.isAgg173
  z51 := Tryz.sizeOf173
  v51 := Tryz.zeroValue173
  t53 := Tryz.underlying175
  a53 := Tryz.isAgg175
  z53 := Tryz.sizeOf175
  v53 := Tryz.zeroValue175
  t131 := Tryz.underlying110
  a131 := Tryz.isAgg110
  z131 := Tryz.sizeOf110
  v131 := Tryz.zeroValue110
  t182 := Tryz.underlying165
  a182 := Tryz.isAgg165
  z182 := Tryz.sizeOf165
  v182 := Tryz.zeroValue165
  t183 := Tryz.underlying166
  a183 := Tryz.isAgg166
  z183 := Tryz.sizeOf166
  v183 := Tryz.zeroValue166
  t218 := Tryz.underlying198
  a218 := Tryz.isAgg198
  z218 := Tryz.sizeOf198
  v218 := Tryz.zeroValue198
  t222 := Tryz.underlying202
  a222 := Tryz.isAgg202
  z222 := Tryz.sizeOf202
  v222 := Tryz.zeroValue202
  t228 := Tryz.underlying218
  a228 := Tryz.isAgg218
  z228 := Tryz.sizeOf218
  v228 := Tryz.zeroValue218
  t229 := Tryz.underlying219
  a229 := Tryz.isAgg219
  z229 := Tryz.sizeOf219
  v229 := Tryz.zeroValue219 }
def Tryz.laysCompactI_ren : Go.Shelf.Ren := ⟨fun | 20 => 49 | n => n, fun | 22 => 47 | 3 => 3 | 4 => 4 | 0 => 0 | n => n, fun | n => n⟩
theorem Tryz.laysCompactI : Go.Proofs.Lays2.n20 Tryz.prog Tryz.laysCompactI_ren := {
  mixed := by kernel_rfl
  f20 := Tryz.func49.trans (congrArg some (by kernel_rfl))
  t0 := Tryz.underlying0
  a0 := Tryz.isAgg0
  z0 := Tryz.sizeOf0
  v0 := Tryz.zeroValue0
  t3 := Tryz.underlying3
  a3 := Tryz.isAgg3
  z3 := Tryz.sizeOf3
  v3 := Tryz.zeroValue3
  t4 := Tryz.underlying4
  a4 := Tryz.isAgg4
  z4 := Tryz.sizeOf4
  v4 := Tryz.zeroValue4
  t22 := Tryz.underlying47
  a22 := Tryz.isAgg47
  z22 := Tryz.sizeOf47
  v22 := Tryz.zeroValue47
  i3 := by kernel_rfl }
def Tryz.laysContI_ren : Go.Shelf.Ren := ⟨fun | 107 => 94 | 108 => 126 | n => n, fun | 28 => 47 | 3 => 3 | 4 => 4 | 0 => 0 | n => n, fun | n => n⟩
theorem Tryz.laysContI : Go.Proofs.Lays.n107 Tryz.prog Tryz.laysContI_ren := {
  mixed := by kernel_rfl
  f107 := Tryz.func94.trans (congrArg some (by kernel_rfl))
  f108 := Tryz.func126.trans (congrArg some (by kernel_rfl))
  t0 := Tryz.underlying0
  a0 := Tryz.isAgg0
  z0 := Tryz.sizeOf0
  v0 := Tryz.zeroValue0
  t3 := Tryz.underlying3
  a3 := Tryz.isAgg3
  z3 := Tryz.sizeOf3
  v3 := Tryz.zeroValue3
  t4 := Tryz.underlying4
  a4 := Tryz.isAgg4
  z4 := Tryz.sizeOf4
  v4 := Tryz.zeroValue4
  t28 := Tryz.underlying47
  a28 := Tryz.isAgg47
  z28 := Tryz.sizeOf47
  v28 := Tryz.zeroValue47 }
end Go.Proofs
