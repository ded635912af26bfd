/-
  DERIVED: THE SHELF's CONTRACTS AT THIS DUMP, IN PLAIN WORDS (tools/lay-plain.mjs out of 'YtcmfanfkcbjeoaaGreatDoorCShelf.lean', which tools/lay-shelf.mjs wrote): THE SAME DECLARATIONS UNDER THE SAME NAMES: 'import', 'namespace', 'open', 'def', 'theorem' AND NOTHING ELSE: no command of the shelf's: FOR A HAND-IN. Each laying: the table of numbers ('.._ren') and one theorem, a field a fact of the dump's own or the kernel's comparison; each contract: ONE APPLICATION.
-/
import Derived.Shelf.Sort.Plain
import Derived.Shelf.Slices.CompactI
import Derived.Ground.NamesProg
import Derived.Ground.Names2Prog
import Derived.Test.YtcmfanfkcbjeoaaGreatDoorProg
namespace Go.Proofs
open Go.Shelf
def Tryz.laysSortI_ren : Go.Shelf.Ren := ⟨fun | 189 => 65 | 125 => 113 | 257 => 112 | 128 => 161 | 129 => 162 | 294 => 152 | 295 => 153 | 296 => 154 | 297 => 155 | 298 => 156 | 299 => 157 | 216 => 158 | 300 => 159 | 301 => 160 | 328 => 193 | 329 => 194 | 330 => 195 | 331 => 196 | 332 => 197 | 215 => 198 | 343 => 214 | n => n, fun | 28 => 69 | 3 => 3 | 46 => 172 | 0 => 0 | 51 => 216 | 53 => 218 | 4 => 4 | 183 => 209 | 182 => 208 | 131 => 126 | 5 => 5 | 9 => 9 | 218 => 246 | 222 => 250 | 228 => 267 | 229 => 268 | n => n, fun | n => n⟩
theorem Tryz.laysSortI : Go.Proofs.Lays.n189 Tryz.prog Tryz.laysSortI_ren := {
  mixed := by kernel_rfl
  f125 := Tryz.func113.trans (congrArg some (by kernel_rfl))
  f128 := Tryz.func161.trans (congrArg some (by kernel_rfl))
  f129 := Tryz.func162.trans (congrArg some (by kernel_rfl))
  f189 := Tryz.func65.trans (congrArg some (by kernel_rfl))
  f215 := Tryz.func198.trans (congrArg some (by kernel_rfl))
  f216 := Tryz.func158.trans (congrArg some (by kernel_rfl))
  f257 := Tryz.func112.trans (congrArg some (by kernel_rfl))
  f294 := Tryz.func152.trans (congrArg some (by kernel_rfl))
  f295 := Tryz.func153.trans (congrArg some (by kernel_rfl))
  f296 := Tryz.func154.trans (congrArg some (by kernel_rfl))
  f297 := Tryz.func155.trans (congrArg some (by kernel_rfl))
  f298 := Tryz.func156.trans (congrArg some (by kernel_rfl))
  f299 := Tryz.func157.trans (congrArg some (by kernel_rfl))
  f300 := Tryz.func159.trans (congrArg some (by kernel_rfl))
  f301 := Tryz.func160.trans (congrArg some (by kernel_rfl))
  f328 := Tryz.func193.trans (congrArg some (by kernel_rfl))
  f329 := Tryz.func194.trans (congrArg some (by kernel_rfl))
  f330 := Tryz.func195.trans (congrArg some (by kernel_rfl))
  f331 := Tryz.func196.trans (congrArg some (by kernel_rfl))
  f332 := Tryz.func197.trans (congrArg some (by kernel_rfl))
  f343 := Tryz.func214.trans (congrArg some (by kernel_rfl))
  t0 := Tryz.underlying0
  a0 := Tryz.isAgg0
  z0 := Tryz.sizeOf0
  v0 := Tryz.zeroValue0
  t3 := Tryz.underlying3
  a3 := Tryz.isAgg3
  z3 := Tryz.sizeOf3
  v3 := Tryz.zeroValue3
  t4 := Tryz.underlying4
  a4 := Tryz.isAgg4
  z4 := Tryz.sizeOf4
  v4 := Tryz.zeroValue4
  t5 := Tryz.underlying5
  a5 := Tryz.isAgg5
  z5 := Tryz.sizeOf5
  v5 := Tryz.zeroValue5
  t9 := Tryz.underlying9
  a9 := Tryz.isAgg9
  z9 := Tryz.sizeOf9
  v9 := Tryz.zeroValue9
  t28 := Tryz.underlying69
  a28 := Tryz.isAgg69
  z28 := Tryz.sizeOf69
  v28 := Tryz.zeroValue69
  t46 := Tryz.underlying172
  a46 := Tryz.isAgg172
  z46 := Tryz.sizeOf172
  v46 := Tryz.zeroValue172
  t51 := Tryz.underlying216
  a51 := Tryz.isAgg216
  z51 := Tryz.sizeOf216
  v51 := Tryz.zeroValue216
  t53 := Tryz.underlying218
  a53 := Tryz.isAgg218
  z53 := Tryz.sizeOf218
  v53 := Tryz.zeroValue218
  t131 := Tryz.underlying126
  a131 := Tryz.isAgg126
  z131 := Tryz.sizeOf126
  v131 := Tryz.zeroValue126
  t182 := Tryz.underlying208
  a182 := Tryz.isAgg208
  z182 := Tryz.sizeOf208
  v182 := Tryz.zeroValue208
  t183 := Tryz.underlying209
  a183 := Tryz.isAgg209
  z183 := Tryz.sizeOf209
  v183 := Tryz.zeroValue209
  t218 := Tryz.underlying246
  a218 := Tryz.isAgg246
  z218 := Tryz.sizeOf246
  v218 := Tryz.zeroValue246
  t222 := Tryz.underlying250
  a222 := Tryz.isAgg250
  z222 := Tryz.sizeOf250
  v222 := Tryz.zeroValue250
  t228 := Tryz.underlying267
  a228 := Tryz.isAgg267
  z228 := Tryz.sizeOf267
  v228 := Tryz.zeroValue267
  t229 := Tryz.underlying268
  a229 := Tryz.isAgg268
  z229 := Tryz.sizeOf268
  v229 := Tryz.zeroValue268 }
def Tryz.laysCompactI_ren : Go.Shelf.Ren := ⟨fun | 20 => 66 | n => n, fun | 22 => 69 | 3 => 3 | 4 => 4 | 0 => 0 | n => n, fun | n => n⟩
theorem Tryz.laysCompactI : Go.Proofs.Lays2.n20 Tryz.prog Tryz.laysCompactI_ren := {
  mixed := by kernel_rfl
  f20 := Tryz.func66.trans (congrArg some (by kernel_rfl))
  t0 := Tryz.underlying0
  a0 := Tryz.isAgg0
  z0 := Tryz.sizeOf0
  v0 := Tryz.zeroValue0
  t3 := Tryz.underlying3
  a3 := Tryz.isAgg3
  z3 := Tryz.sizeOf3
  v3 := Tryz.zeroValue3
  t4 := Tryz.underlying4
  a4 := Tryz.isAgg4
  z4 := Tryz.sizeOf4
  v4 := Tryz.zeroValue4
  t22 := Tryz.underlying69
  a22 := Tryz.isAgg69
  z22 := Tryz.sizeOf69
  v22 := Tryz.zeroValue69
  i3 := by kernel_rfl }
def Tryz.laysContI_ren : Go.Shelf.Ren := ⟨fun | 107 => 114 | 108 => 163 | n => n, fun | 28 => 69 | 3 => 3 | 4 => 4 | 0 => 0 | n => n, fun | n => n⟩
theorem Tryz.laysContI : Go.Proofs.Lays.n107 Tryz.prog Tryz.laysContI_ren := {
  mixed := by kernel_rfl
  f107 := Tryz.func114.trans (congrArg some (by kernel_rfl))
  f108 := Tryz.func163.trans (congrArg some (by kernel_rfl))
  t0 := Tryz.underlying0
  a0 := Tryz.isAgg0
  z0 := Tryz.sizeOf0
  v0 := Tryz.zeroValue0
  t3 := Tryz.underlying3
  a3 := Tryz.isAgg3
  z3 := Tryz.sizeOf3
  v3 := Tryz.zeroValue3
  t4 := Tryz.underlying4
  a4 := Tryz.isAgg4
  z4 := Tryz.sizeOf4
  v4 := Tryz.zeroValue4
  t28 := Tryz.underlying69
  a28 := Tryz.isAgg69
  z28 := Tryz.sizeOf69
  v28 := Tryz.zeroValue69 }
end Go.Proofs
