/-
  DERIVED: THE SHELF's CONTRACTS AT THIS DUMP, IN PLAIN WORDS (tools/lay-plain.mjs out of 'YtkhhbckpddkhlaaGreatDoorAShelf.lean', which tools/lay-shelf.mjs wrote): THE SAME DECLARATIONS UNDER THE SAME NAMES: 'import', 'namespace', 'open', 'def', 'theorem' AND NOTHING ELSE: no command of the shelf's: FOR A HAND-IN. Each laying: the table of numbers ('.._ren') and one theorem, a field a fact of the dump's own or the kernel's comparison; each contract: ONE APPLICATION.
-/
import Derived.Shelf.Spec.SearchS
import Derived.Ground.Names2Prog
import Derived.Test.YtkhhbckpddkhlaaGreatDoorProg
namespace Go.Proofs
open Go.Shelf
def Tryz.laysBinA_ren : Go.Shelf.Ren := ⟨fun | 26 => 104 | 33 => 156 | 34 => 157 | 38 => 124 | n => n, fun | 24 => 22 | 9 => 9 | 3 => 3 | 4 => 4 | 40 => 127 | 0 => 0 | n => n, fun | n => n⟩
theorem Tryz.laysBinA : Go.Proofs.Lays2.n26 Tryz.prog Tryz.laysBinA_ren := {
  mixed := by kernel_rfl
  f26 := Tryz.func104.trans (congrArg some (by kernel_rfl))
  f33 := Tryz.func156.trans (congrArg some (by kernel_rfl))
  f34 := Tryz.func157.trans (congrArg some (by kernel_rfl))
  f38 := Tryz.func124.trans (congrArg some (by kernel_rfl))
  t0 := Tryz.underlying0
  a0 := Tryz.isAgg0
  z0 := Tryz.sizeOf0
  v0 := Tryz.zeroValue0
  t3 := Tryz.underlying3
  a3 := Tryz.isAgg3
  z3 := Tryz.sizeOf3
  v3 := Tryz.zeroValue3
  t4 := Tryz.underlying4
  a4 := Tryz.isAgg4
  z4 := Tryz.sizeOf4
  v4 := Tryz.zeroValue4
  t9 := Tryz.underlying9
  a9 := Tryz.isAgg9
  z9 := Tryz.sizeOf9
  v9 := Tryz.zeroValue9
  t24 := Tryz.underlying22
  a24 := Tryz.isAgg22
  z24 := Tryz.sizeOf22
  v24 := Tryz.zeroValue22
  t40 := Tryz.underlying127
  a40 := Tryz.isAgg127
  z40 := Tryz.sizeOf127
  v40 := Tryz.zeroValue127 }
end Go.Proofs
