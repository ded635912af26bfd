/-
  DERIVED: THE SHELF's CONTRACTS AT THIS DUMP, IN PLAIN WORDS (tools/lay-plain.mjs out of 'YtkhhbckpddkhlaaDoorAShelf.lean', which tools/lay-shelf.mjs wrote): THE SAME DECLARATIONS UNDER THE SAME NAMES: 'import', 'namespace', 'open', 'def', 'theorem' AND NOTHING ELSE: no command of the shelf's: FOR A HAND-IN. Each laying: the table of numbers ('.._ren') and one theorem, a field a fact of the dump's own or the kernel's comparison; each contract: ONE APPLICATION.
-/
import Derived.Shelf.Spec.SearchS
import Derived.Ground.Names2Prog
import Derived.Test.YtkhhbckpddkhlaaDoorProg
namespace Go.Proofs
open Go.Shelf
def Tryd.laysBinA_ren : Go.Shelf.Ren := ⟨fun | 26 => 58 | 33 => 80 | 34 => 81 | 38 => 56 | n => n, fun | 24 => 22 | 9 => 9 | 3 => 3 | 4 => 4 | 40 => 67 | 0 => 0 | n => n, fun | n => n⟩
theorem Tryd.laysBinA : Go.Proofs.Lays2.n26 Tryd.prog Tryd.laysBinA_ren := {
  mixed := by kernel_rfl
  f26 := Tryd.func58.trans (congrArg some (by kernel_rfl))
  f33 := Tryd.func80.trans (congrArg some (by kernel_rfl))
  f34 := Tryd.func81.trans (congrArg some (by kernel_rfl))
  f38 := Tryd.func56.trans (congrArg some (by kernel_rfl))
  t0 := Tryd.underlying0
  a0 := Tryd.isAgg0
  z0 := Tryd.sizeOf0
  v0 := Tryd.zeroValue0
  t3 := Tryd.underlying3
  a3 := Tryd.isAgg3
  z3 := Tryd.sizeOf3
  v3 := Tryd.zeroValue3
  t4 := Tryd.underlying4
  a4 := Tryd.isAgg4
  z4 := Tryd.sizeOf4
  v4 := Tryd.zeroValue4
  t9 := Tryd.underlying9
  a9 := Tryd.isAgg9
  z9 := Tryd.sizeOf9
  v9 := Tryd.zeroValue9
  t24 := Tryd.underlying22
  a24 := Tryd.isAgg22
  z24 := Tryd.sizeOf22
  v24 := Tryd.zeroValue22
  t40 := Tryd.underlying67
  a40 := Tryd.isAgg67
  z40 := Tryd.sizeOf67
  v40 := Tryd.zeroValue67 }
end Go.Proofs
