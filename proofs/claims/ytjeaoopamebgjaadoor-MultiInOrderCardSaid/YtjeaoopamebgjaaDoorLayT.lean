/-
  DERIVED: THE SHELF's CONTRACTS AT THIS DUMP, IN PLAIN WORDS (tools/lay-plain.mjs out of 'ShelfTmp.lean', which tools/lay-shelf.mjs wrote): THE SAME DECLARATIONS UNDER THE SAME NAMES: 'import', 'namespace', 'open', 'def', 'theorem' AND NOTHING ELSE: no command of the shelf's: FOR A HAND-IN. Each laying: the table of numbers ('.._ren') and one theorem, a field a fact of the dump's own or the kernel's comparison; each contract: ONE APPLICATION.
-/
import Derived.Ground.Names2Prog
import Derived.Shelf.Spec.SearchS
import Derived.Shelf.Spec.SlicesInsert
import Derived.Shelf.Spec.SlicesInsertGrow
import Derived.Test.YtjeaoopamebgjaaDoorProg
namespace Go.Proofs
open Go.Shelf
def Tryd.laysNm226_ren : Go.Shelf.Ren := ⟨fun | 26 => 45 | 33 => 57 | 34 => 58 | 38 => 70 | n => n, fun | 24 => 38 | 9 => 9 | 3 => 3 | 4 => 4 | 40 => 84 | 0 => 0 | n => n, fun | n => n⟩
theorem Tryd.laysNm226 : Go.Proofs.Lays2.n26 Tryd.prog Tryd.laysNm226_ren := {
  mixed := by kernel_rfl
  f26 := Tryd.func45.trans (congrArg some (by kernel_rfl))
  f33 := Tryd.func57.trans (congrArg some (by kernel_rfl))
  f34 := Tryd.func58.trans (congrArg some (by kernel_rfl))
  f38 := Tryd.func70.trans (congrArg some (by kernel_rfl))
  t0 := Tryd.underlying0
  a0 := Tryd.isAgg0
  z0 := Tryd.sizeOf0
  v0 := Tryd.zeroValue0
  t3 := Tryd.underlying3
  a3 := Tryd.isAgg3
  z3 := Tryd.sizeOf3
  v3 := Tryd.zeroValue3
  t4 := Tryd.underlying4
  a4 := Tryd.isAgg4
  z4 := Tryd.sizeOf4
  v4 := Tryd.zeroValue4
  t9 := Tryd.underlying9
  a9 := Tryd.isAgg9
  z9 := Tryd.sizeOf9
  v9 := Tryd.zeroValue9
  t24 := Tryd.underlying38
  a24 := Tryd.isAgg38
  z24 := Tryd.sizeOf38
  v24 := Tryd.zeroValue38
  t40 := Tryd.underlying84
  a40 := Tryd.isAgg84
  z40 := Tryd.sizeOf84
  v40 := Tryd.zeroValue84 }
def Tryd.laysNm222_ren : Go.Shelf.Ren := ⟨fun | 22 => 46 | 29 => 59 | 30 => 60 | 36 => 71 | 17 => 82 | n => n, fun | 24 => 38 | 9 => 9 | 3 => 3 | 4 => 4 | 0 => 0 | n => n, fun | n => n⟩
theorem Tryd.laysNm222 : Go.Proofs.Lays2.n22 Tryd.prog Tryd.laysNm222_ren := {
  mixed := by kernel_rfl
  f17 := Tryd.func82.trans (congrArg some (by kernel_rfl))
  f22 := Tryd.func46.trans (congrArg some (by kernel_rfl))
  f29 := Tryd.func59.trans (congrArg some (by kernel_rfl))
  f30 := Tryd.func60.trans (congrArg some (by kernel_rfl))
  f36 := Tryd.func71.trans (congrArg some (by kernel_rfl))
  t0 := Tryd.underlying0
  a0 := Tryd.isAgg0
  z0 := Tryd.sizeOf0
  v0 := Tryd.zeroValue0
  t3 := Tryd.underlying3
  a3 := Tryd.isAgg3
  z3 := Tryd.sizeOf3
  v3 := Tryd.zeroValue3
  t4 := Tryd.underlying4
  a4 := Tryd.isAgg4
  z4 := Tryd.sizeOf4
  v4 := Tryd.zeroValue4
  t9 := Tryd.underlying9
  a9 := Tryd.isAgg9
  z9 := Tryd.sizeOf9
  v9 := Tryd.zeroValue9
  t24 := Tryd.underlying38
  a24 := Tryd.isAgg38
  z24 := Tryd.sizeOf38
  v24 := Tryd.zeroValue38
  i9 := by kernel_rfl }
end Go.Proofs
