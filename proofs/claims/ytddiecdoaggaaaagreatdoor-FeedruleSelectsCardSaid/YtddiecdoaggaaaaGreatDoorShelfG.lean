/-
  DERIVED: THE SHELF's CONTRACTS AT THIS DUMP, IN PLAIN WORDS (tools/lay-plain.mjs out of 'TryzShelfG.lean', which tools/lay-shelf.mjs wrote): THE SAME DECLARATIONS UNDER THE SAME NAMES: 'import', 'namespace', 'open', 'def', 'theorem' AND NOTHING ELSE: no command of the shelf's: FOR A HAND-IN. Each laying: the table of numbers ('.._ren') and one theorem, a field a fact of the dump's own or the kernel's comparison; each contract: ONE APPLICATION.
-/
import Derived.Shelf.SlSortCmp.Whole1
import Derived.Shelf.SlSortCmp.WholeK
import Derived.Ground.SlsfProg
import Derived.Test.YtddiecdoaggaaaaGreatDoorProg
namespace Go.Proofs
open Go.Shelf
def Tryz.sortD_ren : Go.Shelf.Ren := ⟨fun | 6 => 24 | 15 => 45 | 14 => 44 | 28 => 74 | 29 => 75 | 20 => 66 | 21 => 67 | 22 => 68 | 23 => 69 | 24 => 70 | 25 => 71 | 26 => 72 | 27 => 73 | 46 => 85 | 47 => 86 | 48 => 87 | 49 => 88 | 50 => 89 | 57 => 98 | n => n, fun | 22 => 75 | 24 => 77 | 25 => 83 | 3 => 3 | 39 => 117 | 0 => 0 | 53 => 150 | 55 => 152 | 4 => 4 | 46 => 144 | 45 => 143 | 50 => 56 | 5 => 5 | 9 => 9 | 66 => 160 | 70 => 164 | 76 => 172 | 77 => 64 | n => n, fun | n => n⟩
theorem Tryz.sortD : Go.Proofs.SlLaysF0.n6 Tryz.prog Tryz.sortD_ren := {
  mixed := by kernel_rfl
  f6 := ⟨Tryz.f24.name, by decide, Tryz.func24.trans (congrArg some (by kernel_rfl))⟩
  f14 := ⟨Tryz.f44.name, by decide, Tryz.func44.trans (congrArg some (by kernel_rfl))⟩
  f15 := Tryz.func45.trans (congrArg some (by kernel_rfl))
  f20 := ⟨Tryz.f66.name, by decide, Tryz.func66.trans (congrArg some (by kernel_rfl))⟩
  f21 := ⟨Tryz.f67.name, by decide, Tryz.func67.trans (congrArg some (by kernel_rfl))⟩
  f22 := ⟨Tryz.f68.name, by decide, Tryz.func68.trans (congrArg some (by kernel_rfl))⟩
  f23 := ⟨Tryz.f69.name, by decide, Tryz.func69.trans (congrArg some (by kernel_rfl))⟩
  f24 := ⟨Tryz.f70.name, by decide, Tryz.func70.trans (congrArg some (by kernel_rfl))⟩
  f25 := ⟨Tryz.f71.name, by decide, Tryz.func71.trans (congrArg some (by kernel_rfl))⟩
  f26 := ⟨Tryz.f72.name, by decide, Tryz.func72.trans (congrArg some (by kernel_rfl))⟩
  f27 := ⟨Tryz.f73.name, by decide, Tryz.func73.trans (congrArg some (by kernel_rfl))⟩
  f28 := Tryz.func74.trans (congrArg some (by kernel_rfl))
  f29 := Tryz.func75.trans (congrArg some (by kernel_rfl))
  f46 := ⟨Tryz.f85.name, by decide, Tryz.func85.trans (congrArg some (by kernel_rfl))⟩
  f47 := Tryz.func86.trans (congrArg some (by kernel_rfl))
  f48 := Tryz.func87.trans (congrArg some (by kernel_rfl))
  f49 := ⟨Tryz.f88.name, by decide, Tryz.func88.trans (congrArg some (by kernel_rfl))⟩
  f50 := ⟨Tryz.f89.name, by decide, Tryz.func89.trans (congrArg some (by kernel_rfl))⟩
  f57 := ⟨Tryz.f98.name, by decide, Tryz.func98.trans (congrArg some (by kernel_rfl))⟩
  t0 := Tryz.underlying0
  a0 := Tryz.isAgg0
  z0 := Tryz.sizeOf0
  v0 := Tryz.zeroValue0
  t3 := Tryz.underlying3
  a3 := Tryz.isAgg3
  z3 := Tryz.sizeOf3
  v3 := Tryz.zeroValue3
  t4 := Tryz.underlying4
  a4 := Tryz.isAgg4
  z4 := Tryz.sizeOf4
  v4 := Tryz.zeroValue4
  t5 := Tryz.underlying5
  a5 := Tryz.isAgg5
  z5 := Tryz.sizeOf5
  v5 := Tryz.zeroValue5
  t9 := Tryz.underlying9
  a9 := Tryz.isAgg9
  z9 := Tryz.sizeOf9
  v9 := Tryz.zeroValue9
  t22 := Tryz.underlying75
  a22 := Tryz.isAgg75
  z22 := Tryz.sizeOf75
  v22 := Tryz.zeroValue75
  t25 := Tryz.underlying83
  a25 := Tryz.isAgg83
  z25 := Tryz.sizeOf83
  v25 := Tryz.zeroValue83
  t39 := Tryz.underlying117
  a39 := Tryz.isAgg117
  z39 := Tryz.sizeOf117
  v39 := Tryz.zeroValue117
  t45 := Tryz.underlying143
  a45 := Tryz.isAgg143
  z45 := Tryz.sizeOf143
  v45 := Tryz.zeroValue143
  t46 := Tryz.underlying144
  a46 := Tryz.isAgg144
  z46 := Tryz.sizeOf144
  v46 := Tryz.zeroValue144
  t50 := Tryz.underlying56
  a50 := Tryz.isAgg56
  z50 := Tryz.sizeOf56
  v50 := Tryz.zeroValue56
  t53 := Tryz.underlying150
  a53 := Tryz.isAgg150
  z53 := Tryz.sizeOf150
  v53 := Tryz.zeroValue150
  t55 := Tryz.underlying152
  a55 := Tryz.isAgg152
  z55 := Tryz.sizeOf152
  v55 := Tryz.zeroValue152
  t66 := Tryz.underlying160
  a66 := Tryz.isAgg160
  z66 := Tryz.sizeOf160
  v66 := Tryz.zeroValue160
  t70 := Tryz.underlying164
  a70 := Tryz.isAgg164
  z70 := Tryz.sizeOf164
  v70 := Tryz.zeroValue164
  t76 := Tryz.underlying172
  a76 := Tryz.isAgg172
  z76 := Tryz.sizeOf172
  v76 := Tryz.zeroValue172
  t77 := Tryz.underlying64
  a77 := Tryz.isAgg64
  z77 := Tryz.sizeOf64
  v77 := Tryz.zeroValue64 }
end Go.Proofs
