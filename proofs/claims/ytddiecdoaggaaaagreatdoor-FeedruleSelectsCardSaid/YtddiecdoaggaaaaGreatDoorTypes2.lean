/- MADE BY PROGRAM (wip/tools/types2.py): the facts on array and integer types that the laws ask. -/
import Derived.Test.YtddiecdoaggaaaaGreatDoorWalkB
import Derived.Test.YtddiecdoaggaaaaGreatDoorTypes
namespace Go.Proofs.YtddiecdoaggaaaaGreatDoor
instance : TIntK Tryz.prog 2 .i64 := ⟨by kernel_rfl⟩
instance : TIntK Tryz.prog 3 .i64 := ⟨by kernel_rfl⟩
instance : TIntK Tryz.prog 5 .u8 := ⟨by kernel_rfl⟩
instance : TIntK Tryz.prog 6 .u8 := ⟨by kernel_rfl⟩
instance : TIntK Tryz.prog 12 .u64 := ⟨by kernel_rfl⟩
instance : TIntK Tryz.prog 21 .i32 := ⟨by kernel_rfl⟩
instance : TIntK Tryz.prog 30 .i64 := ⟨by kernel_rfl⟩
instance : TArr Tryz.prog 42 32 5 := ⟨by kernel_rfl⟩
instance : TArr Tryz.prog 43 32 5 := ⟨by kernel_rfl⟩
instance : TIntK Tryz.prog 117 .u64 := ⟨by kernel_rfl⟩
instance : TIntK Tryz.prog 129 .u8 := ⟨by kernel_rfl⟩
instance : TArr Tryz.prog 137 128 4 := ⟨by kernel_rfl⟩
instance : TIntK Tryz.prog 143 .i64 := ⟨by kernel_rfl⟩
instance : TIntK Tryz.prog 150 .u32 := ⟨by kernel_rfl⟩
instance : TIntK Tryz.prog 152 .u64 := ⟨by kernel_rfl⟩
instance : TIntK Tryz.prog 160 .u64 := ⟨by kernel_rfl⟩
instance : TArr Tryz.prog 179 256 5 := ⟨by kernel_rfl⟩
instance : TArr Tryz.prog 182 16 181 := ⟨by kernel_rfl⟩
instance : TArr Tryz.prog 188 0 16 := ⟨by kernel_rfl⟩
instance : TIntK Tryz.prog 192 .u8 := ⟨by kernel_rfl⟩
instance : TIntK Tryz.prog 193 .u8 := ⟨by kernel_rfl⟩
instance : TIntK Tryz.prog 196 .i32 := ⟨by kernel_rfl⟩
instance : TIntK Tryz.prog 197 .i32 := ⟨by kernel_rfl⟩
end Go.Proofs.YtddiecdoaggaaaaGreatDoor
