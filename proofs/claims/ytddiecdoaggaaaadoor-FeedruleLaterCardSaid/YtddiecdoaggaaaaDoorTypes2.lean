/- MADE BY PROGRAM (wip/tools/types2.py): the facts on array and integer types that the laws ask. -/
import Derived.Test.YtddiecdoaggaaaaDoorWalkB
import Derived.Test.YtddiecdoaggaaaaDoorTypes
namespace Go.Proofs.YtddiecdoaggaaaaDoor
instance : TIntK Tryd.prog 2 .i64 := ⟨by kernel_rfl⟩
instance : TIntK Tryd.prog 3 .i64 := ⟨by kernel_rfl⟩
instance : TIntK Tryd.prog 5 .u8 := ⟨by kernel_rfl⟩
instance : TIntK Tryd.prog 6 .u8 := ⟨by kernel_rfl⟩
instance : TIntK Tryd.prog 12 .u64 := ⟨by kernel_rfl⟩
instance : TIntK Tryd.prog 21 .i32 := ⟨by kernel_rfl⟩
instance : TArr Tryd.prog 25 32 5 := ⟨by kernel_rfl⟩
instance : TIntK Tryd.prog 32 .i64 := ⟨by kernel_rfl⟩
instance : TArr Tryd.prog 37 32 5 := ⟨by kernel_rfl⟩
instance : TIntK Tryd.prog 128 .u64 := ⟨by kernel_rfl⟩
instance : TIntK Tryd.prog 136 .u8 := ⟨by kernel_rfl⟩
instance : TArr Tryd.prog 143 128 4 := ⟨by kernel_rfl⟩
instance : TIntK Tryd.prog 151 .i64 := ⟨by kernel_rfl⟩
instance : TIntK Tryd.prog 158 .u32 := ⟨by kernel_rfl⟩
instance : TIntK Tryd.prog 160 .u64 := ⟨by kernel_rfl⟩
instance : TIntK Tryd.prog 170 .u64 := ⟨by kernel_rfl⟩
instance : TArr Tryd.prog 184 256 5 := ⟨by kernel_rfl⟩
instance : TArr Tryd.prog 187 16 186 := ⟨by kernel_rfl⟩
instance : TArr Tryd.prog 193 0 16 := ⟨by kernel_rfl⟩
instance : TIntK Tryd.prog 197 .u8 := ⟨by kernel_rfl⟩
instance : TIntK Tryd.prog 198 .u8 := ⟨by kernel_rfl⟩
instance : TIntK Tryd.prog 201 .i32 := ⟨by kernel_rfl⟩
instance : TIntK Tryd.prog 202 .i32 := ⟨by kernel_rfl⟩
end Go.Proofs.YtddiecdoaggaaaaDoor
