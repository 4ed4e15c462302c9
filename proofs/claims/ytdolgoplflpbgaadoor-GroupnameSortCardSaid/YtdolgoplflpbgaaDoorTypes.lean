/- MADE BY PROGRAM (wip/tools/types.py): the facts on types that the laws ask. -/
import Derived.Test.YtdolgoplflpbgaaDoorEng
import Derived.Test.YtdolgoplflpbgaaDoorRows
import Derived.KernelRfl
namespace Go.Proofs.YtdolgoplflpbgaaDoor
instance : TSize Tryd.prog 1 1 := ⟨fun _ => by kernel_rfl⟩
instance : TAgg Tryd.prog 1 false := ⟨fun _ => by kernel_rfl⟩
instance : TZero Tryd.prog 1 (Value.nilFunc) := ⟨fun _ => by kernel_rfl⟩
instance : TInfo Tryd.prog 1 (Value.nilFunc) 1 8 := ⟨by kernel_rfl⟩
instance : TSize Tryd.prog 2 1 := ⟨fun _ => by kernel_rfl⟩
instance : TAgg Tryd.prog 2 false := ⟨fun _ => by kernel_rfl⟩
instance : TZero Tryd.prog 2 (Value.int .i64 0) := ⟨fun _ => by kernel_rfl⟩
instance : TInfo Tryd.prog 2 (Value.int .i64 0) 1 8 := ⟨by kernel_rfl⟩
instance : TSize Tryd.prog 3 1 := ⟨fun _ => by kernel_rfl⟩
instance : TAgg Tryd.prog 3 false := ⟨fun _ => by kernel_rfl⟩
instance : TZero Tryd.prog 3 (Value.int .i64 0) := ⟨fun _ => by kernel_rfl⟩
instance : TInfo Tryd.prog 3 (Value.int .i64 0) 1 8 := ⟨by kernel_rfl⟩
instance : TSize Tryd.prog 4 1 := ⟨fun _ => by kernel_rfl⟩
instance : TAgg Tryd.prog 4 false := ⟨fun _ => by kernel_rfl⟩
instance : TZero Tryd.prog 4 (Value.bool false) := ⟨fun _ => by kernel_rfl⟩
instance : TInfo Tryd.prog 4 (Value.bool false) 1 1 := ⟨by kernel_rfl⟩
instance : TSize Tryd.prog 5 1 := ⟨fun _ => by kernel_rfl⟩
instance : TAgg Tryd.prog 5 false := ⟨fun _ => by kernel_rfl⟩
instance : TZero Tryd.prog 5 (Value.int .u8 0) := ⟨fun _ => by kernel_rfl⟩
instance : TInfo Tryd.prog 5 (Value.int .u8 0) 1 1 := ⟨by kernel_rfl⟩
instance : TSize Tryd.prog 6 1 := ⟨fun _ => by kernel_rfl⟩
instance : TAgg Tryd.prog 6 false := ⟨fun _ => by kernel_rfl⟩
instance : TZero Tryd.prog 6 (Value.int .u8 0) := ⟨fun _ => by kernel_rfl⟩
instance : TInfo Tryd.prog 6 (Value.int .u8 0) 1 1 := ⟨by kernel_rfl⟩
instance : TSize Tryd.prog 7 4 := ⟨fun _ => by kernel_rfl⟩
instance : TAgg Tryd.prog 7 true := ⟨fun _ => by kernel_rfl⟩
instance : TZero Tryd.prog 7 (Value.agg #[(Value.int .i64 0), (Value.int .i64 0), (Value.bool false), (Value.int .u8 0)]) := ⟨fun _ => by kernel_rfl⟩
instance : TInfo Tryd.prog 7 (Value.agg #[(Value.int .i64 0), (Value.int .i64 0), (Value.bool false), (Value.int .u8 0)]) 4 24 := ⟨by kernel_rfl⟩
instance : TField Tryd.prog 7 0 0 := ⟨fun _ _ _ => by kernel_rfl⟩
instance : TField Tryd.prog 7 1 1 := ⟨fun _ _ _ => by kernel_rfl⟩
instance : TField Tryd.prog 7 2 2 := ⟨fun _ _ _ => by kernel_rfl⟩
instance : TField Tryd.prog 7 3 3 := ⟨fun _ _ _ => by kernel_rfl⟩
instance : TSize Tryd.prog 8 4 := ⟨fun _ => by kernel_rfl⟩
instance : TAgg Tryd.prog 8 true := ⟨fun _ => by kernel_rfl⟩
instance : TZero Tryd.prog 8 (Value.agg #[(Value.int .i64 0), (Value.int .i64 0), (Value.bool false), (Value.int .u8 0)]) := ⟨fun _ => by kernel_rfl⟩
instance : TInfo Tryd.prog 8 (Value.agg #[(Value.int .i64 0), (Value.int .i64 0), (Value.bool false), (Value.int .u8 0)]) 4 24 := ⟨by kernel_rfl⟩
instance : TField Tryd.prog 8 0 0 := ⟨fun _ _ _ => by kernel_rfl⟩
instance : TField Tryd.prog 8 1 1 := ⟨fun _ _ _ => by kernel_rfl⟩
instance : TField Tryd.prog 8 2 2 := ⟨fun _ _ _ => by kernel_rfl⟩
instance : TField Tryd.prog 8 3 3 := ⟨fun _ _ _ => by kernel_rfl⟩
instance : TSize Tryd.prog 9 1 := ⟨fun _ => by kernel_rfl⟩
instance : TAgg Tryd.prog 9 false := ⟨fun _ => by kernel_rfl⟩
instance : TZero Tryd.prog 9 (Value.string ByteArray.empty) := ⟨fun _ => by kernel_rfl⟩
instance : TInfo Tryd.prog 9 (Value.string ByteArray.empty) 1 16 := ⟨by kernel_rfl⟩
instance : TStr Tryd.prog 9 := ⟨by kernel_rfl⟩
instance : TSize Tryd.prog 10 1 := ⟨fun _ => by kernel_rfl⟩
instance : TAgg Tryd.prog 10 false := ⟨fun _ => by kernel_rfl⟩
instance : TZero Tryd.prog 10 (Value.string ByteArray.empty) := ⟨fun _ => by kernel_rfl⟩
instance : TInfo Tryd.prog 10 (Value.string ByteArray.empty) 1 16 := ⟨by kernel_rfl⟩
instance : TStr Tryd.prog 10 := ⟨by kernel_rfl⟩
instance : TSize Tryd.prog 11 1 := ⟨fun _ => by kernel_rfl⟩
instance : TAgg Tryd.prog 11 false := ⟨fun _ => by kernel_rfl⟩
instance : TZero Tryd.prog 11 (Value.string ByteArray.empty) := ⟨fun _ => by kernel_rfl⟩
instance : TInfo Tryd.prog 11 (Value.string ByteArray.empty) 1 16 := ⟨by kernel_rfl⟩
instance : TStr Tryd.prog 11 := ⟨by kernel_rfl⟩
instance : TSize Tryd.prog 12 1 := ⟨fun _ => by kernel_rfl⟩
instance : TAgg Tryd.prog 12 false := ⟨fun _ => by kernel_rfl⟩
instance : TZero Tryd.prog 12 (Value.int .u64 0) := ⟨fun _ => by kernel_rfl⟩
instance : TInfo Tryd.prog 12 (Value.int .u64 0) 1 8 := ⟨by kernel_rfl⟩
instance : TSize Tryd.prog 13 2 := ⟨fun _ => by kernel_rfl⟩
instance : TAgg Tryd.prog 13 true := ⟨fun _ => by kernel_rfl⟩
instance : TZero Tryd.prog 13 (Value.agg #[(Value.string ByteArray.empty), (Value.int .u64 0)]) := ⟨fun _ => by kernel_rfl⟩
instance : TInfo Tryd.prog 13 (Value.agg #[(Value.string ByteArray.empty), (Value.int .u64 0)]) 2 24 := ⟨by kernel_rfl⟩
instance : TField Tryd.prog 13 0 0 := ⟨fun _ _ _ => by kernel_rfl⟩
instance : TField Tryd.prog 13 1 1 := ⟨fun _ _ _ => by kernel_rfl⟩
instance : TSize Tryd.prog 14 2 := ⟨fun _ => by kernel_rfl⟩
instance : TAgg Tryd.prog 14 true := ⟨fun _ => by kernel_rfl⟩
instance : TZero Tryd.prog 14 (Value.agg #[(Value.string ByteArray.empty), (Value.int .u64 0)]) := ⟨fun _ => by kernel_rfl⟩
instance : TInfo Tryd.prog 14 (Value.agg #[(Value.string ByteArray.empty), (Value.int .u64 0)]) 2 24 := ⟨by kernel_rfl⟩
instance : TField Tryd.prog 14 0 0 := ⟨fun _ _ _ => by kernel_rfl⟩
instance : TField Tryd.prog 14 1 1 := ⟨fun _ _ _ => by kernel_rfl⟩
instance : TSize Tryd.prog 15 1 := ⟨fun _ => by kernel_rfl⟩
instance : TAgg Tryd.prog 15 false := ⟨fun _ => by kernel_rfl⟩
instance : TZero Tryd.prog 15 (Value.pointer none) := ⟨fun _ => by kernel_rfl⟩
instance : TInfo Tryd.prog 15 (Value.pointer none) 1 8 := ⟨by kernel_rfl⟩
instance : TSize Tryd.prog 16 1 := ⟨fun _ => by kernel_rfl⟩
instance : TAgg Tryd.prog 16 false := ⟨fun _ => by kernel_rfl⟩
instance : TZero Tryd.prog 16 (Value.pointer none) := ⟨fun _ => by kernel_rfl⟩
instance : TInfo Tryd.prog 16 (Value.pointer none) 1 8 := ⟨by kernel_rfl⟩
instance : TSize Tryd.prog 17 1 := ⟨fun _ => by kernel_rfl⟩
instance : TAgg Tryd.prog 17 false := ⟨fun _ => by kernel_rfl⟩
instance : TZero Tryd.prog 17 (Value.pointer none) := ⟨fun _ => by kernel_rfl⟩
instance : TInfo Tryd.prog 17 (Value.pointer none) 1 8 := ⟨by kernel_rfl⟩
instance : TSize Tryd.prog 18 1 := ⟨fun _ => by kernel_rfl⟩
instance : TAgg Tryd.prog 18 true := ⟨fun _ => by kernel_rfl⟩
instance : TZero Tryd.prog 18 (Value.agg #[(Value.pointer none)]) := ⟨fun _ => by kernel_rfl⟩
instance : TInfo Tryd.prog 18 (Value.agg #[(Value.pointer none)]) 1 8 := ⟨by kernel_rfl⟩
instance : TField Tryd.prog 18 0 0 := ⟨fun _ _ _ => by kernel_rfl⟩
instance : TSize Tryd.prog 19 1 := ⟨fun _ => by kernel_rfl⟩
instance : TAgg Tryd.prog 19 true := ⟨fun _ => by kernel_rfl⟩
instance : TZero Tryd.prog 19 (Value.agg #[(Value.pointer none)]) := ⟨fun _ => by kernel_rfl⟩
instance : TInfo Tryd.prog 19 (Value.agg #[(Value.pointer none)]) 1 8 := ⟨by kernel_rfl⟩
instance : TField Tryd.prog 19 0 0 := ⟨fun _ _ _ => by kernel_rfl⟩
instance : TSize Tryd.prog 20 1 := ⟨fun _ => by kernel_rfl⟩
instance : TAgg Tryd.prog 20 false := ⟨fun _ => by kernel_rfl⟩
instance : TZero Tryd.prog 20 (Value.nilIface) := ⟨fun _ => by kernel_rfl⟩
instance : TInfo Tryd.prog 20 (Value.nilIface) 1 16 := ⟨by kernel_rfl⟩
instance : TSize Tryd.prog 21 1 := ⟨fun _ => by kernel_rfl⟩
instance : TAgg Tryd.prog 21 false := ⟨fun _ => by kernel_rfl⟩
instance : TZero Tryd.prog 21 (Value.int .i32 0) := ⟨fun _ => by kernel_rfl⟩
instance : TInfo Tryd.prog 21 (Value.int .i32 0) 1 4 := ⟨by kernel_rfl⟩
instance : TSize Tryd.prog 22 1 := ⟨fun _ => by kernel_rfl⟩
instance : TAgg Tryd.prog 22 false := ⟨fun _ => by kernel_rfl⟩
instance : TZero Tryd.prog 22 (Value.nilFunc) := ⟨fun _ => by kernel_rfl⟩
instance : TInfo Tryd.prog 22 (Value.nilFunc) 1 8 := ⟨by kernel_rfl⟩
instance : TSize Tryd.prog 23 1 := ⟨fun _ => by kernel_rfl⟩
instance : TAgg Tryd.prog 23 false := ⟨fun _ => by kernel_rfl⟩
instance : TZero Tryd.prog 23 (Value.nilFunc) := ⟨fun _ => by kernel_rfl⟩
instance : TInfo Tryd.prog 23 (Value.nilFunc) 1 8 := ⟨by kernel_rfl⟩
instance : TSize Tryd.prog 24 1 := ⟨fun _ => by kernel_rfl⟩
instance : TAgg Tryd.prog 24 false := ⟨fun _ => by kernel_rfl⟩
instance : TZero Tryd.prog 24 (Value.slice none 0 0) := ⟨fun _ => by kernel_rfl⟩
instance : TInfo Tryd.prog 24 (Value.slice none 0 0) 1 24 := ⟨by kernel_rfl⟩
instance : TElem Tryd.prog 24 9 := ⟨by kernel_rfl⟩
instance : TSize Tryd.prog 25 1 := ⟨fun _ => by kernel_rfl⟩
instance : TAgg Tryd.prog 25 false := ⟨fun _ => by kernel_rfl⟩
instance : TZero Tryd.prog 25 (Value.nilFunc) := ⟨fun _ => by kernel_rfl⟩
instance : TInfo Tryd.prog 25 (Value.nilFunc) 1 8 := ⟨by kernel_rfl⟩
instance : TSize Tryd.prog 26 1 := ⟨fun _ => by kernel_rfl⟩
instance : TAgg Tryd.prog 26 false := ⟨fun _ => by kernel_rfl⟩
instance : TZero Tryd.prog 26 (Value.nilFunc) := ⟨fun _ => by kernel_rfl⟩
instance : TInfo Tryd.prog 26 (Value.nilFunc) 1 8 := ⟨by kernel_rfl⟩
instance : TSize Tryd.prog 27 1 := ⟨fun _ => by kernel_rfl⟩
instance : TAgg Tryd.prog 27 false := ⟨fun _ => by kernel_rfl⟩
instance : TZero Tryd.prog 27 (Value.int .i64 0) := ⟨fun _ => by kernel_rfl⟩
instance : TInfo Tryd.prog 27 (Value.int .i64 0) 1 8 := ⟨by kernel_rfl⟩
instance : TSize Tryd.prog 29 1 := ⟨fun _ => by kernel_rfl⟩
instance : TAgg Tryd.prog 29 false := ⟨fun _ => by kernel_rfl⟩
instance : TZero Tryd.prog 29 (Value.nilFunc) := ⟨fun _ => by kernel_rfl⟩
instance : TInfo Tryd.prog 29 (Value.nilFunc) 1 8 := ⟨by kernel_rfl⟩
instance : TSize Tryd.prog 31 1 := ⟨fun _ => by kernel_rfl⟩
instance : TAgg Tryd.prog 31 false := ⟨fun _ => by kernel_rfl⟩
instance : TZero Tryd.prog 31 (Value.nilFunc) := ⟨fun _ => by kernel_rfl⟩
instance : TInfo Tryd.prog 31 (Value.nilFunc) 1 8 := ⟨by kernel_rfl⟩
instance : TSize Tryd.prog 32 1 := ⟨fun _ => by kernel_rfl⟩
instance : TAgg Tryd.prog 32 false := ⟨fun _ => by kernel_rfl⟩
instance : TZero Tryd.prog 32 (Value.nilFunc) := ⟨fun _ => by kernel_rfl⟩
instance : TInfo Tryd.prog 32 (Value.nilFunc) 1 8 := ⟨by kernel_rfl⟩
instance : TSize Tryd.prog 33 1 := ⟨fun _ => by kernel_rfl⟩
instance : TAgg Tryd.prog 33 false := ⟨fun _ => by kernel_rfl⟩
instance : TZero Tryd.prog 33 (Value.nilFunc) := ⟨fun _ => by kernel_rfl⟩
instance : TInfo Tryd.prog 33 (Value.nilFunc) 1 8 := ⟨by kernel_rfl⟩
instance : TSize Tryd.prog 34 1 := ⟨fun _ => by kernel_rfl⟩
instance : TAgg Tryd.prog 34 false := ⟨fun _ => by kernel_rfl⟩
instance : TZero Tryd.prog 34 (Value.nilFunc) := ⟨fun _ => by kernel_rfl⟩
instance : TInfo Tryd.prog 34 (Value.nilFunc) 1 8 := ⟨by kernel_rfl⟩
instance : TSize Tryd.prog 35 1 := ⟨fun _ => by kernel_rfl⟩
instance : TAgg Tryd.prog 35 false := ⟨fun _ => by kernel_rfl⟩
instance : TZero Tryd.prog 35 (Value.nilFunc) := ⟨fun _ => by kernel_rfl⟩
instance : TInfo Tryd.prog 35 (Value.nilFunc) 1 8 := ⟨by kernel_rfl⟩
instance : TSize Tryd.prog 36 1 := ⟨fun _ => by kernel_rfl⟩
instance : TAgg Tryd.prog 36 false := ⟨fun _ => by kernel_rfl⟩
instance : TZero Tryd.prog 36 (Value.nilFunc) := ⟨fun _ => by kernel_rfl⟩
instance : TInfo Tryd.prog 36 (Value.nilFunc) 1 8 := ⟨by kernel_rfl⟩
instance : TSize Tryd.prog 37 1 := ⟨fun _ => by kernel_rfl⟩
instance : TAgg Tryd.prog 37 false := ⟨fun _ => by kernel_rfl⟩
instance : TZero Tryd.prog 37 (Value.nilFunc) := ⟨fun _ => by kernel_rfl⟩
instance : TInfo Tryd.prog 37 (Value.nilFunc) 1 8 := ⟨by kernel_rfl⟩
instance : TSize Tryd.prog 38 1 := ⟨fun _ => by kernel_rfl⟩
instance : TAgg Tryd.prog 38 false := ⟨fun _ => by kernel_rfl⟩
instance : TZero Tryd.prog 38 (Value.nilFunc) := ⟨fun _ => by kernel_rfl⟩
instance : TInfo Tryd.prog 38 (Value.nilFunc) 1 8 := ⟨by kernel_rfl⟩
instance : TSize Tryd.prog 39 1 := ⟨fun _ => by kernel_rfl⟩
instance : TAgg Tryd.prog 39 false := ⟨fun _ => by kernel_rfl⟩
instance : TZero Tryd.prog 39 (Value.nilFunc) := ⟨fun _ => by kernel_rfl⟩
instance : TInfo Tryd.prog 39 (Value.nilFunc) 1 8 := ⟨by kernel_rfl⟩
instance : TSize Tryd.prog 40 1 := ⟨fun _ => by kernel_rfl⟩
instance : TAgg Tryd.prog 40 false := ⟨fun _ => by kernel_rfl⟩
instance : TZero Tryd.prog 40 (Value.nilFunc) := ⟨fun _ => by kernel_rfl⟩
instance : TInfo Tryd.prog 40 (Value.nilFunc) 1 8 := ⟨by kernel_rfl⟩
instance : TSize Tryd.prog 42 1 := ⟨fun _ => by kernel_rfl⟩
instance : TAgg Tryd.prog 42 false := ⟨fun _ => by kernel_rfl⟩
instance : TZero Tryd.prog 42 (Value.nilFunc) := ⟨fun _ => by kernel_rfl⟩
instance : TInfo Tryd.prog 42 (Value.nilFunc) 1 8 := ⟨by kernel_rfl⟩
instance : TSize Tryd.prog 43 1 := ⟨fun _ => by kernel_rfl⟩
instance : TAgg Tryd.prog 43 false := ⟨fun _ => by kernel_rfl⟩
instance : TZero Tryd.prog 43 (Value.nilFunc) := ⟨fun _ => by kernel_rfl⟩
instance : TInfo Tryd.prog 43 (Value.nilFunc) 1 8 := ⟨by kernel_rfl⟩
instance : TSize Tryd.prog 44 1 := ⟨fun _ => by kernel_rfl⟩
instance : TAgg Tryd.prog 44 false := ⟨fun _ => by kernel_rfl⟩
instance : TZero Tryd.prog 44 (Value.nilFunc) := ⟨fun _ => by kernel_rfl⟩
instance : TInfo Tryd.prog 44 (Value.nilFunc) 1 8 := ⟨by kernel_rfl⟩
instance : TSize Tryd.prog 45 1 := ⟨fun _ => by kernel_rfl⟩
instance : TAgg Tryd.prog 45 false := ⟨fun _ => by kernel_rfl⟩
instance : TZero Tryd.prog 45 (Value.nilFunc) := ⟨fun _ => by kernel_rfl⟩
instance : TInfo Tryd.prog 45 (Value.nilFunc) 1 8 := ⟨by kernel_rfl⟩
instance : TSize Tryd.prog 46 1 := ⟨fun _ => by kernel_rfl⟩
instance : TAgg Tryd.prog 46 false := ⟨fun _ => by kernel_rfl⟩
instance : TZero Tryd.prog 46 (Value.nilFunc) := ⟨fun _ => by kernel_rfl⟩
instance : TInfo Tryd.prog 46 (Value.nilFunc) 1 8 := ⟨by kernel_rfl⟩
instance : TSize Tryd.prog 47 1 := ⟨fun _ => by kernel_rfl⟩
instance : TAgg Tryd.prog 47 false := ⟨fun _ => by kernel_rfl⟩
instance : TZero Tryd.prog 47 (Value.nilFunc) := ⟨fun _ => by kernel_rfl⟩
instance : TInfo Tryd.prog 47 (Value.nilFunc) 1 8 := ⟨by kernel_rfl⟩
instance : TSize Tryd.prog 48 1 := ⟨fun _ => by kernel_rfl⟩
instance : TAgg Tryd.prog 48 false := ⟨fun _ => by kernel_rfl⟩
instance : TZero Tryd.prog 48 (Value.nilFunc) := ⟨fun _ => by kernel_rfl⟩
instance : TInfo Tryd.prog 48 (Value.nilFunc) 1 8 := ⟨by kernel_rfl⟩
instance : TSize Tryd.prog 49 1 := ⟨fun _ => by kernel_rfl⟩
instance : TAgg Tryd.prog 49 false := ⟨fun _ => by kernel_rfl⟩
instance : TZero Tryd.prog 49 (Value.nilFunc) := ⟨fun _ => by kernel_rfl⟩
instance : TInfo Tryd.prog 49 (Value.nilFunc) 1 8 := ⟨by kernel_rfl⟩
instance : TSize Tryd.prog 50 1 := ⟨fun _ => by kernel_rfl⟩
instance : TAgg Tryd.prog 50 false := ⟨fun _ => by kernel_rfl⟩
instance : TZero Tryd.prog 50 (Value.map none) := ⟨fun _ => by kernel_rfl⟩
instance : TInfo Tryd.prog 50 (Value.map none) 1 8 := ⟨by kernel_rfl⟩
instance : TMap Tryd.prog 50 9 4 := ⟨by kernel_rfl⟩
instance : TSize Tryd.prog 51 1 := ⟨fun _ => by kernel_rfl⟩
instance : TAgg Tryd.prog 51 false := ⟨fun _ => by kernel_rfl⟩
instance : TZero Tryd.prog 51 (Value.nilFunc) := ⟨fun _ => by kernel_rfl⟩
instance : TInfo Tryd.prog 51 (Value.nilFunc) 1 8 := ⟨by kernel_rfl⟩
instance : TSize Tryd.prog 53 1 := ⟨fun _ => by kernel_rfl⟩
instance : TAgg Tryd.prog 53 false := ⟨fun _ => by kernel_rfl⟩
instance : TZero Tryd.prog 53 (Value.nilFunc) := ⟨fun _ => by kernel_rfl⟩
instance : TInfo Tryd.prog 53 (Value.nilFunc) 1 8 := ⟨by kernel_rfl⟩
instance : TSize Tryd.prog 54 1 := ⟨fun _ => by kernel_rfl⟩
instance : TAgg Tryd.prog 54 false := ⟨fun _ => by kernel_rfl⟩
instance : TZero Tryd.prog 54 (Value.nilFunc) := ⟨fun _ => by kernel_rfl⟩
instance : TInfo Tryd.prog 54 (Value.nilFunc) 1 8 := ⟨by kernel_rfl⟩
instance : TSize Tryd.prog 55 1 := ⟨fun _ => by kernel_rfl⟩
instance : TAgg Tryd.prog 55 false := ⟨fun _ => by kernel_rfl⟩
instance : TZero Tryd.prog 55 (Value.nilFunc) := ⟨fun _ => by kernel_rfl⟩
instance : TInfo Tryd.prog 55 (Value.nilFunc) 1 8 := ⟨by kernel_rfl⟩
instance : TSize Tryd.prog 56 1 := ⟨fun _ => by kernel_rfl⟩
instance : TAgg Tryd.prog 56 false := ⟨fun _ => by kernel_rfl⟩
instance : TZero Tryd.prog 56 (Value.nilFunc) := ⟨fun _ => by kernel_rfl⟩
instance : TInfo Tryd.prog 56 (Value.nilFunc) 1 8 := ⟨by kernel_rfl⟩
instance : TSize Tryd.prog 57 1 := ⟨fun _ => by kernel_rfl⟩
instance : TAgg Tryd.prog 57 false := ⟨fun _ => by kernel_rfl⟩
instance : TZero Tryd.prog 57 (Value.nilFunc) := ⟨fun _ => by kernel_rfl⟩
instance : TInfo Tryd.prog 57 (Value.nilFunc) 1 8 := ⟨by kernel_rfl⟩
instance : TSize Tryd.prog 58 1 := ⟨fun _ => by kernel_rfl⟩
instance : TAgg Tryd.prog 58 false := ⟨fun _ => by kernel_rfl⟩
instance : TZero Tryd.prog 58 (Value.nilFunc) := ⟨fun _ => by kernel_rfl⟩
instance : TInfo Tryd.prog 58 (Value.nilFunc) 1 8 := ⟨by kernel_rfl⟩
instance : TSize Tryd.prog 59 1 := ⟨fun _ => by kernel_rfl⟩
instance : TAgg Tryd.prog 59 false := ⟨fun _ => by kernel_rfl⟩
instance : TZero Tryd.prog 59 (Value.nilFunc) := ⟨fun _ => by kernel_rfl⟩
instance : TInfo Tryd.prog 59 (Value.nilFunc) 1 8 := ⟨by kernel_rfl⟩
instance : TSize Tryd.prog 60 1 := ⟨fun _ => by kernel_rfl⟩
instance : TAgg Tryd.prog 60 false := ⟨fun _ => by kernel_rfl⟩
instance : TZero Tryd.prog 60 (Value.nilFunc) := ⟨fun _ => by kernel_rfl⟩
instance : TInfo Tryd.prog 60 (Value.nilFunc) 1 8 := ⟨by kernel_rfl⟩
instance : TSize Tryd.prog 61 1 := ⟨fun _ => by kernel_rfl⟩
instance : TAgg Tryd.prog 61 false := ⟨fun _ => by kernel_rfl⟩
instance : TZero Tryd.prog 61 (Value.nilFunc) := ⟨fun _ => by kernel_rfl⟩
instance : TInfo Tryd.prog 61 (Value.nilFunc) 1 8 := ⟨by kernel_rfl⟩
instance : TSize Tryd.prog 62 1 := ⟨fun _ => by kernel_rfl⟩
instance : TAgg Tryd.prog 62 false := ⟨fun _ => by kernel_rfl⟩
instance : TZero Tryd.prog 62 (Value.nilFunc) := ⟨fun _ => by kernel_rfl⟩
instance : TInfo Tryd.prog 62 (Value.nilFunc) 1 8 := ⟨by kernel_rfl⟩
instance : TSize Tryd.prog 63 1 := ⟨fun _ => by kernel_rfl⟩
instance : TAgg Tryd.prog 63 false := ⟨fun _ => by kernel_rfl⟩
instance : TZero Tryd.prog 63 (Value.int .u64 0) := ⟨fun _ => by kernel_rfl⟩
instance : TInfo Tryd.prog 63 (Value.int .u64 0) 1 8 := ⟨by kernel_rfl⟩
instance : TSize Tryd.prog 64 1 := ⟨fun _ => by kernel_rfl⟩
instance : TAgg Tryd.prog 64 false := ⟨fun _ => by kernel_rfl⟩
instance : TZero Tryd.prog 64 (Value.nilFunc) := ⟨fun _ => by kernel_rfl⟩
instance : TInfo Tryd.prog 64 (Value.nilFunc) 1 8 := ⟨by kernel_rfl⟩
instance : TSize Tryd.prog 65 1 := ⟨fun _ => by kernel_rfl⟩
instance : TAgg Tryd.prog 65 false := ⟨fun _ => by kernel_rfl⟩
instance : TZero Tryd.prog 65 (Value.nilFunc) := ⟨fun _ => by kernel_rfl⟩
instance : TInfo Tryd.prog 65 (Value.nilFunc) 1 8 := ⟨by kernel_rfl⟩
instance : TSize Tryd.prog 66 1 := ⟨fun _ => by kernel_rfl⟩
instance : TAgg Tryd.prog 66 false := ⟨fun _ => by kernel_rfl⟩
instance : TZero Tryd.prog 66 (Value.nilFunc) := ⟨fun _ => by kernel_rfl⟩
instance : TInfo Tryd.prog 66 (Value.nilFunc) 1 8 := ⟨by kernel_rfl⟩
instance : TSize Tryd.prog 67 1 := ⟨fun _ => by kernel_rfl⟩
instance : TAgg Tryd.prog 67 false := ⟨fun _ => by kernel_rfl⟩
instance : TZero Tryd.prog 67 (Value.nilFunc) := ⟨fun _ => by kernel_rfl⟩
instance : TInfo Tryd.prog 67 (Value.nilFunc) 1 8 := ⟨by kernel_rfl⟩
instance : TSize Tryd.prog 68 1 := ⟨fun _ => by kernel_rfl⟩
instance : TAgg Tryd.prog 68 false := ⟨fun _ => by kernel_rfl⟩
instance : TZero Tryd.prog 68 (Value.nilFunc) := ⟨fun _ => by kernel_rfl⟩
instance : TInfo Tryd.prog 68 (Value.nilFunc) 1 8 := ⟨by kernel_rfl⟩
instance : TSize Tryd.prog 69 1 := ⟨fun _ => by kernel_rfl⟩
instance : TAgg Tryd.prog 69 false := ⟨fun _ => by kernel_rfl⟩
instance : TZero Tryd.prog 69 (Value.nilFunc) := ⟨fun _ => by kernel_rfl⟩
instance : TInfo Tryd.prog 69 (Value.nilFunc) 1 8 := ⟨by kernel_rfl⟩
instance : TSize Tryd.prog 70 1 := ⟨fun _ => by kernel_rfl⟩
instance : TAgg Tryd.prog 70 false := ⟨fun _ => by kernel_rfl⟩
instance : TZero Tryd.prog 70 (Value.nilFunc) := ⟨fun _ => by kernel_rfl⟩
instance : TInfo Tryd.prog 70 (Value.nilFunc) 1 8 := ⟨by kernel_rfl⟩
instance : TSize Tryd.prog 71 1 := ⟨fun _ => by kernel_rfl⟩
instance : TAgg Tryd.prog 71 false := ⟨fun _ => by kernel_rfl⟩
instance : TZero Tryd.prog 71 (Value.nilFunc) := ⟨fun _ => by kernel_rfl⟩
instance : TInfo Tryd.prog 71 (Value.nilFunc) 1 8 := ⟨by kernel_rfl⟩
instance : TSize Tryd.prog 72 1 := ⟨fun _ => by kernel_rfl⟩
instance : TAgg Tryd.prog 72 false := ⟨fun _ => by kernel_rfl⟩
instance : TZero Tryd.prog 72 (Value.int .i64 0) := ⟨fun _ => by kernel_rfl⟩
instance : TInfo Tryd.prog 72 (Value.int .i64 0) 1 8 := ⟨by kernel_rfl⟩
instance : TSize Tryd.prog 74 1 := ⟨fun _ => by kernel_rfl⟩
instance : TAgg Tryd.prog 74 false := ⟨fun _ => by kernel_rfl⟩
instance : TZero Tryd.prog 74 (Value.nilFunc) := ⟨fun _ => by kernel_rfl⟩
instance : TInfo Tryd.prog 74 (Value.nilFunc) 1 8 := ⟨by kernel_rfl⟩
instance : TSize Tryd.prog 75 1 := ⟨fun _ => by kernel_rfl⟩
instance : TAgg Tryd.prog 75 false := ⟨fun _ => by kernel_rfl⟩
instance : TZero Tryd.prog 75 (Value.nilFunc) := ⟨fun _ => by kernel_rfl⟩
instance : TInfo Tryd.prog 75 (Value.nilFunc) 1 8 := ⟨by kernel_rfl⟩
instance : TSize Tryd.prog 76 1 := ⟨fun _ => by kernel_rfl⟩
instance : TAgg Tryd.prog 76 false := ⟨fun _ => by kernel_rfl⟩
instance : TZero Tryd.prog 76 (Value.nilFunc) := ⟨fun _ => by kernel_rfl⟩
instance : TInfo Tryd.prog 76 (Value.nilFunc) 1 8 := ⟨by kernel_rfl⟩
instance : TSize Tryd.prog 78 1 := ⟨fun _ => by kernel_rfl⟩
instance : TAgg Tryd.prog 78 false := ⟨fun _ => by kernel_rfl⟩
instance : TZero Tryd.prog 78 (Value.nilFunc) := ⟨fun _ => by kernel_rfl⟩
instance : TInfo Tryd.prog 78 (Value.nilFunc) 1 8 := ⟨by kernel_rfl⟩
instance : TSize Tryd.prog 79 1 := ⟨fun _ => by kernel_rfl⟩
instance : TAgg Tryd.prog 79 false := ⟨fun _ => by kernel_rfl⟩
instance : TZero Tryd.prog 79 (Value.nilFunc) := ⟨fun _ => by kernel_rfl⟩
instance : TInfo Tryd.prog 79 (Value.nilFunc) 1 8 := ⟨by kernel_rfl⟩
instance : TSize Tryd.prog 80 1 := ⟨fun _ => by kernel_rfl⟩
instance : TAgg Tryd.prog 80 false := ⟨fun _ => by kernel_rfl⟩
instance : TZero Tryd.prog 80 (Value.int .u32 0) := ⟨fun _ => by kernel_rfl⟩
instance : TInfo Tryd.prog 80 (Value.int .u32 0) 1 4 := ⟨by kernel_rfl⟩
instance : TSize Tryd.prog 81 1 := ⟨fun _ => by kernel_rfl⟩
instance : TAgg Tryd.prog 81 false := ⟨fun _ => by kernel_rfl⟩
instance : TZero Tryd.prog 81 (Value.nilFunc) := ⟨fun _ => by kernel_rfl⟩
instance : TInfo Tryd.prog 81 (Value.nilFunc) 1 8 := ⟨by kernel_rfl⟩
instance : TSize Tryd.prog 82 1 := ⟨fun _ => by kernel_rfl⟩
instance : TAgg Tryd.prog 82 false := ⟨fun _ => by kernel_rfl⟩
instance : TZero Tryd.prog 82 (Value.int .u64 0) := ⟨fun _ => by kernel_rfl⟩
instance : TInfo Tryd.prog 82 (Value.int .u64 0) 1 8 := ⟨by kernel_rfl⟩
instance : TSize Tryd.prog 83 1 := ⟨fun _ => by kernel_rfl⟩
instance : TAgg Tryd.prog 83 false := ⟨fun _ => by kernel_rfl⟩
instance : TZero Tryd.prog 83 (Value.nilFunc) := ⟨fun _ => by kernel_rfl⟩
instance : TInfo Tryd.prog 83 (Value.nilFunc) 1 8 := ⟨by kernel_rfl⟩
instance : TSize Tryd.prog 84 1 := ⟨fun _ => by kernel_rfl⟩
instance : TAgg Tryd.prog 84 false := ⟨fun _ => by kernel_rfl⟩
instance : TZero Tryd.prog 84 (Value.nilFunc) := ⟨fun _ => by kernel_rfl⟩
instance : TInfo Tryd.prog 84 (Value.nilFunc) 1 8 := ⟨by kernel_rfl⟩
instance : TSize Tryd.prog 86 1 := ⟨fun _ => by kernel_rfl⟩
instance : TAgg Tryd.prog 86 false := ⟨fun _ => by kernel_rfl⟩
instance : TZero Tryd.prog 86 (Value.nilFunc) := ⟨fun _ => by kernel_rfl⟩
instance : TInfo Tryd.prog 86 (Value.nilFunc) 1 8 := ⟨by kernel_rfl⟩
instance : TSize Tryd.prog 88 1 := ⟨fun _ => by kernel_rfl⟩
instance : TAgg Tryd.prog 88 false := ⟨fun _ => by kernel_rfl⟩
instance : TZero Tryd.prog 88 (Value.nilFunc) := ⟨fun _ => by kernel_rfl⟩
instance : TInfo Tryd.prog 88 (Value.nilFunc) 1 8 := ⟨by kernel_rfl⟩
instance : TSize Tryd.prog 89 1 := ⟨fun _ => by kernel_rfl⟩
instance : TAgg Tryd.prog 89 false := ⟨fun _ => by kernel_rfl⟩
instance : TZero Tryd.prog 89 (Value.nilFunc) := ⟨fun _ => by kernel_rfl⟩
instance : TInfo Tryd.prog 89 (Value.nilFunc) 1 8 := ⟨by kernel_rfl⟩
instance : TSize Tryd.prog 90 1 := ⟨fun _ => by kernel_rfl⟩
instance : TAgg Tryd.prog 90 false := ⟨fun _ => by kernel_rfl⟩
instance : TZero Tryd.prog 90 (Value.int .u64 0) := ⟨fun _ => by kernel_rfl⟩
instance : TInfo Tryd.prog 90 (Value.int .u64 0) 1 8 := ⟨by kernel_rfl⟩
instance : TSize Tryd.prog 91 1 := ⟨fun _ => by kernel_rfl⟩
instance : TAgg Tryd.prog 91 false := ⟨fun _ => by kernel_rfl⟩
instance : TZero Tryd.prog 91 (Value.nilFunc) := ⟨fun _ => by kernel_rfl⟩
instance : TInfo Tryd.prog 91 (Value.nilFunc) 1 8 := ⟨by kernel_rfl⟩
instance : TSize Tryd.prog 92 1 := ⟨fun _ => by kernel_rfl⟩
instance : TAgg Tryd.prog 92 false := ⟨fun _ => by kernel_rfl⟩
instance : TZero Tryd.prog 92 (Value.nilFunc) := ⟨fun _ => by kernel_rfl⟩
instance : TInfo Tryd.prog 92 (Value.nilFunc) 1 8 := ⟨by kernel_rfl⟩
instance : TSize Tryd.prog 93 1 := ⟨fun _ => by kernel_rfl⟩
instance : TAgg Tryd.prog 93 false := ⟨fun _ => by kernel_rfl⟩
instance : TZero Tryd.prog 93 (Value.nilFunc) := ⟨fun _ => by kernel_rfl⟩
instance : TInfo Tryd.prog 93 (Value.nilFunc) 1 8 := ⟨by kernel_rfl⟩
instance : TSize Tryd.prog 94 1 := ⟨fun _ => by kernel_rfl⟩
instance : TAgg Tryd.prog 94 false := ⟨fun _ => by kernel_rfl⟩
instance : TZero Tryd.prog 94 (Value.pointer none) := ⟨fun _ => by kernel_rfl⟩
instance : TInfo Tryd.prog 94 (Value.pointer none) 1 8 := ⟨by kernel_rfl⟩
instance : TSize Tryd.prog 95 1 := ⟨fun _ => by kernel_rfl⟩
instance : TAgg Tryd.prog 95 false := ⟨fun _ => by kernel_rfl⟩
instance : TZero Tryd.prog 95 (Value.nilFunc) := ⟨fun _ => by kernel_rfl⟩
instance : TInfo Tryd.prog 95 (Value.nilFunc) 1 8 := ⟨by kernel_rfl⟩
instance : TSize Tryd.prog 96 1 := ⟨fun _ => by kernel_rfl⟩
instance : TAgg Tryd.prog 96 false := ⟨fun _ => by kernel_rfl⟩
instance : TZero Tryd.prog 96 (Value.nilFunc) := ⟨fun _ => by kernel_rfl⟩
instance : TInfo Tryd.prog 96 (Value.nilFunc) 1 8 := ⟨by kernel_rfl⟩
instance : TSize Tryd.prog 97 1 := ⟨fun _ => by kernel_rfl⟩
instance : TAgg Tryd.prog 97 false := ⟨fun _ => by kernel_rfl⟩
instance : TZero Tryd.prog 97 (Value.nilFunc) := ⟨fun _ => by kernel_rfl⟩
instance : TInfo Tryd.prog 97 (Value.nilFunc) 1 8 := ⟨by kernel_rfl⟩
instance : TSize Tryd.prog 98 1 := ⟨fun _ => by kernel_rfl⟩
instance : TAgg Tryd.prog 98 false := ⟨fun _ => by kernel_rfl⟩
instance : TZero Tryd.prog 98 (Value.nilFunc) := ⟨fun _ => by kernel_rfl⟩
instance : TInfo Tryd.prog 98 (Value.nilFunc) 1 8 := ⟨by kernel_rfl⟩
instance : TSize Tryd.prog 99 1 := ⟨fun _ => by kernel_rfl⟩
instance : TAgg Tryd.prog 99 false := ⟨fun _ => by kernel_rfl⟩
instance : TZero Tryd.prog 99 (Value.nilFunc) := ⟨fun _ => by kernel_rfl⟩
instance : TInfo Tryd.prog 99 (Value.nilFunc) 1 8 := ⟨by kernel_rfl⟩
instance : TSize Tryd.prog 100 1 := ⟨fun _ => by kernel_rfl⟩
instance : TAgg Tryd.prog 100 false := ⟨fun _ => by kernel_rfl⟩
instance : TZero Tryd.prog 100 (Value.nilFunc) := ⟨fun _ => by kernel_rfl⟩
instance : TInfo Tryd.prog 100 (Value.nilFunc) 1 8 := ⟨by kernel_rfl⟩
instance : TSize Tryd.prog 101 1 := ⟨fun _ => by kernel_rfl⟩
instance : TAgg Tryd.prog 101 false := ⟨fun _ => by kernel_rfl⟩
instance : TZero Tryd.prog 101 (Value.nilFunc) := ⟨fun _ => by kernel_rfl⟩
instance : TInfo Tryd.prog 101 (Value.nilFunc) 1 8 := ⟨by kernel_rfl⟩
instance : TSize Tryd.prog 102 1 := ⟨fun _ => by kernel_rfl⟩
instance : TAgg Tryd.prog 102 false := ⟨fun _ => by kernel_rfl⟩
instance : TZero Tryd.prog 102 (Value.nilFunc) := ⟨fun _ => by kernel_rfl⟩
instance : TInfo Tryd.prog 102 (Value.nilFunc) 1 8 := ⟨by kernel_rfl⟩
instance : TSize Tryd.prog 103 1 := ⟨fun _ => by kernel_rfl⟩
instance : TAgg Tryd.prog 103 false := ⟨fun _ => by kernel_rfl⟩
instance : TZero Tryd.prog 103 (Value.pointer none) := ⟨fun _ => by kernel_rfl⟩
instance : TInfo Tryd.prog 103 (Value.pointer none) 1 8 := ⟨by kernel_rfl⟩
instance : TSize Tryd.prog 105 1 := ⟨fun _ => by kernel_rfl⟩
instance : TAgg Tryd.prog 105 false := ⟨fun _ => by kernel_rfl⟩
instance : TZero Tryd.prog 105 (Value.nilFunc) := ⟨fun _ => by kernel_rfl⟩
instance : TInfo Tryd.prog 105 (Value.nilFunc) 1 8 := ⟨by kernel_rfl⟩
instance : TSize Tryd.prog 106 1 := ⟨fun _ => by kernel_rfl⟩
instance : TAgg Tryd.prog 106 false := ⟨fun _ => by kernel_rfl⟩
instance : TZero Tryd.prog 106 (Value.nilFunc) := ⟨fun _ => by kernel_rfl⟩
instance : TInfo Tryd.prog 106 (Value.nilFunc) 1 8 := ⟨by kernel_rfl⟩
instance : TSize Tryd.prog 107 1 := ⟨fun _ => by kernel_rfl⟩
instance : TAgg Tryd.prog 107 false := ⟨fun _ => by kernel_rfl⟩
instance : TZero Tryd.prog 107 (Value.nilFunc) := ⟨fun _ => by kernel_rfl⟩
instance : TInfo Tryd.prog 107 (Value.nilFunc) 1 8 := ⟨by kernel_rfl⟩
instance : TSize Tryd.prog 108 256 := ⟨fun _ => by kernel_rfl⟩
instance : TAgg Tryd.prog 108 true := ⟨fun _ => by kernel_rfl⟩
instance : TZero Tryd.prog 108 (Value.agg (List.replicate 256 (Value.int .u8 0)).toArray) := ⟨fun _ => by kernel_rfl⟩
instance : TInfo Tryd.prog 108 (Value.agg (List.replicate 256 (Value.int .u8 0)).toArray) 256 256 := ⟨by kernel_rfl⟩
instance : TSize Tryd.prog 109 2 := ⟨fun _ => by kernel_rfl⟩
instance : TAgg Tryd.prog 109 true := ⟨fun _ => by kernel_rfl⟩
instance : TZero Tryd.prog 109 (Value.agg #[(Value.int .u8 0), (Value.int .u8 0)]) := ⟨fun _ => by kernel_rfl⟩
instance : TInfo Tryd.prog 109 (Value.agg #[(Value.int .u8 0), (Value.int .u8 0)]) 2 2 := ⟨by kernel_rfl⟩
instance : TField Tryd.prog 109 0 0 := ⟨fun _ _ _ => by kernel_rfl⟩
instance : TField Tryd.prog 109 1 1 := ⟨fun _ _ _ => by kernel_rfl⟩
instance : TSize Tryd.prog 110 2 := ⟨fun _ => by kernel_rfl⟩
instance : TAgg Tryd.prog 110 true := ⟨fun _ => by kernel_rfl⟩
instance : TZero Tryd.prog 110 (Value.agg #[(Value.int .u8 0), (Value.int .u8 0)]) := ⟨fun _ => by kernel_rfl⟩
instance : TInfo Tryd.prog 110 (Value.agg #[(Value.int .u8 0), (Value.int .u8 0)]) 2 2 := ⟨by kernel_rfl⟩
instance : TField Tryd.prog 110 0 0 := ⟨fun _ _ _ => by kernel_rfl⟩
instance : TField Tryd.prog 110 1 1 := ⟨fun _ _ _ => by kernel_rfl⟩
instance : TSize Tryd.prog 111 32 := ⟨fun _ => by kernel_rfl⟩
instance : TAgg Tryd.prog 111 true := ⟨fun _ => by kernel_rfl⟩
instance : TZero Tryd.prog 111 (Value.agg (List.replicate 32 (Value.int .u8 0)).toArray) := ⟨fun _ => by kernel_rfl⟩
instance : TInfo Tryd.prog 111 (Value.agg (List.replicate 32 (Value.int .u8 0)).toArray) 32 32 := ⟨by kernel_rfl⟩
instance : TSize Tryd.prog 112 1 := ⟨fun _ => by kernel_rfl⟩
instance : TAgg Tryd.prog 112 false := ⟨fun _ => by kernel_rfl⟩
instance : TZero Tryd.prog 112 (Value.nilFunc) := ⟨fun _ => by kernel_rfl⟩
instance : TInfo Tryd.prog 112 (Value.nilFunc) 1 8 := ⟨by kernel_rfl⟩
instance : TSize Tryd.prog 113 1 := ⟨fun _ => by kernel_rfl⟩
instance : TAgg Tryd.prog 113 false := ⟨fun _ => by kernel_rfl⟩
instance : TZero Tryd.prog 113 (Value.nilFunc) := ⟨fun _ => by kernel_rfl⟩
instance : TInfo Tryd.prog 113 (Value.nilFunc) 1 8 := ⟨by kernel_rfl⟩
instance : TSize Tryd.prog 114 4 := ⟨fun _ => by kernel_rfl⟩
instance : TAgg Tryd.prog 114 true := ⟨fun _ => by kernel_rfl⟩
instance : TZero Tryd.prog 114 (Value.agg #[(Value.pointer none), (Value.pointer none), (Value.pointer none), (Value.string ByteArray.empty)]) := ⟨fun _ => by kernel_rfl⟩
instance : TInfo Tryd.prog 114 (Value.agg #[(Value.pointer none), (Value.pointer none), (Value.pointer none), (Value.string ByteArray.empty)]) 4 40 := ⟨by kernel_rfl⟩
instance : TField Tryd.prog 114 0 0 := ⟨fun _ _ _ => by kernel_rfl⟩
instance : TField Tryd.prog 114 1 1 := ⟨fun _ _ _ => by kernel_rfl⟩
instance : TField Tryd.prog 114 2 2 := ⟨fun _ _ _ => by kernel_rfl⟩
instance : TField Tryd.prog 114 3 3 := ⟨fun _ _ _ => by kernel_rfl⟩
instance : TSize Tryd.prog 115 4 := ⟨fun _ => by kernel_rfl⟩
instance : TAgg Tryd.prog 115 true := ⟨fun _ => by kernel_rfl⟩
instance : TZero Tryd.prog 115 (Value.agg #[(Value.pointer none), (Value.pointer none), (Value.pointer none), (Value.string ByteArray.empty)]) := ⟨fun _ => by kernel_rfl⟩
instance : TInfo Tryd.prog 115 (Value.agg #[(Value.pointer none), (Value.pointer none), (Value.pointer none), (Value.string ByteArray.empty)]) 4 40 := ⟨by kernel_rfl⟩
instance : TField Tryd.prog 115 0 0 := ⟨fun _ _ _ => by kernel_rfl⟩
instance : TField Tryd.prog 115 1 1 := ⟨fun _ _ _ => by kernel_rfl⟩
instance : TField Tryd.prog 115 2 2 := ⟨fun _ _ _ => by kernel_rfl⟩
instance : TField Tryd.prog 115 3 3 := ⟨fun _ _ _ => by kernel_rfl⟩
instance : TSize Tryd.prog 116 0 := ⟨fun _ => by kernel_rfl⟩
instance : TAgg Tryd.prog 116 true := ⟨fun _ => by kernel_rfl⟩
instance : TZero Tryd.prog 116 (Value.agg #[]) := ⟨fun _ => by kernel_rfl⟩
instance : TInfo Tryd.prog 116 (Value.agg #[]) 0 0 := ⟨by kernel_rfl⟩
instance : TSize Tryd.prog 117 0 := ⟨fun _ => by kernel_rfl⟩
instance : TAgg Tryd.prog 117 true := ⟨fun _ => by kernel_rfl⟩
instance : TZero Tryd.prog 117 (Value.agg #[]) := ⟨fun _ => by kernel_rfl⟩
instance : TInfo Tryd.prog 117 (Value.agg #[]) 0 0 := ⟨by kernel_rfl⟩
instance : TSize Tryd.prog 118 0 := ⟨fun _ => by kernel_rfl⟩
instance : TAgg Tryd.prog 118 true := ⟨fun _ => by kernel_rfl⟩
instance : TZero Tryd.prog 118 (Value.agg #[]) := ⟨fun _ => by kernel_rfl⟩
instance : TInfo Tryd.prog 118 (Value.agg #[]) 0 0 := ⟨by kernel_rfl⟩
instance : TSize Tryd.prog 119 1 := ⟨fun _ => by kernel_rfl⟩
instance : TAgg Tryd.prog 119 false := ⟨fun _ => by kernel_rfl⟩
instance : TZero Tryd.prog 119 (Value.nilFunc) := ⟨fun _ => by kernel_rfl⟩
instance : TInfo Tryd.prog 119 (Value.nilFunc) 1 8 := ⟨by kernel_rfl⟩
instance : TSize Tryd.prog 120 1 := ⟨fun _ => by kernel_rfl⟩
instance : TAgg Tryd.prog 120 false := ⟨fun _ => by kernel_rfl⟩
instance : TZero Tryd.prog 120 (Value.int .u8 0) := ⟨fun _ => by kernel_rfl⟩
instance : TInfo Tryd.prog 120 (Value.int .u8 0) 1 1 := ⟨by kernel_rfl⟩
instance : TSize Tryd.prog 121 1 := ⟨fun _ => by kernel_rfl⟩
instance : TAgg Tryd.prog 121 false := ⟨fun _ => by kernel_rfl⟩
instance : TZero Tryd.prog 121 (Value.int .u8 0) := ⟨fun _ => by kernel_rfl⟩
instance : TInfo Tryd.prog 121 (Value.int .u8 0) 1 1 := ⟨by kernel_rfl⟩
instance : TSize Tryd.prog 122 1 := ⟨fun _ => by kernel_rfl⟩
instance : TAgg Tryd.prog 122 false := ⟨fun _ => by kernel_rfl⟩
instance : TZero Tryd.prog 122 (Value.nilFunc) := ⟨fun _ => by kernel_rfl⟩
instance : TInfo Tryd.prog 122 (Value.nilFunc) 1 8 := ⟨by kernel_rfl⟩
instance : TSize Tryd.prog 123 1 := ⟨fun _ => by kernel_rfl⟩
instance : TAgg Tryd.prog 123 false := ⟨fun _ => by kernel_rfl⟩
instance : TZero Tryd.prog 123 (Value.pointer none) := ⟨fun _ => by kernel_rfl⟩
instance : TInfo Tryd.prog 123 (Value.pointer none) 1 8 := ⟨by kernel_rfl⟩
instance : TSize Tryd.prog 124 1 := ⟨fun _ => by kernel_rfl⟩
instance : TAgg Tryd.prog 124 false := ⟨fun _ => by kernel_rfl⟩
instance : TZero Tryd.prog 124 (Value.int .i32 0) := ⟨fun _ => by kernel_rfl⟩
instance : TInfo Tryd.prog 124 (Value.int .i32 0) 1 4 := ⟨by kernel_rfl⟩
instance : TSize Tryd.prog 125 1 := ⟨fun _ => by kernel_rfl⟩
instance : TAgg Tryd.prog 125 false := ⟨fun _ => by kernel_rfl⟩
instance : TZero Tryd.prog 125 (Value.int .i32 0) := ⟨fun _ => by kernel_rfl⟩
instance : TInfo Tryd.prog 125 (Value.int .i32 0) 1 4 := ⟨by kernel_rfl⟩
instance : TSize Tryd.prog 126 11 := ⟨fun _ => by kernel_rfl⟩
instance : TAgg Tryd.prog 126 true := ⟨fun _ => by kernel_rfl⟩
instance : TZero Tryd.prog 126 (Value.agg ([(Value.int .u64 0), (Value.int .u64 0), (Value.int .u32 0), (Value.int .u8 0), (Value.int .u8 0), (Value.int .u8 0), (Value.int .u8 0), (Value.nilFunc), (Value.pointer none), (Value.int .i32 0), (Value.int .i32 0)]).toArray) := ⟨fun _ => by kernel_rfl⟩
instance : TInfo Tryd.prog 126 (Value.agg ([(Value.int .u64 0), (Value.int .u64 0), (Value.int .u32 0), (Value.int .u8 0), (Value.int .u8 0), (Value.int .u8 0), (Value.int .u8 0), (Value.nilFunc), (Value.pointer none), (Value.int .i32 0), (Value.int .i32 0)]).toArray) 11 48 := ⟨by kernel_rfl⟩
instance : TField Tryd.prog 126 0 0 := ⟨fun _ _ _ => by kernel_rfl⟩
instance : TField Tryd.prog 126 1 1 := ⟨fun _ _ _ => by kernel_rfl⟩
instance : TField Tryd.prog 126 2 2 := ⟨fun _ _ _ => by kernel_rfl⟩
instance : TField Tryd.prog 126 3 3 := ⟨fun _ _ _ => by kernel_rfl⟩
instance : TField Tryd.prog 126 4 4 := ⟨fun _ _ _ => by kernel_rfl⟩
instance : TField Tryd.prog 126 5 5 := ⟨fun _ _ _ => by kernel_rfl⟩
instance : TField Tryd.prog 126 6 6 := ⟨fun _ _ _ => by kernel_rfl⟩
instance : TField Tryd.prog 126 7 7 := ⟨fun _ _ _ => by kernel_rfl⟩
instance : TField Tryd.prog 126 8 8 := ⟨fun _ _ _ => by kernel_rfl⟩
instance : TField Tryd.prog 126 9 9 := ⟨fun _ _ _ => by kernel_rfl⟩
instance : TField Tryd.prog 126 10 10 := ⟨fun _ _ _ => by kernel_rfl⟩
instance : TSize Tryd.prog 127 11 := ⟨fun _ => by kernel_rfl⟩
instance : TAgg Tryd.prog 127 true := ⟨fun _ => by kernel_rfl⟩
instance : TZero Tryd.prog 127 (Value.agg ([(Value.int .u64 0), (Value.int .u64 0), (Value.int .u32 0), (Value.int .u8 0), (Value.int .u8 0), (Value.int .u8 0), (Value.int .u8 0), (Value.nilFunc), (Value.pointer none), (Value.int .i32 0), (Value.int .i32 0)]).toArray) := ⟨fun _ => by kernel_rfl⟩
instance : TInfo Tryd.prog 127 (Value.agg ([(Value.int .u64 0), (Value.int .u64 0), (Value.int .u32 0), (Value.int .u8 0), (Value.int .u8 0), (Value.int .u8 0), (Value.int .u8 0), (Value.nilFunc), (Value.pointer none), (Value.int .i32 0), (Value.int .i32 0)]).toArray) 11 48 := ⟨by kernel_rfl⟩
instance : TField Tryd.prog 127 0 0 := ⟨fun _ _ _ => by kernel_rfl⟩
instance : TField Tryd.prog 127 1 1 := ⟨fun _ _ _ => by kernel_rfl⟩
instance : TField Tryd.prog 127 2 2 := ⟨fun _ _ _ => by kernel_rfl⟩
instance : TField Tryd.prog 127 3 3 := ⟨fun _ _ _ => by kernel_rfl⟩
instance : TField Tryd.prog 127 4 4 := ⟨fun _ _ _ => by kernel_rfl⟩
instance : TField Tryd.prog 127 5 5 := ⟨fun _ _ _ => by kernel_rfl⟩
instance : TField Tryd.prog 127 6 6 := ⟨fun _ _ _ => by kernel_rfl⟩
instance : TField Tryd.prog 127 7 7 := ⟨fun _ _ _ => by kernel_rfl⟩
instance : TField Tryd.prog 127 8 8 := ⟨fun _ _ _ => by kernel_rfl⟩
instance : TField Tryd.prog 127 9 9 := ⟨fun _ _ _ => by kernel_rfl⟩
instance : TField Tryd.prog 127 10 10 := ⟨fun _ _ _ => by kernel_rfl⟩
instance : TSize Tryd.prog 128 1 := ⟨fun _ => by kernel_rfl⟩
instance : TAgg Tryd.prog 128 false := ⟨fun _ => by kernel_rfl⟩
instance : TZero Tryd.prog 128 (Value.pointer none) := ⟨fun _ => by kernel_rfl⟩
instance : TInfo Tryd.prog 128 (Value.pointer none) 1 8 := ⟨by kernel_rfl⟩
end Go.Proofs.YtdolgoplflpbgaaDoor
