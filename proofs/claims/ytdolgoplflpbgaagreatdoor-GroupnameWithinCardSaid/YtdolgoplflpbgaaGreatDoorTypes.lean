/- MADE BY PROGRAM (wip/tools/types.py): the facts on types that the laws ask. -/
import Derived.Test.YtdolgoplflpbgaaGreatDoorEng
import Derived.Test.YtdolgoplflpbgaaGreatDoorRows
import Derived.KernelRfl
namespace Go.Proofs.YtdolgoplflpbgaaGreatDoor
instance : TSize Tryz.prog 1 1 := ⟨fun _ => by kernel_rfl⟩
instance : TAgg Tryz.prog 1 false := ⟨fun _ => by kernel_rfl⟩
instance : TZero Tryz.prog 1 (Value.nilFunc) := ⟨fun _ => by kernel_rfl⟩
instance : TInfo Tryz.prog 1 (Value.nilFunc) 1 8 := ⟨by kernel_rfl⟩
instance : TSize Tryz.prog 2 1 := ⟨fun _ => by kernel_rfl⟩
instance : TAgg Tryz.prog 2 false := ⟨fun _ => by kernel_rfl⟩
instance : TZero Tryz.prog 2 (Value.int .i64 0) := ⟨fun _ => by kernel_rfl⟩
instance : TInfo Tryz.prog 2 (Value.int .i64 0) 1 8 := ⟨by kernel_rfl⟩
instance : TSize Tryz.prog 3 1 := ⟨fun _ => by kernel_rfl⟩
instance : TAgg Tryz.prog 3 false := ⟨fun _ => by kernel_rfl⟩
instance : TZero Tryz.prog 3 (Value.int .i64 0) := ⟨fun _ => by kernel_rfl⟩
instance : TInfo Tryz.prog 3 (Value.int .i64 0) 1 8 := ⟨by kernel_rfl⟩
instance : TSize Tryz.prog 4 1 := ⟨fun _ => by kernel_rfl⟩
instance : TAgg Tryz.prog 4 false := ⟨fun _ => by kernel_rfl⟩
instance : TZero Tryz.prog 4 (Value.bool false) := ⟨fun _ => by kernel_rfl⟩
instance : TInfo Tryz.prog 4 (Value.bool false) 1 1 := ⟨by kernel_rfl⟩
instance : TSize Tryz.prog 5 1 := ⟨fun _ => by kernel_rfl⟩
instance : TAgg Tryz.prog 5 false := ⟨fun _ => by kernel_rfl⟩
instance : TZero Tryz.prog 5 (Value.int .u8 0) := ⟨fun _ => by kernel_rfl⟩
instance : TInfo Tryz.prog 5 (Value.int .u8 0) 1 1 := ⟨by kernel_rfl⟩
instance : TSize Tryz.prog 6 1 := ⟨fun _ => by kernel_rfl⟩
instance : TAgg Tryz.prog 6 false := ⟨fun _ => by kernel_rfl⟩
instance : TZero Tryz.prog 6 (Value.int .u8 0) := ⟨fun _ => by kernel_rfl⟩
instance : TInfo Tryz.prog 6 (Value.int .u8 0) 1 1 := ⟨by kernel_rfl⟩
instance : TSize Tryz.prog 7 4 := ⟨fun _ => by kernel_rfl⟩
instance : TAgg Tryz.prog 7 true := ⟨fun _ => by kernel_rfl⟩
instance : TZero Tryz.prog 7 (Value.agg #[(Value.int .i64 0), (Value.int .i64 0), (Value.bool false), (Value.int .u8 0)]) := ⟨fun _ => by kernel_rfl⟩
instance : TInfo Tryz.prog 7 (Value.agg #[(Value.int .i64 0), (Value.int .i64 0), (Value.bool false), (Value.int .u8 0)]) 4 24 := ⟨by kernel_rfl⟩
instance : TField Tryz.prog 7 0 0 := ⟨fun _ _ _ => by kernel_rfl⟩
instance : TField Tryz.prog 7 1 1 := ⟨fun _ _ _ => by kernel_rfl⟩
instance : TField Tryz.prog 7 2 2 := ⟨fun _ _ _ => by kernel_rfl⟩
instance : TField Tryz.prog 7 3 3 := ⟨fun _ _ _ => by kernel_rfl⟩
instance : TSize Tryz.prog 8 4 := ⟨fun _ => by kernel_rfl⟩
instance : TAgg Tryz.prog 8 true := ⟨fun _ => by kernel_rfl⟩
instance : TZero Tryz.prog 8 (Value.agg #[(Value.int .i64 0), (Value.int .i64 0), (Value.bool false), (Value.int .u8 0)]) := ⟨fun _ => by kernel_rfl⟩
instance : TInfo Tryz.prog 8 (Value.agg #[(Value.int .i64 0), (Value.int .i64 0), (Value.bool false), (Value.int .u8 0)]) 4 24 := ⟨by kernel_rfl⟩
instance : TField Tryz.prog 8 0 0 := ⟨fun _ _ _ => by kernel_rfl⟩
instance : TField Tryz.prog 8 1 1 := ⟨fun _ _ _ => by kernel_rfl⟩
instance : TField Tryz.prog 8 2 2 := ⟨fun _ _ _ => by kernel_rfl⟩
instance : TField Tryz.prog 8 3 3 := ⟨fun _ _ _ => by kernel_rfl⟩
instance : TSize Tryz.prog 9 1 := ⟨fun _ => by kernel_rfl⟩
instance : TAgg Tryz.prog 9 false := ⟨fun _ => by kernel_rfl⟩
instance : TZero Tryz.prog 9 (Value.string ByteArray.empty) := ⟨fun _ => by kernel_rfl⟩
instance : TInfo Tryz.prog 9 (Value.string ByteArray.empty) 1 16 := ⟨by kernel_rfl⟩
instance : TStr Tryz.prog 9 := ⟨by kernel_rfl⟩
instance : TSize Tryz.prog 10 1 := ⟨fun _ => by kernel_rfl⟩
instance : TAgg Tryz.prog 10 false := ⟨fun _ => by kernel_rfl⟩
instance : TZero Tryz.prog 10 (Value.string ByteArray.empty) := ⟨fun _ => by kernel_rfl⟩
instance : TInfo Tryz.prog 10 (Value.string ByteArray.empty) 1 16 := ⟨by kernel_rfl⟩
instance : TStr Tryz.prog 10 := ⟨by kernel_rfl⟩
instance : TSize Tryz.prog 11 1 := ⟨fun _ => by kernel_rfl⟩
instance : TAgg Tryz.prog 11 false := ⟨fun _ => by kernel_rfl⟩
instance : TZero Tryz.prog 11 (Value.string ByteArray.empty) := ⟨fun _ => by kernel_rfl⟩
instance : TInfo Tryz.prog 11 (Value.string ByteArray.empty) 1 16 := ⟨by kernel_rfl⟩
instance : TStr Tryz.prog 11 := ⟨by kernel_rfl⟩
instance : TSize Tryz.prog 12 1 := ⟨fun _ => by kernel_rfl⟩
instance : TAgg Tryz.prog 12 false := ⟨fun _ => by kernel_rfl⟩
instance : TZero Tryz.prog 12 (Value.int .u64 0) := ⟨fun _ => by kernel_rfl⟩
instance : TInfo Tryz.prog 12 (Value.int .u64 0) 1 8 := ⟨by kernel_rfl⟩
instance : TSize Tryz.prog 13 2 := ⟨fun _ => by kernel_rfl⟩
instance : TAgg Tryz.prog 13 true := ⟨fun _ => by kernel_rfl⟩
instance : TZero Tryz.prog 13 (Value.agg #[(Value.string ByteArray.empty), (Value.int .u64 0)]) := ⟨fun _ => by kernel_rfl⟩
instance : TInfo Tryz.prog 13 (Value.agg #[(Value.string ByteArray.empty), (Value.int .u64 0)]) 2 24 := ⟨by kernel_rfl⟩
instance : TField Tryz.prog 13 0 0 := ⟨fun _ _ _ => by kernel_rfl⟩
instance : TField Tryz.prog 13 1 1 := ⟨fun _ _ _ => by kernel_rfl⟩
instance : TSize Tryz.prog 14 2 := ⟨fun _ => by kernel_rfl⟩
instance : TAgg Tryz.prog 14 true := ⟨fun _ => by kernel_rfl⟩
instance : TZero Tryz.prog 14 (Value.agg #[(Value.string ByteArray.empty), (Value.int .u64 0)]) := ⟨fun _ => by kernel_rfl⟩
instance : TInfo Tryz.prog 14 (Value.agg #[(Value.string ByteArray.empty), (Value.int .u64 0)]) 2 24 := ⟨by kernel_rfl⟩
instance : TField Tryz.prog 14 0 0 := ⟨fun _ _ _ => by kernel_rfl⟩
instance : TField Tryz.prog 14 1 1 := ⟨fun _ _ _ => by kernel_rfl⟩
instance : TSize Tryz.prog 15 1 := ⟨fun _ => by kernel_rfl⟩
instance : TAgg Tryz.prog 15 false := ⟨fun _ => by kernel_rfl⟩
instance : TZero Tryz.prog 15 (Value.pointer none) := ⟨fun _ => by kernel_rfl⟩
instance : TInfo Tryz.prog 15 (Value.pointer none) 1 8 := ⟨by kernel_rfl⟩
instance : TSize Tryz.prog 16 1 := ⟨fun _ => by kernel_rfl⟩
instance : TAgg Tryz.prog 16 false := ⟨fun _ => by kernel_rfl⟩
instance : TZero Tryz.prog 16 (Value.pointer none) := ⟨fun _ => by kernel_rfl⟩
instance : TInfo Tryz.prog 16 (Value.pointer none) 1 8 := ⟨by kernel_rfl⟩
instance : TSize Tryz.prog 17 1 := ⟨fun _ => by kernel_rfl⟩
instance : TAgg Tryz.prog 17 false := ⟨fun _ => by kernel_rfl⟩
instance : TZero Tryz.prog 17 (Value.pointer none) := ⟨fun _ => by kernel_rfl⟩
instance : TInfo Tryz.prog 17 (Value.pointer none) 1 8 := ⟨by kernel_rfl⟩
instance : TSize Tryz.prog 18 1 := ⟨fun _ => by kernel_rfl⟩
instance : TAgg Tryz.prog 18 true := ⟨fun _ => by kernel_rfl⟩
instance : TZero Tryz.prog 18 (Value.agg #[(Value.pointer none)]) := ⟨fun _ => by kernel_rfl⟩
instance : TInfo Tryz.prog 18 (Value.agg #[(Value.pointer none)]) 1 8 := ⟨by kernel_rfl⟩
instance : TField Tryz.prog 18 0 0 := ⟨fun _ _ _ => by kernel_rfl⟩
instance : TSize Tryz.prog 19 1 := ⟨fun _ => by kernel_rfl⟩
instance : TAgg Tryz.prog 19 true := ⟨fun _ => by kernel_rfl⟩
instance : TZero Tryz.prog 19 (Value.agg #[(Value.pointer none)]) := ⟨fun _ => by kernel_rfl⟩
instance : TInfo Tryz.prog 19 (Value.agg #[(Value.pointer none)]) 1 8 := ⟨by kernel_rfl⟩
instance : TField Tryz.prog 19 0 0 := ⟨fun _ _ _ => by kernel_rfl⟩
instance : TSize Tryz.prog 20 1 := ⟨fun _ => by kernel_rfl⟩
instance : TAgg Tryz.prog 20 false := ⟨fun _ => by kernel_rfl⟩
instance : TZero Tryz.prog 20 (Value.nilIface) := ⟨fun _ => by kernel_rfl⟩
instance : TInfo Tryz.prog 20 (Value.nilIface) 1 16 := ⟨by kernel_rfl⟩
instance : TSize Tryz.prog 21 1 := ⟨fun _ => by kernel_rfl⟩
instance : TAgg Tryz.prog 21 false := ⟨fun _ => by kernel_rfl⟩
instance : TZero Tryz.prog 21 (Value.int .i32 0) := ⟨fun _ => by kernel_rfl⟩
instance : TInfo Tryz.prog 21 (Value.int .i32 0) 1 4 := ⟨by kernel_rfl⟩
instance : TSize Tryz.prog 22 1 := ⟨fun _ => by kernel_rfl⟩
instance : TAgg Tryz.prog 22 false := ⟨fun _ => by kernel_rfl⟩
instance : TZero Tryz.prog 22 (Value.slice none 0 0) := ⟨fun _ => by kernel_rfl⟩
instance : TInfo Tryz.prog 22 (Value.slice none 0 0) 1 24 := ⟨by kernel_rfl⟩
instance : TElem Tryz.prog 22 9 := ⟨by kernel_rfl⟩
instance : TSize Tryz.prog 23 1 := ⟨fun _ => by kernel_rfl⟩
instance : TAgg Tryz.prog 23 false := ⟨fun _ => by kernel_rfl⟩
instance : TZero Tryz.prog 23 (Value.nilFunc) := ⟨fun _ => by kernel_rfl⟩
instance : TInfo Tryz.prog 23 (Value.nilFunc) 1 8 := ⟨by kernel_rfl⟩
instance : TSize Tryz.prog 24 1 := ⟨fun _ => by kernel_rfl⟩
instance : TAgg Tryz.prog 24 false := ⟨fun _ => by kernel_rfl⟩
instance : TZero Tryz.prog 24 (Value.nilFunc) := ⟨fun _ => by kernel_rfl⟩
instance : TInfo Tryz.prog 24 (Value.nilFunc) 1 8 := ⟨by kernel_rfl⟩
instance : TSize Tryz.prog 25 1 := ⟨fun _ => by kernel_rfl⟩
instance : TAgg Tryz.prog 25 false := ⟨fun _ => by kernel_rfl⟩
instance : TZero Tryz.prog 25 (Value.nilFunc) := ⟨fun _ => by kernel_rfl⟩
instance : TInfo Tryz.prog 25 (Value.nilFunc) 1 8 := ⟨by kernel_rfl⟩
instance : TSize Tryz.prog 27 1 := ⟨fun _ => by kernel_rfl⟩
instance : TAgg Tryz.prog 27 false := ⟨fun _ => by kernel_rfl⟩
instance : TZero Tryz.prog 27 (Value.nilFunc) := ⟨fun _ => by kernel_rfl⟩
instance : TInfo Tryz.prog 27 (Value.nilFunc) 1 8 := ⟨by kernel_rfl⟩
instance : TSize Tryz.prog 28 1 := ⟨fun _ => by kernel_rfl⟩
instance : TAgg Tryz.prog 28 false := ⟨fun _ => by kernel_rfl⟩
instance : TZero Tryz.prog 28 (Value.map none) := ⟨fun _ => by kernel_rfl⟩
instance : TInfo Tryz.prog 28 (Value.map none) 1 8 := ⟨by kernel_rfl⟩
instance : TMap Tryz.prog 28 9 3 := ⟨by kernel_rfl⟩
instance : TSize Tryz.prog 29 1 := ⟨fun _ => by kernel_rfl⟩
instance : TAgg Tryz.prog 29 false := ⟨fun _ => by kernel_rfl⟩
instance : TZero Tryz.prog 29 (Value.nilFunc) := ⟨fun _ => by kernel_rfl⟩
instance : TInfo Tryz.prog 29 (Value.nilFunc) 1 8 := ⟨by kernel_rfl⟩
instance : TSize Tryz.prog 30 1 := ⟨fun _ => by kernel_rfl⟩
instance : TAgg Tryz.prog 30 false := ⟨fun _ => by kernel_rfl⟩
instance : TZero Tryz.prog 30 (Value.nilFunc) := ⟨fun _ => by kernel_rfl⟩
instance : TInfo Tryz.prog 30 (Value.nilFunc) 1 8 := ⟨by kernel_rfl⟩
instance : TSize Tryz.prog 31 1 := ⟨fun _ => by kernel_rfl⟩
instance : TAgg Tryz.prog 31 false := ⟨fun _ => by kernel_rfl⟩
instance : TZero Tryz.prog 31 (Value.nilFunc) := ⟨fun _ => by kernel_rfl⟩
instance : TInfo Tryz.prog 31 (Value.nilFunc) 1 8 := ⟨by kernel_rfl⟩
instance : TSize Tryz.prog 32 1 := ⟨fun _ => by kernel_rfl⟩
instance : TAgg Tryz.prog 32 false := ⟨fun _ => by kernel_rfl⟩
instance : TZero Tryz.prog 32 (Value.int .i64 0) := ⟨fun _ => by kernel_rfl⟩
instance : TInfo Tryz.prog 32 (Value.int .i64 0) 1 8 := ⟨by kernel_rfl⟩
instance : TSize Tryz.prog 34 1 := ⟨fun _ => by kernel_rfl⟩
instance : TAgg Tryz.prog 34 false := ⟨fun _ => by kernel_rfl⟩
instance : TZero Tryz.prog 34 (Value.nilFunc) := ⟨fun _ => by kernel_rfl⟩
instance : TInfo Tryz.prog 34 (Value.nilFunc) 1 8 := ⟨by kernel_rfl⟩
instance : TSize Tryz.prog 35 1 := ⟨fun _ => by kernel_rfl⟩
instance : TAgg Tryz.prog 35 false := ⟨fun _ => by kernel_rfl⟩
instance : TZero Tryz.prog 35 (Value.nilFunc) := ⟨fun _ => by kernel_rfl⟩
instance : TInfo Tryz.prog 35 (Value.nilFunc) 1 8 := ⟨by kernel_rfl⟩
instance : TSize Tryz.prog 36 1 := ⟨fun _ => by kernel_rfl⟩
instance : TAgg Tryz.prog 36 false := ⟨fun _ => by kernel_rfl⟩
instance : TZero Tryz.prog 36 (Value.nilFunc) := ⟨fun _ => by kernel_rfl⟩
instance : TInfo Tryz.prog 36 (Value.nilFunc) 1 8 := ⟨by kernel_rfl⟩
instance : TSize Tryz.prog 37 1 := ⟨fun _ => by kernel_rfl⟩
instance : TAgg Tryz.prog 37 false := ⟨fun _ => by kernel_rfl⟩
instance : TZero Tryz.prog 37 (Value.nilFunc) := ⟨fun _ => by kernel_rfl⟩
instance : TInfo Tryz.prog 37 (Value.nilFunc) 1 8 := ⟨by kernel_rfl⟩
instance : TSize Tryz.prog 39 1 := ⟨fun _ => by kernel_rfl⟩
instance : TAgg Tryz.prog 39 false := ⟨fun _ => by kernel_rfl⟩
instance : TZero Tryz.prog 39 (Value.nilFunc) := ⟨fun _ => by kernel_rfl⟩
instance : TInfo Tryz.prog 39 (Value.nilFunc) 1 8 := ⟨by kernel_rfl⟩
instance : TSize Tryz.prog 40 1 := ⟨fun _ => by kernel_rfl⟩
instance : TAgg Tryz.prog 40 false := ⟨fun _ => by kernel_rfl⟩
instance : TZero Tryz.prog 40 (Value.nilFunc) := ⟨fun _ => by kernel_rfl⟩
instance : TInfo Tryz.prog 40 (Value.nilFunc) 1 8 := ⟨by kernel_rfl⟩
instance : TSize Tryz.prog 41 1 := ⟨fun _ => by kernel_rfl⟩
instance : TAgg Tryz.prog 41 false := ⟨fun _ => by kernel_rfl⟩
instance : TZero Tryz.prog 41 (Value.nilFunc) := ⟨fun _ => by kernel_rfl⟩
instance : TInfo Tryz.prog 41 (Value.nilFunc) 1 8 := ⟨by kernel_rfl⟩
instance : TSize Tryz.prog 43 1 := ⟨fun _ => by kernel_rfl⟩
instance : TAgg Tryz.prog 43 false := ⟨fun _ => by kernel_rfl⟩
instance : TZero Tryz.prog 43 (Value.nilFunc) := ⟨fun _ => by kernel_rfl⟩
instance : TInfo Tryz.prog 43 (Value.nilFunc) 1 8 := ⟨by kernel_rfl⟩
instance : TSize Tryz.prog 44 1 := ⟨fun _ => by kernel_rfl⟩
instance : TAgg Tryz.prog 44 false := ⟨fun _ => by kernel_rfl⟩
instance : TZero Tryz.prog 44 (Value.nilFunc) := ⟨fun _ => by kernel_rfl⟩
instance : TInfo Tryz.prog 44 (Value.nilFunc) 1 8 := ⟨by kernel_rfl⟩
instance : TSize Tryz.prog 45 1 := ⟨fun _ => by kernel_rfl⟩
instance : TAgg Tryz.prog 45 false := ⟨fun _ => by kernel_rfl⟩
instance : TZero Tryz.prog 45 (Value.nilFunc) := ⟨fun _ => by kernel_rfl⟩
instance : TInfo Tryz.prog 45 (Value.nilFunc) 1 8 := ⟨by kernel_rfl⟩
instance : TSize Tryz.prog 46 1 := ⟨fun _ => by kernel_rfl⟩
instance : TAgg Tryz.prog 46 false := ⟨fun _ => by kernel_rfl⟩
instance : TZero Tryz.prog 46 (Value.nilFunc) := ⟨fun _ => by kernel_rfl⟩
instance : TInfo Tryz.prog 46 (Value.nilFunc) 1 8 := ⟨by kernel_rfl⟩
instance : TSize Tryz.prog 48 1 := ⟨fun _ => by kernel_rfl⟩
instance : TAgg Tryz.prog 48 false := ⟨fun _ => by kernel_rfl⟩
instance : TZero Tryz.prog 48 (Value.nilFunc) := ⟨fun _ => by kernel_rfl⟩
instance : TInfo Tryz.prog 48 (Value.nilFunc) 1 8 := ⟨by kernel_rfl⟩
instance : TSize Tryz.prog 49 1 := ⟨fun _ => by kernel_rfl⟩
instance : TAgg Tryz.prog 49 false := ⟨fun _ => by kernel_rfl⟩
instance : TZero Tryz.prog 49 (Value.nilFunc) := ⟨fun _ => by kernel_rfl⟩
instance : TInfo Tryz.prog 49 (Value.nilFunc) 1 8 := ⟨by kernel_rfl⟩
instance : TSize Tryz.prog 50 1 := ⟨fun _ => by kernel_rfl⟩
instance : TAgg Tryz.prog 50 false := ⟨fun _ => by kernel_rfl⟩
instance : TZero Tryz.prog 50 (Value.nilFunc) := ⟨fun _ => by kernel_rfl⟩
instance : TInfo Tryz.prog 50 (Value.nilFunc) 1 8 := ⟨by kernel_rfl⟩
instance : TSize Tryz.prog 51 1 := ⟨fun _ => by kernel_rfl⟩
instance : TAgg Tryz.prog 51 false := ⟨fun _ => by kernel_rfl⟩
instance : TZero Tryz.prog 51 (Value.nilFunc) := ⟨fun _ => by kernel_rfl⟩
instance : TInfo Tryz.prog 51 (Value.nilFunc) 1 8 := ⟨by kernel_rfl⟩
instance : TSize Tryz.prog 52 1 := ⟨fun _ => by kernel_rfl⟩
instance : TAgg Tryz.prog 52 false := ⟨fun _ => by kernel_rfl⟩
instance : TZero Tryz.prog 52 (Value.nilFunc) := ⟨fun _ => by kernel_rfl⟩
instance : TInfo Tryz.prog 52 (Value.nilFunc) 1 8 := ⟨by kernel_rfl⟩
instance : TSize Tryz.prog 53 1 := ⟨fun _ => by kernel_rfl⟩
instance : TAgg Tryz.prog 53 false := ⟨fun _ => by kernel_rfl⟩
instance : TZero Tryz.prog 53 (Value.nilFunc) := ⟨fun _ => by kernel_rfl⟩
instance : TInfo Tryz.prog 53 (Value.nilFunc) 1 8 := ⟨by kernel_rfl⟩
instance : TSize Tryz.prog 54 1 := ⟨fun _ => by kernel_rfl⟩
instance : TAgg Tryz.prog 54 false := ⟨fun _ => by kernel_rfl⟩
instance : TZero Tryz.prog 54 (Value.nilFunc) := ⟨fun _ => by kernel_rfl⟩
instance : TInfo Tryz.prog 54 (Value.nilFunc) 1 8 := ⟨by kernel_rfl⟩
instance : TSize Tryz.prog 55 1 := ⟨fun _ => by kernel_rfl⟩
instance : TAgg Tryz.prog 55 false := ⟨fun _ => by kernel_rfl⟩
instance : TZero Tryz.prog 55 (Value.nilFunc) := ⟨fun _ => by kernel_rfl⟩
instance : TInfo Tryz.prog 55 (Value.nilFunc) 1 8 := ⟨by kernel_rfl⟩
instance : TSize Tryz.prog 56 1 := ⟨fun _ => by kernel_rfl⟩
instance : TAgg Tryz.prog 56 false := ⟨fun _ => by kernel_rfl⟩
instance : TZero Tryz.prog 56 (Value.nilFunc) := ⟨fun _ => by kernel_rfl⟩
instance : TInfo Tryz.prog 56 (Value.nilFunc) 1 8 := ⟨by kernel_rfl⟩
instance : TSize Tryz.prog 57 1 := ⟨fun _ => by kernel_rfl⟩
instance : TAgg Tryz.prog 57 false := ⟨fun _ => by kernel_rfl⟩
instance : TZero Tryz.prog 57 (Value.nilFunc) := ⟨fun _ => by kernel_rfl⟩
instance : TInfo Tryz.prog 57 (Value.nilFunc) 1 8 := ⟨by kernel_rfl⟩
instance : TSize Tryz.prog 58 1 := ⟨fun _ => by kernel_rfl⟩
instance : TAgg Tryz.prog 58 false := ⟨fun _ => by kernel_rfl⟩
instance : TZero Tryz.prog 58 (Value.nilFunc) := ⟨fun _ => by kernel_rfl⟩
instance : TInfo Tryz.prog 58 (Value.nilFunc) 1 8 := ⟨by kernel_rfl⟩
instance : TSize Tryz.prog 59 1 := ⟨fun _ => by kernel_rfl⟩
instance : TAgg Tryz.prog 59 false := ⟨fun _ => by kernel_rfl⟩
instance : TZero Tryz.prog 59 (Value.nilFunc) := ⟨fun _ => by kernel_rfl⟩
instance : TInfo Tryz.prog 59 (Value.nilFunc) 1 8 := ⟨by kernel_rfl⟩
instance : TSize Tryz.prog 60 1 := ⟨fun _ => by kernel_rfl⟩
instance : TAgg Tryz.prog 60 false := ⟨fun _ => by kernel_rfl⟩
instance : TZero Tryz.prog 60 (Value.nilFunc) := ⟨fun _ => by kernel_rfl⟩
instance : TInfo Tryz.prog 60 (Value.nilFunc) 1 8 := ⟨by kernel_rfl⟩
instance : TSize Tryz.prog 61 1 := ⟨fun _ => by kernel_rfl⟩
instance : TAgg Tryz.prog 61 false := ⟨fun _ => by kernel_rfl⟩
instance : TZero Tryz.prog 61 (Value.nilFunc) := ⟨fun _ => by kernel_rfl⟩
instance : TInfo Tryz.prog 61 (Value.nilFunc) 1 8 := ⟨by kernel_rfl⟩
instance : TSize Tryz.prog 62 1 := ⟨fun _ => by kernel_rfl⟩
instance : TAgg Tryz.prog 62 false := ⟨fun _ => by kernel_rfl⟩
instance : TZero Tryz.prog 62 (Value.map none) := ⟨fun _ => by kernel_rfl⟩
instance : TInfo Tryz.prog 62 (Value.map none) 1 8 := ⟨by kernel_rfl⟩
instance : TMap Tryz.prog 62 9 4 := ⟨by kernel_rfl⟩
instance : TSize Tryz.prog 64 1 := ⟨fun _ => by kernel_rfl⟩
instance : TAgg Tryz.prog 64 false := ⟨fun _ => by kernel_rfl⟩
instance : TZero Tryz.prog 64 (Value.nilFunc) := ⟨fun _ => by kernel_rfl⟩
instance : TInfo Tryz.prog 64 (Value.nilFunc) 1 8 := ⟨by kernel_rfl⟩
instance : TSize Tryz.prog 65 1 := ⟨fun _ => by kernel_rfl⟩
instance : TAgg Tryz.prog 65 false := ⟨fun _ => by kernel_rfl⟩
instance : TZero Tryz.prog 65 (Value.nilFunc) := ⟨fun _ => by kernel_rfl⟩
instance : TInfo Tryz.prog 65 (Value.nilFunc) 1 8 := ⟨by kernel_rfl⟩
instance : TSize Tryz.prog 66 1 := ⟨fun _ => by kernel_rfl⟩
instance : TAgg Tryz.prog 66 false := ⟨fun _ => by kernel_rfl⟩
instance : TZero Tryz.prog 66 (Value.nilFunc) := ⟨fun _ => by kernel_rfl⟩
instance : TInfo Tryz.prog 66 (Value.nilFunc) 1 8 := ⟨by kernel_rfl⟩
instance : TSize Tryz.prog 67 1 := ⟨fun _ => by kernel_rfl⟩
instance : TAgg Tryz.prog 67 false := ⟨fun _ => by kernel_rfl⟩
instance : TZero Tryz.prog 67 (Value.nilFunc) := ⟨fun _ => by kernel_rfl⟩
instance : TInfo Tryz.prog 67 (Value.nilFunc) 1 8 := ⟨by kernel_rfl⟩
instance : TSize Tryz.prog 68 1 := ⟨fun _ => by kernel_rfl⟩
instance : TAgg Tryz.prog 68 false := ⟨fun _ => by kernel_rfl⟩
instance : TZero Tryz.prog 68 (Value.nilFunc) := ⟨fun _ => by kernel_rfl⟩
instance : TInfo Tryz.prog 68 (Value.nilFunc) 1 8 := ⟨by kernel_rfl⟩
instance : TSize Tryz.prog 69 1 := ⟨fun _ => by kernel_rfl⟩
instance : TAgg Tryz.prog 69 false := ⟨fun _ => by kernel_rfl⟩
instance : TZero Tryz.prog 69 (Value.nilFunc) := ⟨fun _ => by kernel_rfl⟩
instance : TInfo Tryz.prog 69 (Value.nilFunc) 1 8 := ⟨by kernel_rfl⟩
instance : TSize Tryz.prog 70 1 := ⟨fun _ => by kernel_rfl⟩
instance : TAgg Tryz.prog 70 false := ⟨fun _ => by kernel_rfl⟩
instance : TZero Tryz.prog 70 (Value.nilFunc) := ⟨fun _ => by kernel_rfl⟩
instance : TInfo Tryz.prog 70 (Value.nilFunc) 1 8 := ⟨by kernel_rfl⟩
instance : TSize Tryz.prog 71 1 := ⟨fun _ => by kernel_rfl⟩
instance : TAgg Tryz.prog 71 false := ⟨fun _ => by kernel_rfl⟩
instance : TZero Tryz.prog 71 (Value.nilFunc) := ⟨fun _ => by kernel_rfl⟩
instance : TInfo Tryz.prog 71 (Value.nilFunc) 1 8 := ⟨by kernel_rfl⟩
instance : TSize Tryz.prog 72 1 := ⟨fun _ => by kernel_rfl⟩
instance : TAgg Tryz.prog 72 false := ⟨fun _ => by kernel_rfl⟩
instance : TZero Tryz.prog 72 (Value.nilFunc) := ⟨fun _ => by kernel_rfl⟩
instance : TInfo Tryz.prog 72 (Value.nilFunc) 1 8 := ⟨by kernel_rfl⟩
instance : TSize Tryz.prog 73 1 := ⟨fun _ => by kernel_rfl⟩
instance : TAgg Tryz.prog 73 false := ⟨fun _ => by kernel_rfl⟩
instance : TZero Tryz.prog 73 (Value.nilFunc) := ⟨fun _ => by kernel_rfl⟩
instance : TInfo Tryz.prog 73 (Value.nilFunc) 1 8 := ⟨by kernel_rfl⟩
instance : TSize Tryz.prog 74 1 := ⟨fun _ => by kernel_rfl⟩
instance : TAgg Tryz.prog 74 false := ⟨fun _ => by kernel_rfl⟩
instance : TZero Tryz.prog 74 (Value.nilFunc) := ⟨fun _ => by kernel_rfl⟩
instance : TInfo Tryz.prog 74 (Value.nilFunc) 1 8 := ⟨by kernel_rfl⟩
instance : TSize Tryz.prog 75 1 := ⟨fun _ => by kernel_rfl⟩
instance : TAgg Tryz.prog 75 false := ⟨fun _ => by kernel_rfl⟩
instance : TZero Tryz.prog 75 (Value.nilFunc) := ⟨fun _ => by kernel_rfl⟩
instance : TInfo Tryz.prog 75 (Value.nilFunc) 1 8 := ⟨by kernel_rfl⟩
instance : TSize Tryz.prog 76 1 := ⟨fun _ => by kernel_rfl⟩
instance : TAgg Tryz.prog 76 false := ⟨fun _ => by kernel_rfl⟩
instance : TZero Tryz.prog 76 (Value.nilFunc) := ⟨fun _ => by kernel_rfl⟩
instance : TInfo Tryz.prog 76 (Value.nilFunc) 1 8 := ⟨by kernel_rfl⟩
instance : TSize Tryz.prog 77 1 := ⟨fun _ => by kernel_rfl⟩
instance : TAgg Tryz.prog 77 false := ⟨fun _ => by kernel_rfl⟩
instance : TZero Tryz.prog 77 (Value.pointer none) := ⟨fun _ => by kernel_rfl⟩
instance : TInfo Tryz.prog 77 (Value.pointer none) 1 8 := ⟨by kernel_rfl⟩
instance : TSize Tryz.prog 78 1 := ⟨fun _ => by kernel_rfl⟩
instance : TAgg Tryz.prog 78 false := ⟨fun _ => by kernel_rfl⟩
instance : TZero Tryz.prog 78 (Value.slice none 0 0) := ⟨fun _ => by kernel_rfl⟩
instance : TInfo Tryz.prog 78 (Value.slice none 0 0) 1 24 := ⟨by kernel_rfl⟩
instance : TElem Tryz.prog 78 5 := ⟨by kernel_rfl⟩
instance : TSize Tryz.prog 79 2 := ⟨fun _ => by kernel_rfl⟩
instance : TAgg Tryz.prog 79 true := ⟨fun _ => by kernel_rfl⟩
instance : TZero Tryz.prog 79 (Value.agg #[(Value.pointer none), (Value.slice none 0 0)]) := ⟨fun _ => by kernel_rfl⟩
instance : TInfo Tryz.prog 79 (Value.agg #[(Value.pointer none), (Value.slice none 0 0)]) 2 32 := ⟨by kernel_rfl⟩
instance : TField Tryz.prog 79 0 0 := ⟨fun _ _ _ => by kernel_rfl⟩
instance : TField Tryz.prog 79 1 1 := ⟨fun _ _ _ => by kernel_rfl⟩
instance : TSize Tryz.prog 80 2 := ⟨fun _ => by kernel_rfl⟩
instance : TAgg Tryz.prog 80 true := ⟨fun _ => by kernel_rfl⟩
instance : TZero Tryz.prog 80 (Value.agg #[(Value.pointer none), (Value.slice none 0 0)]) := ⟨fun _ => by kernel_rfl⟩
instance : TInfo Tryz.prog 80 (Value.agg #[(Value.pointer none), (Value.slice none 0 0)]) 2 32 := ⟨by kernel_rfl⟩
instance : TField Tryz.prog 80 0 0 := ⟨fun _ _ _ => by kernel_rfl⟩
instance : TField Tryz.prog 80 1 1 := ⟨fun _ _ _ => by kernel_rfl⟩
instance : TSize Tryz.prog 81 1 := ⟨fun _ => by kernel_rfl⟩
instance : TAgg Tryz.prog 81 false := ⟨fun _ => by kernel_rfl⟩
instance : TZero Tryz.prog 81 (Value.nilFunc) := ⟨fun _ => by kernel_rfl⟩
instance : TInfo Tryz.prog 81 (Value.nilFunc) 1 8 := ⟨by kernel_rfl⟩
instance : TSize Tryz.prog 82 1 := ⟨fun _ => by kernel_rfl⟩
instance : TAgg Tryz.prog 82 false := ⟨fun _ => by kernel_rfl⟩
instance : TZero Tryz.prog 82 (Value.nilIface) := ⟨fun _ => by kernel_rfl⟩
instance : TInfo Tryz.prog 82 (Value.nilIface) 1 16 := ⟨by kernel_rfl⟩
instance : TSize Tryz.prog 83 1 := ⟨fun _ => by kernel_rfl⟩
instance : TAgg Tryz.prog 83 false := ⟨fun _ => by kernel_rfl⟩
instance : TZero Tryz.prog 83 (Value.nilIface) := ⟨fun _ => by kernel_rfl⟩
instance : TInfo Tryz.prog 83 (Value.nilIface) 1 16 := ⟨by kernel_rfl⟩
instance : TSize Tryz.prog 85 1 := ⟨fun _ => by kernel_rfl⟩
instance : TAgg Tryz.prog 85 false := ⟨fun _ => by kernel_rfl⟩
instance : TZero Tryz.prog 85 (Value.nilFunc) := ⟨fun _ => by kernel_rfl⟩
instance : TInfo Tryz.prog 85 (Value.nilFunc) 1 8 := ⟨by kernel_rfl⟩
instance : TSize Tryz.prog 86 1 := ⟨fun _ => by kernel_rfl⟩
instance : TAgg Tryz.prog 86 false := ⟨fun _ => by kernel_rfl⟩
instance : TZero Tryz.prog 86 (Value.nilFunc) := ⟨fun _ => by kernel_rfl⟩
instance : TInfo Tryz.prog 86 (Value.nilFunc) 1 8 := ⟨by kernel_rfl⟩
instance : TSize Tryz.prog 87 1 := ⟨fun _ => by kernel_rfl⟩
instance : TAgg Tryz.prog 87 false := ⟨fun _ => by kernel_rfl⟩
instance : TZero Tryz.prog 87 (Value.nilFunc) := ⟨fun _ => by kernel_rfl⟩
instance : TInfo Tryz.prog 87 (Value.nilFunc) 1 8 := ⟨by kernel_rfl⟩
instance : TSize Tryz.prog 88 1 := ⟨fun _ => by kernel_rfl⟩
instance : TAgg Tryz.prog 88 false := ⟨fun _ => by kernel_rfl⟩
instance : TZero Tryz.prog 88 (Value.nilFunc) := ⟨fun _ => by kernel_rfl⟩
instance : TInfo Tryz.prog 88 (Value.nilFunc) 1 8 := ⟨by kernel_rfl⟩
instance : TSize Tryz.prog 89 1 := ⟨fun _ => by kernel_rfl⟩
instance : TAgg Tryz.prog 89 false := ⟨fun _ => by kernel_rfl⟩
instance : TZero Tryz.prog 89 (Value.nilFunc) := ⟨fun _ => by kernel_rfl⟩
instance : TInfo Tryz.prog 89 (Value.nilFunc) 1 8 := ⟨by kernel_rfl⟩
instance : TSize Tryz.prog 90 1 := ⟨fun _ => by kernel_rfl⟩
instance : TAgg Tryz.prog 90 false := ⟨fun _ => by kernel_rfl⟩
instance : TZero Tryz.prog 90 (Value.int .u64 0) := ⟨fun _ => by kernel_rfl⟩
instance : TInfo Tryz.prog 90 (Value.int .u64 0) 1 8 := ⟨by kernel_rfl⟩
instance : TSize Tryz.prog 91 1 := ⟨fun _ => by kernel_rfl⟩
instance : TAgg Tryz.prog 91 false := ⟨fun _ => by kernel_rfl⟩
instance : TZero Tryz.prog 91 (Value.nilFunc) := ⟨fun _ => by kernel_rfl⟩
instance : TInfo Tryz.prog 91 (Value.nilFunc) 1 8 := ⟨by kernel_rfl⟩
instance : TSize Tryz.prog 92 1 := ⟨fun _ => by kernel_rfl⟩
instance : TAgg Tryz.prog 92 false := ⟨fun _ => by kernel_rfl⟩
instance : TZero Tryz.prog 92 (Value.nilFunc) := ⟨fun _ => by kernel_rfl⟩
instance : TInfo Tryz.prog 92 (Value.nilFunc) 1 8 := ⟨by kernel_rfl⟩
instance : TSize Tryz.prog 93 1 := ⟨fun _ => by kernel_rfl⟩
instance : TAgg Tryz.prog 93 false := ⟨fun _ => by kernel_rfl⟩
instance : TZero Tryz.prog 93 (Value.nilFunc) := ⟨fun _ => by kernel_rfl⟩
instance : TInfo Tryz.prog 93 (Value.nilFunc) 1 8 := ⟨by kernel_rfl⟩
instance : TSize Tryz.prog 94 1 := ⟨fun _ => by kernel_rfl⟩
instance : TAgg Tryz.prog 94 false := ⟨fun _ => by kernel_rfl⟩
instance : TZero Tryz.prog 94 (Value.int .u32 0) := ⟨fun _ => by kernel_rfl⟩
instance : TInfo Tryz.prog 94 (Value.int .u32 0) 1 4 := ⟨by kernel_rfl⟩
instance : TSize Tryz.prog 96 1 := ⟨fun _ => by kernel_rfl⟩
instance : TAgg Tryz.prog 96 false := ⟨fun _ => by kernel_rfl⟩
instance : TZero Tryz.prog 96 (Value.nilFunc) := ⟨fun _ => by kernel_rfl⟩
instance : TInfo Tryz.prog 96 (Value.nilFunc) 1 8 := ⟨by kernel_rfl⟩
instance : TSize Tryz.prog 97 1 := ⟨fun _ => by kernel_rfl⟩
instance : TAgg Tryz.prog 97 false := ⟨fun _ => by kernel_rfl⟩
instance : TZero Tryz.prog 97 (Value.nilFunc) := ⟨fun _ => by kernel_rfl⟩
instance : TInfo Tryz.prog 97 (Value.nilFunc) 1 8 := ⟨by kernel_rfl⟩
instance : TSize Tryz.prog 98 1 := ⟨fun _ => by kernel_rfl⟩
instance : TAgg Tryz.prog 98 false := ⟨fun _ => by kernel_rfl⟩
instance : TZero Tryz.prog 98 (Value.pointer none) := ⟨fun _ => by kernel_rfl⟩
instance : TInfo Tryz.prog 98 (Value.pointer none) 1 8 := ⟨by kernel_rfl⟩
instance : TSize Tryz.prog 99 1 := ⟨fun _ => by kernel_rfl⟩
instance : TAgg Tryz.prog 99 false := ⟨fun _ => by kernel_rfl⟩
instance : TZero Tryz.prog 99 (Value.nilFunc) := ⟨fun _ => by kernel_rfl⟩
instance : TInfo Tryz.prog 99 (Value.nilFunc) 1 8 := ⟨by kernel_rfl⟩
instance : TSize Tryz.prog 100 1 := ⟨fun _ => by kernel_rfl⟩
instance : TAgg Tryz.prog 100 false := ⟨fun _ => by kernel_rfl⟩
instance : TZero Tryz.prog 100 (Value.int .i64 0) := ⟨fun _ => by kernel_rfl⟩
instance : TInfo Tryz.prog 100 (Value.int .i64 0) 1 8 := ⟨by kernel_rfl⟩
instance : TSize Tryz.prog 102 1 := ⟨fun _ => by kernel_rfl⟩
instance : TAgg Tryz.prog 102 false := ⟨fun _ => by kernel_rfl⟩
instance : TZero Tryz.prog 102 (Value.nilFunc) := ⟨fun _ => by kernel_rfl⟩
instance : TInfo Tryz.prog 102 (Value.nilFunc) 1 8 := ⟨by kernel_rfl⟩
instance : TSize Tryz.prog 103 1 := ⟨fun _ => by kernel_rfl⟩
instance : TAgg Tryz.prog 103 false := ⟨fun _ => by kernel_rfl⟩
instance : TZero Tryz.prog 103 (Value.nilFunc) := ⟨fun _ => by kernel_rfl⟩
instance : TInfo Tryz.prog 103 (Value.nilFunc) 1 8 := ⟨by kernel_rfl⟩
instance : TSize Tryz.prog 104 1 := ⟨fun _ => by kernel_rfl⟩
instance : TAgg Tryz.prog 104 false := ⟨fun _ => by kernel_rfl⟩
instance : TZero Tryz.prog 104 (Value.nilFunc) := ⟨fun _ => by kernel_rfl⟩
instance : TInfo Tryz.prog 104 (Value.nilFunc) 1 8 := ⟨by kernel_rfl⟩
instance : TSize Tryz.prog 106 1 := ⟨fun _ => by kernel_rfl⟩
instance : TAgg Tryz.prog 106 false := ⟨fun _ => by kernel_rfl⟩
instance : TZero Tryz.prog 106 (Value.nilFunc) := ⟨fun _ => by kernel_rfl⟩
instance : TInfo Tryz.prog 106 (Value.nilFunc) 1 8 := ⟨by kernel_rfl⟩
instance : TSize Tryz.prog 107 1 := ⟨fun _ => by kernel_rfl⟩
instance : TAgg Tryz.prog 107 false := ⟨fun _ => by kernel_rfl⟩
instance : TZero Tryz.prog 107 (Value.nilFunc) := ⟨fun _ => by kernel_rfl⟩
instance : TInfo Tryz.prog 107 (Value.nilFunc) 1 8 := ⟨by kernel_rfl⟩
instance : TSize Tryz.prog 108 1 := ⟨fun _ => by kernel_rfl⟩
instance : TAgg Tryz.prog 108 false := ⟨fun _ => by kernel_rfl⟩
instance : TZero Tryz.prog 108 (Value.nilFunc) := ⟨fun _ => by kernel_rfl⟩
instance : TInfo Tryz.prog 108 (Value.nilFunc) 1 8 := ⟨by kernel_rfl⟩
instance : TSize Tryz.prog 109 1 := ⟨fun _ => by kernel_rfl⟩
instance : TAgg Tryz.prog 109 false := ⟨fun _ => by kernel_rfl⟩
instance : TZero Tryz.prog 109 (Value.int .u64 0) := ⟨fun _ => by kernel_rfl⟩
instance : TInfo Tryz.prog 109 (Value.int .u64 0) 1 8 := ⟨by kernel_rfl⟩
instance : TSize Tryz.prog 110 1 := ⟨fun _ => by kernel_rfl⟩
instance : TAgg Tryz.prog 110 false := ⟨fun _ => by kernel_rfl⟩
instance : TZero Tryz.prog 110 (Value.nilFunc) := ⟨fun _ => by kernel_rfl⟩
instance : TInfo Tryz.prog 110 (Value.nilFunc) 1 8 := ⟨by kernel_rfl⟩
instance : TSize Tryz.prog 111 1 := ⟨fun _ => by kernel_rfl⟩
instance : TAgg Tryz.prog 111 false := ⟨fun _ => by kernel_rfl⟩
instance : TZero Tryz.prog 111 (Value.nilFunc) := ⟨fun _ => by kernel_rfl⟩
instance : TInfo Tryz.prog 111 (Value.nilFunc) 1 8 := ⟨by kernel_rfl⟩
instance : TSize Tryz.prog 112 1 := ⟨fun _ => by kernel_rfl⟩
instance : TAgg Tryz.prog 112 false := ⟨fun _ => by kernel_rfl⟩
instance : TZero Tryz.prog 112 (Value.nilFunc) := ⟨fun _ => by kernel_rfl⟩
instance : TInfo Tryz.prog 112 (Value.nilFunc) 1 8 := ⟨by kernel_rfl⟩
instance : TSize Tryz.prog 113 1 := ⟨fun _ => by kernel_rfl⟩
instance : TAgg Tryz.prog 113 false := ⟨fun _ => by kernel_rfl⟩
instance : TZero Tryz.prog 113 (Value.nilFunc) := ⟨fun _ => by kernel_rfl⟩
instance : TInfo Tryz.prog 113 (Value.nilFunc) 1 8 := ⟨by kernel_rfl⟩
instance : TSize Tryz.prog 114 1 := ⟨fun _ => by kernel_rfl⟩
instance : TAgg Tryz.prog 114 false := ⟨fun _ => by kernel_rfl⟩
instance : TZero Tryz.prog 114 (Value.nilFunc) := ⟨fun _ => by kernel_rfl⟩
instance : TInfo Tryz.prog 114 (Value.nilFunc) 1 8 := ⟨by kernel_rfl⟩
instance : TSize Tryz.prog 115 1 := ⟨fun _ => by kernel_rfl⟩
instance : TAgg Tryz.prog 115 false := ⟨fun _ => by kernel_rfl⟩
instance : TZero Tryz.prog 115 (Value.nilFunc) := ⟨fun _ => by kernel_rfl⟩
instance : TInfo Tryz.prog 115 (Value.nilFunc) 1 8 := ⟨by kernel_rfl⟩
instance : TSize Tryz.prog 117 1 := ⟨fun _ => by kernel_rfl⟩
instance : TAgg Tryz.prog 117 false := ⟨fun _ => by kernel_rfl⟩
instance : TZero Tryz.prog 117 (Value.nilFunc) := ⟨fun _ => by kernel_rfl⟩
instance : TInfo Tryz.prog 117 (Value.nilFunc) 1 8 := ⟨by kernel_rfl⟩
instance : TSize Tryz.prog 118 1 := ⟨fun _ => by kernel_rfl⟩
instance : TAgg Tryz.prog 118 false := ⟨fun _ => by kernel_rfl⟩
instance : TZero Tryz.prog 118 (Value.nilFunc) := ⟨fun _ => by kernel_rfl⟩
instance : TInfo Tryz.prog 118 (Value.nilFunc) 1 8 := ⟨by kernel_rfl⟩
instance : TSize Tryz.prog 119 1 := ⟨fun _ => by kernel_rfl⟩
instance : TAgg Tryz.prog 119 false := ⟨fun _ => by kernel_rfl⟩
instance : TZero Tryz.prog 119 (Value.pointer none) := ⟨fun _ => by kernel_rfl⟩
instance : TInfo Tryz.prog 119 (Value.pointer none) 1 8 := ⟨by kernel_rfl⟩
instance : TSize Tryz.prog 120 1 := ⟨fun _ => by kernel_rfl⟩
instance : TAgg Tryz.prog 120 false := ⟨fun _ => by kernel_rfl⟩
instance : TZero Tryz.prog 120 (Value.nilFunc) := ⟨fun _ => by kernel_rfl⟩
instance : TInfo Tryz.prog 120 (Value.nilFunc) 1 8 := ⟨by kernel_rfl⟩
instance : TSize Tryz.prog 121 1 := ⟨fun _ => by kernel_rfl⟩
instance : TAgg Tryz.prog 121 false := ⟨fun _ => by kernel_rfl⟩
instance : TZero Tryz.prog 121 (Value.nilFunc) := ⟨fun _ => by kernel_rfl⟩
instance : TInfo Tryz.prog 121 (Value.nilFunc) 1 8 := ⟨by kernel_rfl⟩
instance : TSize Tryz.prog 122 1 := ⟨fun _ => by kernel_rfl⟩
instance : TAgg Tryz.prog 122 false := ⟨fun _ => by kernel_rfl⟩
instance : TZero Tryz.prog 122 (Value.int .u64 0) := ⟨fun _ => by kernel_rfl⟩
instance : TInfo Tryz.prog 122 (Value.int .u64 0) 1 8 := ⟨by kernel_rfl⟩
instance : TSize Tryz.prog 123 1 := ⟨fun _ => by kernel_rfl⟩
instance : TAgg Tryz.prog 123 false := ⟨fun _ => by kernel_rfl⟩
instance : TZero Tryz.prog 123 (Value.nilFunc) := ⟨fun _ => by kernel_rfl⟩
instance : TInfo Tryz.prog 123 (Value.nilFunc) 1 8 := ⟨by kernel_rfl⟩
instance : TSize Tryz.prog 124 1 := ⟨fun _ => by kernel_rfl⟩
instance : TAgg Tryz.prog 124 false := ⟨fun _ => by kernel_rfl⟩
instance : TZero Tryz.prog 124 (Value.nilFunc) := ⟨fun _ => by kernel_rfl⟩
instance : TInfo Tryz.prog 124 (Value.nilFunc) 1 8 := ⟨by kernel_rfl⟩
instance : TSize Tryz.prog 125 1 := ⟨fun _ => by kernel_rfl⟩
instance : TAgg Tryz.prog 125 false := ⟨fun _ => by kernel_rfl⟩
instance : TZero Tryz.prog 125 (Value.nilFunc) := ⟨fun _ => by kernel_rfl⟩
instance : TInfo Tryz.prog 125 (Value.nilFunc) 1 8 := ⟨by kernel_rfl⟩
instance : TSize Tryz.prog 126 1 := ⟨fun _ => by kernel_rfl⟩
instance : TAgg Tryz.prog 126 false := ⟨fun _ => by kernel_rfl⟩
instance : TZero Tryz.prog 126 (Value.pointer none) := ⟨fun _ => by kernel_rfl⟩
instance : TInfo Tryz.prog 126 (Value.pointer none) 1 8 := ⟨by kernel_rfl⟩
instance : TSize Tryz.prog 127 1 := ⟨fun _ => by kernel_rfl⟩
instance : TAgg Tryz.prog 127 false := ⟨fun _ => by kernel_rfl⟩
instance : TZero Tryz.prog 127 (Value.nilFunc) := ⟨fun _ => by kernel_rfl⟩
instance : TInfo Tryz.prog 127 (Value.nilFunc) 1 8 := ⟨by kernel_rfl⟩
instance : TSize Tryz.prog 128 1 := ⟨fun _ => by kernel_rfl⟩
instance : TAgg Tryz.prog 128 false := ⟨fun _ => by kernel_rfl⟩
instance : TZero Tryz.prog 128 (Value.nilFunc) := ⟨fun _ => by kernel_rfl⟩
instance : TInfo Tryz.prog 128 (Value.nilFunc) 1 8 := ⟨by kernel_rfl⟩
instance : TSize Tryz.prog 129 1 := ⟨fun _ => by kernel_rfl⟩
instance : TAgg Tryz.prog 129 false := ⟨fun _ => by kernel_rfl⟩
instance : TZero Tryz.prog 129 (Value.nilFunc) := ⟨fun _ => by kernel_rfl⟩
instance : TInfo Tryz.prog 129 (Value.nilFunc) 1 8 := ⟨by kernel_rfl⟩
instance : TSize Tryz.prog 130 1 := ⟨fun _ => by kernel_rfl⟩
instance : TAgg Tryz.prog 130 false := ⟨fun _ => by kernel_rfl⟩
instance : TZero Tryz.prog 130 (Value.pointer none) := ⟨fun _ => by kernel_rfl⟩
instance : TInfo Tryz.prog 130 (Value.pointer none) 1 8 := ⟨by kernel_rfl⟩
instance : TSize Tryz.prog 132 1 := ⟨fun _ => by kernel_rfl⟩
instance : TAgg Tryz.prog 132 false := ⟨fun _ => by kernel_rfl⟩
instance : TZero Tryz.prog 132 (Value.nilFunc) := ⟨fun _ => by kernel_rfl⟩
instance : TInfo Tryz.prog 132 (Value.nilFunc) 1 8 := ⟨by kernel_rfl⟩
instance : TSize Tryz.prog 133 1 := ⟨fun _ => by kernel_rfl⟩
instance : TAgg Tryz.prog 133 false := ⟨fun _ => by kernel_rfl⟩
instance : TZero Tryz.prog 133 (Value.nilFunc) := ⟨fun _ => by kernel_rfl⟩
instance : TInfo Tryz.prog 133 (Value.nilFunc) 1 8 := ⟨by kernel_rfl⟩
instance : TSize Tryz.prog 134 256 := ⟨fun _ => by kernel_rfl⟩
instance : TAgg Tryz.prog 134 true := ⟨fun _ => by kernel_rfl⟩
instance : TZero Tryz.prog 134 (Value.agg (List.replicate 256 (Value.int .u8 0)).toArray) := ⟨fun _ => by kernel_rfl⟩
instance : TInfo Tryz.prog 134 (Value.agg (List.replicate 256 (Value.int .u8 0)).toArray) 256 256 := ⟨by kernel_rfl⟩
instance : TSize Tryz.prog 135 2 := ⟨fun _ => by kernel_rfl⟩
instance : TAgg Tryz.prog 135 true := ⟨fun _ => by kernel_rfl⟩
instance : TZero Tryz.prog 135 (Value.agg #[(Value.int .u8 0), (Value.int .u8 0)]) := ⟨fun _ => by kernel_rfl⟩
instance : TInfo Tryz.prog 135 (Value.agg #[(Value.int .u8 0), (Value.int .u8 0)]) 2 2 := ⟨by kernel_rfl⟩
instance : TField Tryz.prog 135 0 0 := ⟨fun _ _ _ => by kernel_rfl⟩
instance : TField Tryz.prog 135 1 1 := ⟨fun _ _ _ => by kernel_rfl⟩
instance : TSize Tryz.prog 136 2 := ⟨fun _ => by kernel_rfl⟩
instance : TAgg Tryz.prog 136 true := ⟨fun _ => by kernel_rfl⟩
instance : TZero Tryz.prog 136 (Value.agg #[(Value.int .u8 0), (Value.int .u8 0)]) := ⟨fun _ => by kernel_rfl⟩
instance : TInfo Tryz.prog 136 (Value.agg #[(Value.int .u8 0), (Value.int .u8 0)]) 2 2 := ⟨by kernel_rfl⟩
instance : TField Tryz.prog 136 0 0 := ⟨fun _ _ _ => by kernel_rfl⟩
instance : TField Tryz.prog 136 1 1 := ⟨fun _ _ _ => by kernel_rfl⟩
instance : TSize Tryz.prog 137 32 := ⟨fun _ => by kernel_rfl⟩
instance : TAgg Tryz.prog 137 true := ⟨fun _ => by kernel_rfl⟩
instance : TZero Tryz.prog 137 (Value.agg (List.replicate 32 (Value.int .u8 0)).toArray) := ⟨fun _ => by kernel_rfl⟩
instance : TInfo Tryz.prog 137 (Value.agg (List.replicate 32 (Value.int .u8 0)).toArray) 32 32 := ⟨by kernel_rfl⟩
instance : TSize Tryz.prog 138 4 := ⟨fun _ => by kernel_rfl⟩
instance : TAgg Tryz.prog 138 true := ⟨fun _ => by kernel_rfl⟩
instance : TZero Tryz.prog 138 (Value.agg #[(Value.pointer none), (Value.pointer none), (Value.pointer none), (Value.string ByteArray.empty)]) := ⟨fun _ => by kernel_rfl⟩
instance : TInfo Tryz.prog 138 (Value.agg #[(Value.pointer none), (Value.pointer none), (Value.pointer none), (Value.string ByteArray.empty)]) 4 40 := ⟨by kernel_rfl⟩
instance : TField Tryz.prog 138 0 0 := ⟨fun _ _ _ => by kernel_rfl⟩
instance : TField Tryz.prog 138 1 1 := ⟨fun _ _ _ => by kernel_rfl⟩
instance : TField Tryz.prog 138 2 2 := ⟨fun _ _ _ => by kernel_rfl⟩
instance : TField Tryz.prog 138 3 3 := ⟨fun _ _ _ => by kernel_rfl⟩
instance : TSize Tryz.prog 139 4 := ⟨fun _ => by kernel_rfl⟩
instance : TAgg Tryz.prog 139 true := ⟨fun _ => by kernel_rfl⟩
instance : TZero Tryz.prog 139 (Value.agg #[(Value.pointer none), (Value.pointer none), (Value.pointer none), (Value.string ByteArray.empty)]) := ⟨fun _ => by kernel_rfl⟩
instance : TInfo Tryz.prog 139 (Value.agg #[(Value.pointer none), (Value.pointer none), (Value.pointer none), (Value.string ByteArray.empty)]) 4 40 := ⟨by kernel_rfl⟩
instance : TField Tryz.prog 139 0 0 := ⟨fun _ _ _ => by kernel_rfl⟩
instance : TField Tryz.prog 139 1 1 := ⟨fun _ _ _ => by kernel_rfl⟩
instance : TField Tryz.prog 139 2 2 := ⟨fun _ _ _ => by kernel_rfl⟩
instance : TField Tryz.prog 139 3 3 := ⟨fun _ _ _ => by kernel_rfl⟩
instance : TSize Tryz.prog 140 0 := ⟨fun _ => by kernel_rfl⟩
instance : TAgg Tryz.prog 140 true := ⟨fun _ => by kernel_rfl⟩
instance : TZero Tryz.prog 140 (Value.agg #[]) := ⟨fun _ => by kernel_rfl⟩
instance : TInfo Tryz.prog 140 (Value.agg #[]) 0 0 := ⟨by kernel_rfl⟩
instance : TSize Tryz.prog 141 0 := ⟨fun _ => by kernel_rfl⟩
instance : TAgg Tryz.prog 141 true := ⟨fun _ => by kernel_rfl⟩
instance : TZero Tryz.prog 141 (Value.agg #[]) := ⟨fun _ => by kernel_rfl⟩
instance : TInfo Tryz.prog 141 (Value.agg #[]) 0 0 := ⟨by kernel_rfl⟩
instance : TSize Tryz.prog 142 0 := ⟨fun _ => by kernel_rfl⟩
instance : TAgg Tryz.prog 142 true := ⟨fun _ => by kernel_rfl⟩
instance : TZero Tryz.prog 142 (Value.agg #[]) := ⟨fun _ => by kernel_rfl⟩
instance : TInfo Tryz.prog 142 (Value.agg #[]) 0 0 := ⟨by kernel_rfl⟩
instance : TSize Tryz.prog 143 1 := ⟨fun _ => by kernel_rfl⟩
instance : TAgg Tryz.prog 143 false := ⟨fun _ => by kernel_rfl⟩
instance : TZero Tryz.prog 143 (Value.nilFunc) := ⟨fun _ => by kernel_rfl⟩
instance : TInfo Tryz.prog 143 (Value.nilFunc) 1 8 := ⟨by kernel_rfl⟩
instance : TSize Tryz.prog 144 1 := ⟨fun _ => by kernel_rfl⟩
instance : TAgg Tryz.prog 144 false := ⟨fun _ => by kernel_rfl⟩
instance : TZero Tryz.prog 144 (Value.int .u8 0) := ⟨fun _ => by kernel_rfl⟩
instance : TInfo Tryz.prog 144 (Value.int .u8 0) 1 1 := ⟨by kernel_rfl⟩
instance : TSize Tryz.prog 145 1 := ⟨fun _ => by kernel_rfl⟩
instance : TAgg Tryz.prog 145 false := ⟨fun _ => by kernel_rfl⟩
instance : TZero Tryz.prog 145 (Value.int .u8 0) := ⟨fun _ => by kernel_rfl⟩
instance : TInfo Tryz.prog 145 (Value.int .u8 0) 1 1 := ⟨by kernel_rfl⟩
instance : TSize Tryz.prog 146 1 := ⟨fun _ => by kernel_rfl⟩
instance : TAgg Tryz.prog 146 false := ⟨fun _ => by kernel_rfl⟩
instance : TZero Tryz.prog 146 (Value.nilFunc) := ⟨fun _ => by kernel_rfl⟩
instance : TInfo Tryz.prog 146 (Value.nilFunc) 1 8 := ⟨by kernel_rfl⟩
instance : TSize Tryz.prog 147 1 := ⟨fun _ => by kernel_rfl⟩
instance : TAgg Tryz.prog 147 false := ⟨fun _ => by kernel_rfl⟩
instance : TZero Tryz.prog 147 (Value.int .i32 0) := ⟨fun _ => by kernel_rfl⟩
instance : TInfo Tryz.prog 147 (Value.int .i32 0) 1 4 := ⟨by kernel_rfl⟩
instance : TSize Tryz.prog 148 1 := ⟨fun _ => by kernel_rfl⟩
instance : TAgg Tryz.prog 148 false := ⟨fun _ => by kernel_rfl⟩
instance : TZero Tryz.prog 148 (Value.int .i32 0) := ⟨fun _ => by kernel_rfl⟩
instance : TInfo Tryz.prog 148 (Value.int .i32 0) 1 4 := ⟨by kernel_rfl⟩
instance : TSize Tryz.prog 149 11 := ⟨fun _ => by kernel_rfl⟩
instance : TAgg Tryz.prog 149 true := ⟨fun _ => by kernel_rfl⟩
instance : TZero Tryz.prog 149 (Value.agg ([(Value.int .u64 0), (Value.int .u64 0), (Value.int .u32 0), (Value.int .u8 0), (Value.int .u8 0), (Value.int .u8 0), (Value.int .u8 0), (Value.nilFunc), (Value.pointer none), (Value.int .i32 0), (Value.int .i32 0)]).toArray) := ⟨fun _ => by kernel_rfl⟩
instance : TInfo Tryz.prog 149 (Value.agg ([(Value.int .u64 0), (Value.int .u64 0), (Value.int .u32 0), (Value.int .u8 0), (Value.int .u8 0), (Value.int .u8 0), (Value.int .u8 0), (Value.nilFunc), (Value.pointer none), (Value.int .i32 0), (Value.int .i32 0)]).toArray) 11 48 := ⟨by kernel_rfl⟩
instance : TField Tryz.prog 149 0 0 := ⟨fun _ _ _ => by kernel_rfl⟩
instance : TField Tryz.prog 149 1 1 := ⟨fun _ _ _ => by kernel_rfl⟩
instance : TField Tryz.prog 149 2 2 := ⟨fun _ _ _ => by kernel_rfl⟩
instance : TField Tryz.prog 149 3 3 := ⟨fun _ _ _ => by kernel_rfl⟩
instance : TField Tryz.prog 149 4 4 := ⟨fun _ _ _ => by kernel_rfl⟩
instance : TField Tryz.prog 149 5 5 := ⟨fun _ _ _ => by kernel_rfl⟩
instance : TField Tryz.prog 149 6 6 := ⟨fun _ _ _ => by kernel_rfl⟩
instance : TField Tryz.prog 149 7 7 := ⟨fun _ _ _ => by kernel_rfl⟩
instance : TField Tryz.prog 149 8 8 := ⟨fun _ _ _ => by kernel_rfl⟩
instance : TField Tryz.prog 149 9 9 := ⟨fun _ _ _ => by kernel_rfl⟩
instance : TField Tryz.prog 149 10 10 := ⟨fun _ _ _ => by kernel_rfl⟩
instance : TSize Tryz.prog 150 11 := ⟨fun _ => by kernel_rfl⟩
instance : TAgg Tryz.prog 150 true := ⟨fun _ => by kernel_rfl⟩
instance : TZero Tryz.prog 150 (Value.agg ([(Value.int .u64 0), (Value.int .u64 0), (Value.int .u32 0), (Value.int .u8 0), (Value.int .u8 0), (Value.int .u8 0), (Value.int .u8 0), (Value.nilFunc), (Value.pointer none), (Value.int .i32 0), (Value.int .i32 0)]).toArray) := ⟨fun _ => by kernel_rfl⟩
instance : TInfo Tryz.prog 150 (Value.agg ([(Value.int .u64 0), (Value.int .u64 0), (Value.int .u32 0), (Value.int .u8 0), (Value.int .u8 0), (Value.int .u8 0), (Value.int .u8 0), (Value.nilFunc), (Value.pointer none), (Value.int .i32 0), (Value.int .i32 0)]).toArray) 11 48 := ⟨by kernel_rfl⟩
instance : TField Tryz.prog 150 0 0 := ⟨fun _ _ _ => by kernel_rfl⟩
instance : TField Tryz.prog 150 1 1 := ⟨fun _ _ _ => by kernel_rfl⟩
instance : TField Tryz.prog 150 2 2 := ⟨fun _ _ _ => by kernel_rfl⟩
instance : TField Tryz.prog 150 3 3 := ⟨fun _ _ _ => by kernel_rfl⟩
instance : TField Tryz.prog 150 4 4 := ⟨fun _ _ _ => by kernel_rfl⟩
instance : TField Tryz.prog 150 5 5 := ⟨fun _ _ _ => by kernel_rfl⟩
instance : TField Tryz.prog 150 6 6 := ⟨fun _ _ _ => by kernel_rfl⟩
instance : TField Tryz.prog 150 7 7 := ⟨fun _ _ _ => by kernel_rfl⟩
instance : TField Tryz.prog 150 8 8 := ⟨fun _ _ _ => by kernel_rfl⟩
instance : TField Tryz.prog 150 9 9 := ⟨fun _ _ _ => by kernel_rfl⟩
instance : TField Tryz.prog 150 10 10 := ⟨fun _ _ _ => by kernel_rfl⟩
end Go.Proofs.YtdolgoplflpbgaaGreatDoor
