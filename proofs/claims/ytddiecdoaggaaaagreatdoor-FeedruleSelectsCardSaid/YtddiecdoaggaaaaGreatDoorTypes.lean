/- MADE BY PROGRAM (wip/tools/types.py): the facts on types that the laws ask. -/
import Derived.Test.YtddiecdoaggaaaaGreatDoorEng
import Derived.Test.YtddiecdoaggaaaaGreatDoorRows
import Derived.KernelRfl
namespace Go.Proofs.YtddiecdoaggaaaaGreatDoor
instance : TSize Tryz.prog 1 1 := ⟨fun _ => by kernel_rfl⟩
instance : TAgg Tryz.prog 1 false := ⟨fun _ => by kernel_rfl⟩
instance : TZero Tryz.prog 1 (Value.nilFunc) := ⟨fun _ => by kernel_rfl⟩
instance : TInfo Tryz.prog 1 (Value.nilFunc) 1 8 := ⟨by kernel_rfl⟩
instance : TSize Tryz.prog 2 1 := ⟨fun _ => by kernel_rfl⟩
instance : TAgg Tryz.prog 2 false := ⟨fun _ => by kernel_rfl⟩
instance : TZero Tryz.prog 2 (Value.int .i64 0) := ⟨fun _ => by kernel_rfl⟩
instance : TInfo Tryz.prog 2 (Value.int .i64 0) 1 8 := ⟨by kernel_rfl⟩
instance : TSize Tryz.prog 3 1 := ⟨fun _ => by kernel_rfl⟩
instance : TAgg Tryz.prog 3 false := ⟨fun _ => by kernel_rfl⟩
instance : TZero Tryz.prog 3 (Value.int .i64 0) := ⟨fun _ => by kernel_rfl⟩
instance : TInfo Tryz.prog 3 (Value.int .i64 0) 1 8 := ⟨by kernel_rfl⟩
instance : TSize Tryz.prog 4 1 := ⟨fun _ => by kernel_rfl⟩
instance : TAgg Tryz.prog 4 false := ⟨fun _ => by kernel_rfl⟩
instance : TZero Tryz.prog 4 (Value.bool false) := ⟨fun _ => by kernel_rfl⟩
instance : TInfo Tryz.prog 4 (Value.bool false) 1 1 := ⟨by kernel_rfl⟩
instance : TSize Tryz.prog 5 1 := ⟨fun _ => by kernel_rfl⟩
instance : TAgg Tryz.prog 5 false := ⟨fun _ => by kernel_rfl⟩
instance : TZero Tryz.prog 5 (Value.int .u8 0) := ⟨fun _ => by kernel_rfl⟩
instance : TInfo Tryz.prog 5 (Value.int .u8 0) 1 1 := ⟨by kernel_rfl⟩
instance : TSize Tryz.prog 6 1 := ⟨fun _ => by kernel_rfl⟩
instance : TAgg Tryz.prog 6 false := ⟨fun _ => by kernel_rfl⟩
instance : TZero Tryz.prog 6 (Value.int .u8 0) := ⟨fun _ => by kernel_rfl⟩
instance : TInfo Tryz.prog 6 (Value.int .u8 0) 1 1 := ⟨by kernel_rfl⟩
instance : TSize Tryz.prog 7 4 := ⟨fun _ => by kernel_rfl⟩
instance : TAgg Tryz.prog 7 true := ⟨fun _ => by kernel_rfl⟩
instance : TZero Tryz.prog 7 (Value.agg #[(Value.int .i64 0), (Value.int .i64 0), (Value.bool false), (Value.int .u8 0)]) := ⟨fun _ => by kernel_rfl⟩
instance : TInfo Tryz.prog 7 (Value.agg #[(Value.int .i64 0), (Value.int .i64 0), (Value.bool false), (Value.int .u8 0)]) 4 24 := ⟨by kernel_rfl⟩
instance : TField Tryz.prog 7 0 0 := ⟨fun _ _ _ => by kernel_rfl⟩
instance : TField Tryz.prog 7 1 1 := ⟨fun _ _ _ => by kernel_rfl⟩
instance : TField Tryz.prog 7 2 2 := ⟨fun _ _ _ => by kernel_rfl⟩
instance : TField Tryz.prog 7 3 3 := ⟨fun _ _ _ => by kernel_rfl⟩
instance : TSize Tryz.prog 8 4 := ⟨fun _ => by kernel_rfl⟩
instance : TAgg Tryz.prog 8 true := ⟨fun _ => by kernel_rfl⟩
instance : TZero Tryz.prog 8 (Value.agg #[(Value.int .i64 0), (Value.int .i64 0), (Value.bool false), (Value.int .u8 0)]) := ⟨fun _ => by kernel_rfl⟩
instance : TInfo Tryz.prog 8 (Value.agg #[(Value.int .i64 0), (Value.int .i64 0), (Value.bool false), (Value.int .u8 0)]) 4 24 := ⟨by kernel_rfl⟩
instance : TField Tryz.prog 8 0 0 := ⟨fun _ _ _ => by kernel_rfl⟩
instance : TField Tryz.prog 8 1 1 := ⟨fun _ _ _ => by kernel_rfl⟩
instance : TField Tryz.prog 8 2 2 := ⟨fun _ _ _ => by kernel_rfl⟩
instance : TField Tryz.prog 8 3 3 := ⟨fun _ _ _ => by kernel_rfl⟩
instance : TSize Tryz.prog 9 1 := ⟨fun _ => by kernel_rfl⟩
instance : TAgg Tryz.prog 9 false := ⟨fun _ => by kernel_rfl⟩
instance : TZero Tryz.prog 9 (Value.string ByteArray.empty) := ⟨fun _ => by kernel_rfl⟩
instance : TInfo Tryz.prog 9 (Value.string ByteArray.empty) 1 16 := ⟨by kernel_rfl⟩
instance : TStr Tryz.prog 9 := ⟨by kernel_rfl⟩
instance : TSize Tryz.prog 10 1 := ⟨fun _ => by kernel_rfl⟩
instance : TAgg Tryz.prog 10 false := ⟨fun _ => by kernel_rfl⟩
instance : TZero Tryz.prog 10 (Value.string ByteArray.empty) := ⟨fun _ => by kernel_rfl⟩
instance : TInfo Tryz.prog 10 (Value.string ByteArray.empty) 1 16 := ⟨by kernel_rfl⟩
instance : TStr Tryz.prog 10 := ⟨by kernel_rfl⟩
instance : TSize Tryz.prog 11 1 := ⟨fun _ => by kernel_rfl⟩
instance : TAgg Tryz.prog 11 false := ⟨fun _ => by kernel_rfl⟩
instance : TZero Tryz.prog 11 (Value.string ByteArray.empty) := ⟨fun _ => by kernel_rfl⟩
instance : TInfo Tryz.prog 11 (Value.string ByteArray.empty) 1 16 := ⟨by kernel_rfl⟩
instance : TStr Tryz.prog 11 := ⟨by kernel_rfl⟩
instance : TSize Tryz.prog 12 1 := ⟨fun _ => by kernel_rfl⟩
instance : TAgg Tryz.prog 12 false := ⟨fun _ => by kernel_rfl⟩
instance : TZero Tryz.prog 12 (Value.int .u64 0) := ⟨fun _ => by kernel_rfl⟩
instance : TInfo Tryz.prog 12 (Value.int .u64 0) 1 8 := ⟨by kernel_rfl⟩
instance : TSize Tryz.prog 13 2 := ⟨fun _ => by kernel_rfl⟩
instance : TAgg Tryz.prog 13 true := ⟨fun _ => by kernel_rfl⟩
instance : TZero Tryz.prog 13 (Value.agg #[(Value.string ByteArray.empty), (Value.int .u64 0)]) := ⟨fun _ => by kernel_rfl⟩
instance : TInfo Tryz.prog 13 (Value.agg #[(Value.string ByteArray.empty), (Value.int .u64 0)]) 2 24 := ⟨by kernel_rfl⟩
instance : TField Tryz.prog 13 0 0 := ⟨fun _ _ _ => by kernel_rfl⟩
instance : TField Tryz.prog 13 1 1 := ⟨fun _ _ _ => by kernel_rfl⟩
instance : TSize Tryz.prog 14 2 := ⟨fun _ => by kernel_rfl⟩
instance : TAgg Tryz.prog 14 true := ⟨fun _ => by kernel_rfl⟩
instance : TZero Tryz.prog 14 (Value.agg #[(Value.string ByteArray.empty), (Value.int .u64 0)]) := ⟨fun _ => by kernel_rfl⟩
instance : TInfo Tryz.prog 14 (Value.agg #[(Value.string ByteArray.empty), (Value.int .u64 0)]) 2 24 := ⟨by kernel_rfl⟩
instance : TField Tryz.prog 14 0 0 := ⟨fun _ _ _ => by kernel_rfl⟩
instance : TField Tryz.prog 14 1 1 := ⟨fun _ _ _ => by kernel_rfl⟩
instance : TSize Tryz.prog 15 1 := ⟨fun _ => by kernel_rfl⟩
instance : TAgg Tryz.prog 15 false := ⟨fun _ => by kernel_rfl⟩
instance : TZero Tryz.prog 15 (Value.pointer none) := ⟨fun _ => by kernel_rfl⟩
instance : TInfo Tryz.prog 15 (Value.pointer none) 1 8 := ⟨by kernel_rfl⟩
instance : TSize Tryz.prog 16 1 := ⟨fun _ => by kernel_rfl⟩
instance : TAgg Tryz.prog 16 false := ⟨fun _ => by kernel_rfl⟩
instance : TZero Tryz.prog 16 (Value.pointer none) := ⟨fun _ => by kernel_rfl⟩
instance : TInfo Tryz.prog 16 (Value.pointer none) 1 8 := ⟨by kernel_rfl⟩
instance : TSize Tryz.prog 17 1 := ⟨fun _ => by kernel_rfl⟩
instance : TAgg Tryz.prog 17 false := ⟨fun _ => by kernel_rfl⟩
instance : TZero Tryz.prog 17 (Value.pointer none) := ⟨fun _ => by kernel_rfl⟩
instance : TInfo Tryz.prog 17 (Value.pointer none) 1 8 := ⟨by kernel_rfl⟩
instance : TSize Tryz.prog 18 1 := ⟨fun _ => by kernel_rfl⟩
instance : TAgg Tryz.prog 18 true := ⟨fun _ => by kernel_rfl⟩
instance : TZero Tryz.prog 18 (Value.agg #[(Value.pointer none)]) := ⟨fun _ => by kernel_rfl⟩
instance : TInfo Tryz.prog 18 (Value.agg #[(Value.pointer none)]) 1 8 := ⟨by kernel_rfl⟩
instance : TField Tryz.prog 18 0 0 := ⟨fun _ _ _ => by kernel_rfl⟩
instance : TSize Tryz.prog 19 1 := ⟨fun _ => by kernel_rfl⟩
instance : TAgg Tryz.prog 19 true := ⟨fun _ => by kernel_rfl⟩
instance : TZero Tryz.prog 19 (Value.agg #[(Value.pointer none)]) := ⟨fun _ => by kernel_rfl⟩
instance : TInfo Tryz.prog 19 (Value.agg #[(Value.pointer none)]) 1 8 := ⟨by kernel_rfl⟩
instance : TField Tryz.prog 19 0 0 := ⟨fun _ _ _ => by kernel_rfl⟩
instance : TSize Tryz.prog 20 1 := ⟨fun _ => by kernel_rfl⟩
instance : TAgg Tryz.prog 20 false := ⟨fun _ => by kernel_rfl⟩
instance : TZero Tryz.prog 20 (Value.nilIface) := ⟨fun _ => by kernel_rfl⟩
instance : TInfo Tryz.prog 20 (Value.nilIface) 1 16 := ⟨by kernel_rfl⟩
instance : TSize Tryz.prog 21 1 := ⟨fun _ => by kernel_rfl⟩
instance : TAgg Tryz.prog 21 false := ⟨fun _ => by kernel_rfl⟩
instance : TZero Tryz.prog 21 (Value.int .i32 0) := ⟨fun _ => by kernel_rfl⟩
instance : TInfo Tryz.prog 21 (Value.int .i32 0) 1 4 := ⟨by kernel_rfl⟩
instance : TSize Tryz.prog 22 1 := ⟨fun _ => by kernel_rfl⟩
instance : TAgg Tryz.prog 22 false := ⟨fun _ => by kernel_rfl⟩
instance : TZero Tryz.prog 22 (Value.slice none 0 0) := ⟨fun _ => by kernel_rfl⟩
instance : TInfo Tryz.prog 22 (Value.slice none 0 0) 1 24 := ⟨by kernel_rfl⟩
instance : TElem Tryz.prog 22 9 := ⟨by kernel_rfl⟩
instance : TSize Tryz.prog 23 5 := ⟨fun _ => by kernel_rfl⟩
instance : TAgg Tryz.prog 23 true := ⟨fun _ => by kernel_rfl⟩
instance : TZero Tryz.prog 23 (Value.agg #[(Value.string ByteArray.empty), (Value.string ByteArray.empty), (Value.int .i64 0), (Value.int .i64 0), (Value.slice none 0 0)]) := ⟨fun _ => by kernel_rfl⟩
instance : TInfo Tryz.prog 23 (Value.agg #[(Value.string ByteArray.empty), (Value.string ByteArray.empty), (Value.int .i64 0), (Value.int .i64 0), (Value.slice none 0 0)]) 5 72 := ⟨by kernel_rfl⟩
instance : TField Tryz.prog 23 0 0 := ⟨fun _ _ _ => by kernel_rfl⟩
instance : TField Tryz.prog 23 1 1 := ⟨fun _ _ _ => by kernel_rfl⟩
instance : TField Tryz.prog 23 2 2 := ⟨fun _ _ _ => by kernel_rfl⟩
instance : TField Tryz.prog 23 3 3 := ⟨fun _ _ _ => by kernel_rfl⟩
instance : TField Tryz.prog 23 4 4 := ⟨fun _ _ _ => by kernel_rfl⟩
instance : TSize Tryz.prog 24 5 := ⟨fun _ => by kernel_rfl⟩
instance : TAgg Tryz.prog 24 true := ⟨fun _ => by kernel_rfl⟩
instance : TZero Tryz.prog 24 (Value.agg #[(Value.string ByteArray.empty), (Value.string ByteArray.empty), (Value.int .i64 0), (Value.int .i64 0), (Value.slice none 0 0)]) := ⟨fun _ => by kernel_rfl⟩
instance : TInfo Tryz.prog 24 (Value.agg #[(Value.string ByteArray.empty), (Value.string ByteArray.empty), (Value.int .i64 0), (Value.int .i64 0), (Value.slice none 0 0)]) 5 72 := ⟨by kernel_rfl⟩
instance : TField Tryz.prog 24 0 0 := ⟨fun _ _ _ => by kernel_rfl⟩
instance : TField Tryz.prog 24 1 1 := ⟨fun _ _ _ => by kernel_rfl⟩
instance : TField Tryz.prog 24 2 2 := ⟨fun _ _ _ => by kernel_rfl⟩
instance : TField Tryz.prog 24 3 3 := ⟨fun _ _ _ => by kernel_rfl⟩
instance : TField Tryz.prog 24 4 4 := ⟨fun _ _ _ => by kernel_rfl⟩
instance : TSize Tryz.prog 25 1 := ⟨fun _ => by kernel_rfl⟩
instance : TAgg Tryz.prog 25 false := ⟨fun _ => by kernel_rfl⟩
instance : TZero Tryz.prog 25 (Value.slice none 0 0) := ⟨fun _ => by kernel_rfl⟩
instance : TInfo Tryz.prog 25 (Value.slice none 0 0) 1 24 := ⟨by kernel_rfl⟩
instance : TElem Tryz.prog 25 72 := ⟨by kernel_rfl⟩
instance : TSize Tryz.prog 26 5 := ⟨fun _ => by kernel_rfl⟩
instance : TAgg Tryz.prog 26 true := ⟨fun _ => by kernel_rfl⟩
instance : TZero Tryz.prog 26 (Value.agg #[(Value.string ByteArray.empty), (Value.string ByteArray.empty), (Value.int .i64 0), (Value.int .i64 0), (Value.slice none 0 0)]) := ⟨fun _ => by kernel_rfl⟩
instance : TInfo Tryz.prog 26 (Value.agg #[(Value.string ByteArray.empty), (Value.string ByteArray.empty), (Value.int .i64 0), (Value.int .i64 0), (Value.slice none 0 0)]) 5 72 := ⟨by kernel_rfl⟩
instance : TField Tryz.prog 26 0 0 := ⟨fun _ _ _ => by kernel_rfl⟩
instance : TField Tryz.prog 26 1 1 := ⟨fun _ _ _ => by kernel_rfl⟩
instance : TField Tryz.prog 26 2 2 := ⟨fun _ _ _ => by kernel_rfl⟩
instance : TField Tryz.prog 26 3 3 := ⟨fun _ _ _ => by kernel_rfl⟩
instance : TField Tryz.prog 26 4 4 := ⟨fun _ _ _ => by kernel_rfl⟩
instance : TSize Tryz.prog 28 1 := ⟨fun _ => by kernel_rfl⟩
instance : TAgg Tryz.prog 28 false := ⟨fun _ => by kernel_rfl⟩
instance : TZero Tryz.prog 28 (Value.nilFunc) := ⟨fun _ => by kernel_rfl⟩
instance : TInfo Tryz.prog 28 (Value.nilFunc) 1 8 := ⟨by kernel_rfl⟩
instance : TSize Tryz.prog 29 1 := ⟨fun _ => by kernel_rfl⟩
instance : TAgg Tryz.prog 29 false := ⟨fun _ => by kernel_rfl⟩
instance : TZero Tryz.prog 29 (Value.pointer none) := ⟨fun _ => by kernel_rfl⟩
instance : TInfo Tryz.prog 29 (Value.pointer none) 1 8 := ⟨by kernel_rfl⟩
instance : TSize Tryz.prog 30 1 := ⟨fun _ => by kernel_rfl⟩
instance : TAgg Tryz.prog 30 false := ⟨fun _ => by kernel_rfl⟩
instance : TZero Tryz.prog 30 (Value.int .i64 0) := ⟨fun _ => by kernel_rfl⟩
instance : TInfo Tryz.prog 30 (Value.int .i64 0) 1 8 := ⟨by kernel_rfl⟩
instance : TSize Tryz.prog 32 1 := ⟨fun _ => by kernel_rfl⟩
instance : TAgg Tryz.prog 32 false := ⟨fun _ => by kernel_rfl⟩
instance : TZero Tryz.prog 32 (Value.nilFunc) := ⟨fun _ => by kernel_rfl⟩
instance : TInfo Tryz.prog 32 (Value.nilFunc) 1 8 := ⟨by kernel_rfl⟩
instance : TSize Tryz.prog 33 1 := ⟨fun _ => by kernel_rfl⟩
instance : TAgg Tryz.prog 33 false := ⟨fun _ => by kernel_rfl⟩
instance : TZero Tryz.prog 33 (Value.nilFunc) := ⟨fun _ => by kernel_rfl⟩
instance : TInfo Tryz.prog 33 (Value.nilFunc) 1 8 := ⟨by kernel_rfl⟩
instance : TSize Tryz.prog 34 1 := ⟨fun _ => by kernel_rfl⟩
instance : TAgg Tryz.prog 34 false := ⟨fun _ => by kernel_rfl⟩
instance : TZero Tryz.prog 34 (Value.nilFunc) := ⟨fun _ => by kernel_rfl⟩
instance : TInfo Tryz.prog 34 (Value.nilFunc) 1 8 := ⟨by kernel_rfl⟩
instance : TSize Tryz.prog 35 1 := ⟨fun _ => by kernel_rfl⟩
instance : TAgg Tryz.prog 35 false := ⟨fun _ => by kernel_rfl⟩
instance : TZero Tryz.prog 35 (Value.slice none 0 0) := ⟨fun _ => by kernel_rfl⟩
instance : TInfo Tryz.prog 35 (Value.slice none 0 0) 1 24 := ⟨by kernel_rfl⟩
instance : TElem Tryz.prog 35 55 := ⟨by kernel_rfl⟩
instance : TSize Tryz.prog 37 1 := ⟨fun _ => by kernel_rfl⟩
instance : TAgg Tryz.prog 37 false := ⟨fun _ => by kernel_rfl⟩
instance : TZero Tryz.prog 37 (Value.nilFunc) := ⟨fun _ => by kernel_rfl⟩
instance : TInfo Tryz.prog 37 (Value.nilFunc) 1 8 := ⟨by kernel_rfl⟩
instance : TSize Tryz.prog 38 1 := ⟨fun _ => by kernel_rfl⟩
instance : TAgg Tryz.prog 38 false := ⟨fun _ => by kernel_rfl⟩
instance : TZero Tryz.prog 38 (Value.slice none 0 0) := ⟨fun _ => by kernel_rfl⟩
instance : TInfo Tryz.prog 38 (Value.slice none 0 0) 1 24 := ⟨by kernel_rfl⟩
instance : TElem Tryz.prog 38 43 := ⟨by kernel_rfl⟩
instance : TSize Tryz.prog 39 1 := ⟨fun _ => by kernel_rfl⟩
instance : TAgg Tryz.prog 39 false := ⟨fun _ => by kernel_rfl⟩
instance : TZero Tryz.prog 39 (Value.nilFunc) := ⟨fun _ => by kernel_rfl⟩
instance : TInfo Tryz.prog 39 (Value.nilFunc) 1 8 := ⟨by kernel_rfl⟩
instance : TSize Tryz.prog 40 1 := ⟨fun _ => by kernel_rfl⟩
instance : TAgg Tryz.prog 40 false := ⟨fun _ => by kernel_rfl⟩
instance : TZero Tryz.prog 40 (Value.slice none 0 0) := ⟨fun _ => by kernel_rfl⟩
instance : TInfo Tryz.prog 40 (Value.slice none 0 0) 1 24 := ⟨by kernel_rfl⟩
instance : TElem Tryz.prog 40 42 := ⟨by kernel_rfl⟩
instance : TSize Tryz.prog 41 1 := ⟨fun _ => by kernel_rfl⟩
instance : TAgg Tryz.prog 41 false := ⟨fun _ => by kernel_rfl⟩
instance : TZero Tryz.prog 41 (Value.nilFunc) := ⟨fun _ => by kernel_rfl⟩
instance : TInfo Tryz.prog 41 (Value.nilFunc) 1 8 := ⟨by kernel_rfl⟩
instance : TSize Tryz.prog 42 32 := ⟨fun _ => by kernel_rfl⟩
instance : TAgg Tryz.prog 42 true := ⟨fun _ => by kernel_rfl⟩
instance : TZero Tryz.prog 42 (Value.agg (List.replicate 32 (Value.int .u8 0)).toArray) := ⟨fun _ => by kernel_rfl⟩
instance : TInfo Tryz.prog 42 (Value.agg (List.replicate 32 (Value.int .u8 0)).toArray) 32 32 := ⟨by kernel_rfl⟩
instance : TSize Tryz.prog 43 32 := ⟨fun _ => by kernel_rfl⟩
instance : TAgg Tryz.prog 43 true := ⟨fun _ => by kernel_rfl⟩
instance : TZero Tryz.prog 43 (Value.agg (List.replicate 32 (Value.int .u8 0)).toArray) := ⟨fun _ => by kernel_rfl⟩
instance : TInfo Tryz.prog 43 (Value.agg (List.replicate 32 (Value.int .u8 0)).toArray) 32 32 := ⟨by kernel_rfl⟩
instance : TSize Tryz.prog 44 1 := ⟨fun _ => by kernel_rfl⟩
instance : TAgg Tryz.prog 44 false := ⟨fun _ => by kernel_rfl⟩
instance : TZero Tryz.prog 44 (Value.nilFunc) := ⟨fun _ => by kernel_rfl⟩
instance : TInfo Tryz.prog 44 (Value.nilFunc) 1 8 := ⟨by kernel_rfl⟩
instance : TSize Tryz.prog 45 1 := ⟨fun _ => by kernel_rfl⟩
instance : TAgg Tryz.prog 45 false := ⟨fun _ => by kernel_rfl⟩
instance : TZero Tryz.prog 45 (Value.nilFunc) := ⟨fun _ => by kernel_rfl⟩
instance : TInfo Tryz.prog 45 (Value.nilFunc) 1 8 := ⟨by kernel_rfl⟩
instance : TSize Tryz.prog 46 1 := ⟨fun _ => by kernel_rfl⟩
instance : TAgg Tryz.prog 46 false := ⟨fun _ => by kernel_rfl⟩
instance : TZero Tryz.prog 46 (Value.nilFunc) := ⟨fun _ => by kernel_rfl⟩
instance : TInfo Tryz.prog 46 (Value.nilFunc) 1 8 := ⟨by kernel_rfl⟩
instance : TSize Tryz.prog 47 1 := ⟨fun _ => by kernel_rfl⟩
instance : TAgg Tryz.prog 47 false := ⟨fun _ => by kernel_rfl⟩
instance : TZero Tryz.prog 47 (Value.pointer none) := ⟨fun _ => by kernel_rfl⟩
instance : TInfo Tryz.prog 47 (Value.pointer none) 1 8 := ⟨by kernel_rfl⟩
instance : TSize Tryz.prog 49 1 := ⟨fun _ => by kernel_rfl⟩
instance : TAgg Tryz.prog 49 false := ⟨fun _ => by kernel_rfl⟩
instance : TZero Tryz.prog 49 (Value.nilFunc) := ⟨fun _ => by kernel_rfl⟩
instance : TInfo Tryz.prog 49 (Value.nilFunc) 1 8 := ⟨by kernel_rfl⟩
instance : TSize Tryz.prog 50 5 := ⟨fun _ => by kernel_rfl⟩
instance : TAgg Tryz.prog 50 true := ⟨fun _ => by kernel_rfl⟩
instance : TZero Tryz.prog 50 (Value.agg #[(Value.string ByteArray.empty), (Value.string ByteArray.empty), (Value.int .i64 0), (Value.int .i64 0), (Value.slice none 0 0)]) := ⟨fun _ => by kernel_rfl⟩
instance : TInfo Tryz.prog 50 (Value.agg #[(Value.string ByteArray.empty), (Value.string ByteArray.empty), (Value.int .i64 0), (Value.int .i64 0), (Value.slice none 0 0)]) 5 72 := ⟨by kernel_rfl⟩
instance : TField Tryz.prog 50 0 0 := ⟨fun _ _ _ => by kernel_rfl⟩
instance : TSize Tryz.prog 51 5 := ⟨fun _ => by kernel_rfl⟩
instance : TAgg Tryz.prog 51 true := ⟨fun _ => by kernel_rfl⟩
instance : TZero Tryz.prog 51 (Value.agg #[(Value.string ByteArray.empty), (Value.string ByteArray.empty), (Value.int .i64 0), (Value.int .i64 0), (Value.slice none 0 0)]) := ⟨fun _ => by kernel_rfl⟩
instance : TInfo Tryz.prog 51 (Value.agg #[(Value.string ByteArray.empty), (Value.string ByteArray.empty), (Value.int .i64 0), (Value.int .i64 0), (Value.slice none 0 0)]) 5 72 := ⟨by kernel_rfl⟩
instance : TField Tryz.prog 51 0 0 := ⟨fun _ _ _ => by kernel_rfl⟩
instance : TSize Tryz.prog 52 6 := ⟨fun _ => by kernel_rfl⟩
instance : TAgg Tryz.prog 52 true := ⟨fun _ => by kernel_rfl⟩
instance : TZero Tryz.prog 52 (Value.agg #[(Value.string ByteArray.empty), (Value.string ByteArray.empty), (Value.int .i64 0), (Value.int .i64 0), (Value.slice none 0 0), (Value.pointer none)]) := ⟨fun _ => by kernel_rfl⟩
instance : TInfo Tryz.prog 52 (Value.agg #[(Value.string ByteArray.empty), (Value.string ByteArray.empty), (Value.int .i64 0), (Value.int .i64 0), (Value.slice none 0 0), (Value.pointer none)]) 6 80 := ⟨by kernel_rfl⟩
instance : TField Tryz.prog 52 0 0 := ⟨fun _ _ _ => by kernel_rfl⟩
instance : TField Tryz.prog 52 1 5 := ⟨fun _ _ _ => by kernel_rfl⟩
instance : TSize Tryz.prog 53 6 := ⟨fun _ => by kernel_rfl⟩
instance : TAgg Tryz.prog 53 true := ⟨fun _ => by kernel_rfl⟩
instance : TZero Tryz.prog 53 (Value.agg #[(Value.string ByteArray.empty), (Value.string ByteArray.empty), (Value.int .i64 0), (Value.int .i64 0), (Value.slice none 0 0), (Value.pointer none)]) := ⟨fun _ => by kernel_rfl⟩
instance : TInfo Tryz.prog 53 (Value.agg #[(Value.string ByteArray.empty), (Value.string ByteArray.empty), (Value.int .i64 0), (Value.int .i64 0), (Value.slice none 0 0), (Value.pointer none)]) 6 80 := ⟨by kernel_rfl⟩
instance : TField Tryz.prog 53 0 0 := ⟨fun _ _ _ => by kernel_rfl⟩
instance : TField Tryz.prog 53 1 5 := ⟨fun _ _ _ => by kernel_rfl⟩
instance : TSize Tryz.prog 54 38 := ⟨fun _ => by kernel_rfl⟩
instance : TAgg Tryz.prog 54 true := ⟨fun _ => by kernel_rfl⟩
instance : TZero Tryz.prog 54 (Value.agg (List.replicate 32 (Value.int .u8 0) ++ [(Value.slice none 0 0), (Value.string ByteArray.empty), (Value.int .i64 0), (Value.bool false), (Value.string ByteArray.empty), (Value.int .i64 0)]).toArray) := ⟨fun _ => by kernel_rfl⟩
instance : TInfo Tryz.prog 54 (Value.agg (List.replicate 32 (Value.int .u8 0) ++ [(Value.slice none 0 0), (Value.string ByteArray.empty), (Value.int .i64 0), (Value.bool false), (Value.string ByteArray.empty), (Value.int .i64 0)]).toArray) 38 112 := ⟨by kernel_rfl⟩
instance : TField Tryz.prog 54 0 0 := ⟨fun _ _ _ => by kernel_rfl⟩
instance : TField Tryz.prog 54 1 32 := ⟨fun _ _ _ => by kernel_rfl⟩
instance : TField Tryz.prog 54 2 33 := ⟨fun _ _ _ => by kernel_rfl⟩
instance : TField Tryz.prog 54 3 34 := ⟨fun _ _ _ => by kernel_rfl⟩
instance : TField Tryz.prog 54 4 35 := ⟨fun _ _ _ => by kernel_rfl⟩
instance : TField Tryz.prog 54 5 36 := ⟨fun _ _ _ => by kernel_rfl⟩
instance : TField Tryz.prog 54 6 37 := ⟨fun _ _ _ => by kernel_rfl⟩
instance : TSize Tryz.prog 55 38 := ⟨fun _ => by kernel_rfl⟩
instance : TAgg Tryz.prog 55 true := ⟨fun _ => by kernel_rfl⟩
instance : TZero Tryz.prog 55 (Value.agg (List.replicate 32 (Value.int .u8 0) ++ [(Value.slice none 0 0), (Value.string ByteArray.empty), (Value.int .i64 0), (Value.bool false), (Value.string ByteArray.empty), (Value.int .i64 0)]).toArray) := ⟨fun _ => by kernel_rfl⟩
instance : TInfo Tryz.prog 55 (Value.agg (List.replicate 32 (Value.int .u8 0) ++ [(Value.slice none 0 0), (Value.string ByteArray.empty), (Value.int .i64 0), (Value.bool false), (Value.string ByteArray.empty), (Value.int .i64 0)]).toArray) 38 112 := ⟨by kernel_rfl⟩
instance : TField Tryz.prog 55 0 0 := ⟨fun _ _ _ => by kernel_rfl⟩
instance : TField Tryz.prog 55 1 32 := ⟨fun _ _ _ => by kernel_rfl⟩
instance : TField Tryz.prog 55 2 33 := ⟨fun _ _ _ => by kernel_rfl⟩
instance : TField Tryz.prog 55 3 34 := ⟨fun _ _ _ => by kernel_rfl⟩
instance : TField Tryz.prog 55 4 35 := ⟨fun _ _ _ => by kernel_rfl⟩
instance : TField Tryz.prog 55 5 36 := ⟨fun _ _ _ => by kernel_rfl⟩
instance : TField Tryz.prog 55 6 37 := ⟨fun _ _ _ => by kernel_rfl⟩
instance : TSize Tryz.prog 57 1 := ⟨fun _ => by kernel_rfl⟩
instance : TAgg Tryz.prog 57 false := ⟨fun _ => by kernel_rfl⟩
instance : TZero Tryz.prog 57 (Value.nilFunc) := ⟨fun _ => by kernel_rfl⟩
instance : TInfo Tryz.prog 57 (Value.nilFunc) 1 8 := ⟨by kernel_rfl⟩
instance : TSize Tryz.prog 58 1 := ⟨fun _ => by kernel_rfl⟩
instance : TAgg Tryz.prog 58 false := ⟨fun _ => by kernel_rfl⟩
instance : TZero Tryz.prog 58 (Value.pointer none) := ⟨fun _ => by kernel_rfl⟩
instance : TInfo Tryz.prog 58 (Value.pointer none) 1 8 := ⟨by kernel_rfl⟩
instance : TSize Tryz.prog 60 1 := ⟨fun _ => by kernel_rfl⟩
instance : TAgg Tryz.prog 60 false := ⟨fun _ => by kernel_rfl⟩
instance : TZero Tryz.prog 60 (Value.nilFunc) := ⟨fun _ => by kernel_rfl⟩
instance : TInfo Tryz.prog 60 (Value.nilFunc) 1 8 := ⟨by kernel_rfl⟩
instance : TSize Tryz.prog 61 1 := ⟨fun _ => by kernel_rfl⟩
instance : TAgg Tryz.prog 61 false := ⟨fun _ => by kernel_rfl⟩
instance : TZero Tryz.prog 61 (Value.nilFunc) := ⟨fun _ => by kernel_rfl⟩
instance : TInfo Tryz.prog 61 (Value.nilFunc) 1 8 := ⟨by kernel_rfl⟩
instance : TSize Tryz.prog 62 1 := ⟨fun _ => by kernel_rfl⟩
instance : TAgg Tryz.prog 62 false := ⟨fun _ => by kernel_rfl⟩
instance : TZero Tryz.prog 62 (Value.nilFunc) := ⟨fun _ => by kernel_rfl⟩
instance : TInfo Tryz.prog 62 (Value.nilFunc) 1 8 := ⟨by kernel_rfl⟩
instance : TSize Tryz.prog 63 1 := ⟨fun _ => by kernel_rfl⟩
instance : TAgg Tryz.prog 63 false := ⟨fun _ => by kernel_rfl⟩
instance : TZero Tryz.prog 63 (Value.nilFunc) := ⟨fun _ => by kernel_rfl⟩
instance : TInfo Tryz.prog 63 (Value.nilFunc) 1 8 := ⟨by kernel_rfl⟩
instance : TSize Tryz.prog 65 1 := ⟨fun _ => by kernel_rfl⟩
instance : TAgg Tryz.prog 65 false := ⟨fun _ => by kernel_rfl⟩
instance : TZero Tryz.prog 65 (Value.nilFunc) := ⟨fun _ => by kernel_rfl⟩
instance : TInfo Tryz.prog 65 (Value.nilFunc) 1 8 := ⟨by kernel_rfl⟩
instance : TSize Tryz.prog 66 1 := ⟨fun _ => by kernel_rfl⟩
instance : TAgg Tryz.prog 66 false := ⟨fun _ => by kernel_rfl⟩
instance : TZero Tryz.prog 66 (Value.slice none 0 0) := ⟨fun _ => by kernel_rfl⟩
instance : TInfo Tryz.prog 66 (Value.slice none 0 0) 1 24 := ⟨by kernel_rfl⟩
instance : TElem Tryz.prog 66 112 := ⟨by kernel_rfl⟩
instance : TSize Tryz.prog 68 1 := ⟨fun _ => by kernel_rfl⟩
instance : TAgg Tryz.prog 68 false := ⟨fun _ => by kernel_rfl⟩
instance : TZero Tryz.prog 68 (Value.nilFunc) := ⟨fun _ => by kernel_rfl⟩
instance : TInfo Tryz.prog 68 (Value.nilFunc) 1 8 := ⟨by kernel_rfl⟩
instance : TSize Tryz.prog 69 1 := ⟨fun _ => by kernel_rfl⟩
instance : TAgg Tryz.prog 69 false := ⟨fun _ => by kernel_rfl⟩
instance : TZero Tryz.prog 69 (Value.nilFunc) := ⟨fun _ => by kernel_rfl⟩
instance : TInfo Tryz.prog 69 (Value.nilFunc) 1 8 := ⟨by kernel_rfl⟩
instance : TSize Tryz.prog 70 1 := ⟨fun _ => by kernel_rfl⟩
instance : TAgg Tryz.prog 70 false := ⟨fun _ => by kernel_rfl⟩
instance : TZero Tryz.prog 70 (Value.nilFunc) := ⟨fun _ => by kernel_rfl⟩
instance : TInfo Tryz.prog 70 (Value.nilFunc) 1 8 := ⟨by kernel_rfl⟩
instance : TSize Tryz.prog 71 38 := ⟨fun _ => by kernel_rfl⟩
instance : TAgg Tryz.prog 71 true := ⟨fun _ => by kernel_rfl⟩
instance : TZero Tryz.prog 71 (Value.agg (List.replicate 32 (Value.int .u8 0) ++ [(Value.slice none 0 0), (Value.string ByteArray.empty), (Value.int .i64 0), (Value.bool false), (Value.string ByteArray.empty), (Value.int .i64 0)]).toArray) := ⟨fun _ => by kernel_rfl⟩
instance : TInfo Tryz.prog 71 (Value.agg (List.replicate 32 (Value.int .u8 0) ++ [(Value.slice none 0 0), (Value.string ByteArray.empty), (Value.int .i64 0), (Value.bool false), (Value.string ByteArray.empty), (Value.int .i64 0)]).toArray) 38 112 := ⟨by kernel_rfl⟩
instance : TField Tryz.prog 71 0 0 := ⟨fun _ _ _ => by kernel_rfl⟩
instance : TField Tryz.prog 71 1 32 := ⟨fun _ _ _ => by kernel_rfl⟩
instance : TField Tryz.prog 71 2 33 := ⟨fun _ _ _ => by kernel_rfl⟩
instance : TField Tryz.prog 71 3 34 := ⟨fun _ _ _ => by kernel_rfl⟩
instance : TField Tryz.prog 71 4 35 := ⟨fun _ _ _ => by kernel_rfl⟩
instance : TField Tryz.prog 71 5 36 := ⟨fun _ _ _ => by kernel_rfl⟩
instance : TField Tryz.prog 71 6 37 := ⟨fun _ _ _ => by kernel_rfl⟩
instance : TSize Tryz.prog 72 38 := ⟨fun _ => by kernel_rfl⟩
instance : TAgg Tryz.prog 72 true := ⟨fun _ => by kernel_rfl⟩
instance : TZero Tryz.prog 72 (Value.agg (List.replicate 32 (Value.int .u8 0) ++ [(Value.slice none 0 0), (Value.string ByteArray.empty), (Value.int .i64 0), (Value.bool false), (Value.string ByteArray.empty), (Value.int .i64 0)]).toArray) := ⟨fun _ => by kernel_rfl⟩
instance : TInfo Tryz.prog 72 (Value.agg (List.replicate 32 (Value.int .u8 0) ++ [(Value.slice none 0 0), (Value.string ByteArray.empty), (Value.int .i64 0), (Value.bool false), (Value.string ByteArray.empty), (Value.int .i64 0)]).toArray) 38 112 := ⟨by kernel_rfl⟩
instance : TField Tryz.prog 72 0 0 := ⟨fun _ _ _ => by kernel_rfl⟩
instance : TField Tryz.prog 72 1 32 := ⟨fun _ _ _ => by kernel_rfl⟩
instance : TField Tryz.prog 72 2 33 := ⟨fun _ _ _ => by kernel_rfl⟩
instance : TField Tryz.prog 72 3 34 := ⟨fun _ _ _ => by kernel_rfl⟩
instance : TField Tryz.prog 72 4 35 := ⟨fun _ _ _ => by kernel_rfl⟩
instance : TField Tryz.prog 72 5 36 := ⟨fun _ _ _ => by kernel_rfl⟩
instance : TField Tryz.prog 72 6 37 := ⟨fun _ _ _ => by kernel_rfl⟩
instance : TSize Tryz.prog 74 1 := ⟨fun _ => by kernel_rfl⟩
instance : TAgg Tryz.prog 74 false := ⟨fun _ => by kernel_rfl⟩
instance : TZero Tryz.prog 74 (Value.nilFunc) := ⟨fun _ => by kernel_rfl⟩
instance : TInfo Tryz.prog 74 (Value.nilFunc) 1 8 := ⟨by kernel_rfl⟩
instance : TSize Tryz.prog 75 1 := ⟨fun _ => by kernel_rfl⟩
instance : TAgg Tryz.prog 75 false := ⟨fun _ => by kernel_rfl⟩
instance : TZero Tryz.prog 75 (Value.slice none 0 0) := ⟨fun _ => by kernel_rfl⟩
instance : TInfo Tryz.prog 75 (Value.slice none 0 0) 1 24 := ⟨by kernel_rfl⟩
instance : TElem Tryz.prog 75 77 := ⟨by kernel_rfl⟩
instance : TSize Tryz.prog 76 33 := ⟨fun _ => by kernel_rfl⟩
instance : TAgg Tryz.prog 76 true := ⟨fun _ => by kernel_rfl⟩
instance : TZero Tryz.prog 76 (Value.agg (List.replicate 32 (Value.int .u8 0) ++ [(Value.int .i64 0)]).toArray) := ⟨fun _ => by kernel_rfl⟩
instance : TInfo Tryz.prog 76 (Value.agg (List.replicate 32 (Value.int .u8 0) ++ [(Value.int .i64 0)]).toArray) 33 40 := ⟨by kernel_rfl⟩
instance : TField Tryz.prog 76 0 0 := ⟨fun _ _ _ => by kernel_rfl⟩
instance : TField Tryz.prog 76 1 32 := ⟨fun _ _ _ => by kernel_rfl⟩
instance : TSize Tryz.prog 77 33 := ⟨fun _ => by kernel_rfl⟩
instance : TAgg Tryz.prog 77 true := ⟨fun _ => by kernel_rfl⟩
instance : TZero Tryz.prog 77 (Value.agg (List.replicate 32 (Value.int .u8 0) ++ [(Value.int .i64 0)]).toArray) := ⟨fun _ => by kernel_rfl⟩
instance : TInfo Tryz.prog 77 (Value.agg (List.replicate 32 (Value.int .u8 0) ++ [(Value.int .i64 0)]).toArray) 33 40 := ⟨by kernel_rfl⟩
instance : TField Tryz.prog 77 0 0 := ⟨fun _ _ _ => by kernel_rfl⟩
instance : TField Tryz.prog 77 1 32 := ⟨fun _ _ _ => by kernel_rfl⟩
instance : TSize Tryz.prog 78 1 := ⟨fun _ => by kernel_rfl⟩
instance : TAgg Tryz.prog 78 false := ⟨fun _ => by kernel_rfl⟩
instance : TZero Tryz.prog 78 (Value.nilFunc) := ⟨fun _ => by kernel_rfl⟩
instance : TInfo Tryz.prog 78 (Value.nilFunc) 1 8 := ⟨by kernel_rfl⟩
instance : TSize Tryz.prog 79 1 := ⟨fun _ => by kernel_rfl⟩
instance : TAgg Tryz.prog 79 false := ⟨fun _ => by kernel_rfl⟩
instance : TZero Tryz.prog 79 (Value.nilFunc) := ⟨fun _ => by kernel_rfl⟩
instance : TInfo Tryz.prog 79 (Value.nilFunc) 1 8 := ⟨by kernel_rfl⟩
instance : TSize Tryz.prog 80 1 := ⟨fun _ => by kernel_rfl⟩
instance : TAgg Tryz.prog 80 false := ⟨fun _ => by kernel_rfl⟩
instance : TZero Tryz.prog 80 (Value.nilFunc) := ⟨fun _ => by kernel_rfl⟩
instance : TInfo Tryz.prog 80 (Value.nilFunc) 1 8 := ⟨by kernel_rfl⟩
instance : TSize Tryz.prog 81 1 := ⟨fun _ => by kernel_rfl⟩
instance : TAgg Tryz.prog 81 false := ⟨fun _ => by kernel_rfl⟩
instance : TZero Tryz.prog 81 (Value.nilFunc) := ⟨fun _ => by kernel_rfl⟩
instance : TInfo Tryz.prog 81 (Value.nilFunc) 1 8 := ⟨by kernel_rfl⟩
instance : TSize Tryz.prog 82 1 := ⟨fun _ => by kernel_rfl⟩
instance : TAgg Tryz.prog 82 false := ⟨fun _ => by kernel_rfl⟩
instance : TZero Tryz.prog 82 (Value.slice none 0 0) := ⟨fun _ => by kernel_rfl⟩
instance : TInfo Tryz.prog 82 (Value.slice none 0 0) 1 24 := ⟨by kernel_rfl⟩
instance : TElem Tryz.prog 82 5 := ⟨by kernel_rfl⟩
instance : TSize Tryz.prog 83 1 := ⟨fun _ => by kernel_rfl⟩
instance : TAgg Tryz.prog 83 false := ⟨fun _ => by kernel_rfl⟩
instance : TZero Tryz.prog 83 (Value.nilFunc) := ⟨fun _ => by kernel_rfl⟩
instance : TInfo Tryz.prog 83 (Value.nilFunc) 1 8 := ⟨by kernel_rfl⟩
instance : TSize Tryz.prog 84 1 := ⟨fun _ => by kernel_rfl⟩
instance : TAgg Tryz.prog 84 false := ⟨fun _ => by kernel_rfl⟩
instance : TZero Tryz.prog 84 (Value.nilFunc) := ⟨fun _ => by kernel_rfl⟩
instance : TInfo Tryz.prog 84 (Value.nilFunc) 1 8 := ⟨by kernel_rfl⟩
instance : TSize Tryz.prog 85 1 := ⟨fun _ => by kernel_rfl⟩
instance : TAgg Tryz.prog 85 false := ⟨fun _ => by kernel_rfl⟩
instance : TZero Tryz.prog 85 (Value.nilFunc) := ⟨fun _ => by kernel_rfl⟩
instance : TInfo Tryz.prog 85 (Value.nilFunc) 1 8 := ⟨by kernel_rfl⟩
instance : TSize Tryz.prog 86 1 := ⟨fun _ => by kernel_rfl⟩
instance : TAgg Tryz.prog 86 false := ⟨fun _ => by kernel_rfl⟩
instance : TZero Tryz.prog 86 (Value.nilFunc) := ⟨fun _ => by kernel_rfl⟩
instance : TInfo Tryz.prog 86 (Value.nilFunc) 1 8 := ⟨by kernel_rfl⟩
instance : TSize Tryz.prog 88 1 := ⟨fun _ => by kernel_rfl⟩
instance : TAgg Tryz.prog 88 false := ⟨fun _ => by kernel_rfl⟩
instance : TZero Tryz.prog 88 (Value.nilFunc) := ⟨fun _ => by kernel_rfl⟩
instance : TInfo Tryz.prog 88 (Value.nilFunc) 1 8 := ⟨by kernel_rfl⟩
instance : TSize Tryz.prog 89 1 := ⟨fun _ => by kernel_rfl⟩
instance : TAgg Tryz.prog 89 false := ⟨fun _ => by kernel_rfl⟩
instance : TZero Tryz.prog 89 (Value.slice none 0 0) := ⟨fun _ => by kernel_rfl⟩
instance : TInfo Tryz.prog 89 (Value.slice none 0 0) 1 24 := ⟨by kernel_rfl⟩
instance : TElem Tryz.prog 89 98 := ⟨by kernel_rfl⟩
instance : TSize Tryz.prog 90 2 := ⟨fun _ => by kernel_rfl⟩
instance : TAgg Tryz.prog 90 true := ⟨fun _ => by kernel_rfl⟩
instance : TZero Tryz.prog 90 (Value.agg #[(Value.string ByteArray.empty), (Value.slice none 0 0)]) := ⟨fun _ => by kernel_rfl⟩
instance : TInfo Tryz.prog 90 (Value.agg #[(Value.string ByteArray.empty), (Value.slice none 0 0)]) 2 40 := ⟨by kernel_rfl⟩
instance : TField Tryz.prog 90 0 0 := ⟨fun _ _ _ => by kernel_rfl⟩
instance : TField Tryz.prog 90 1 1 := ⟨fun _ _ _ => by kernel_rfl⟩
instance : TSize Tryz.prog 91 2 := ⟨fun _ => by kernel_rfl⟩
instance : TAgg Tryz.prog 91 true := ⟨fun _ => by kernel_rfl⟩
instance : TZero Tryz.prog 91 (Value.agg #[(Value.string ByteArray.empty), (Value.slice none 0 0)]) := ⟨fun _ => by kernel_rfl⟩
instance : TInfo Tryz.prog 91 (Value.agg #[(Value.string ByteArray.empty), (Value.slice none 0 0)]) 2 40 := ⟨by kernel_rfl⟩
instance : TField Tryz.prog 91 0 0 := ⟨fun _ _ _ => by kernel_rfl⟩
instance : TField Tryz.prog 91 1 1 := ⟨fun _ _ _ => by kernel_rfl⟩
instance : TSize Tryz.prog 92 1 := ⟨fun _ => by kernel_rfl⟩
instance : TAgg Tryz.prog 92 false := ⟨fun _ => by kernel_rfl⟩
instance : TZero Tryz.prog 92 (Value.nilFunc) := ⟨fun _ => by kernel_rfl⟩
instance : TInfo Tryz.prog 92 (Value.nilFunc) 1 8 := ⟨by kernel_rfl⟩
instance : TSize Tryz.prog 93 1 := ⟨fun _ => by kernel_rfl⟩
instance : TAgg Tryz.prog 93 false := ⟨fun _ => by kernel_rfl⟩
instance : TZero Tryz.prog 93 (Value.nilFunc) := ⟨fun _ => by kernel_rfl⟩
instance : TInfo Tryz.prog 93 (Value.nilFunc) 1 8 := ⟨by kernel_rfl⟩
instance : TSize Tryz.prog 94 1 := ⟨fun _ => by kernel_rfl⟩
instance : TAgg Tryz.prog 94 false := ⟨fun _ => by kernel_rfl⟩
instance : TZero Tryz.prog 94 (Value.pointer none) := ⟨fun _ => by kernel_rfl⟩
instance : TInfo Tryz.prog 94 (Value.pointer none) 1 8 := ⟨by kernel_rfl⟩
instance : TSize Tryz.prog 96 1 := ⟨fun _ => by kernel_rfl⟩
instance : TAgg Tryz.prog 96 false := ⟨fun _ => by kernel_rfl⟩
instance : TZero Tryz.prog 96 (Value.nilFunc) := ⟨fun _ => by kernel_rfl⟩
instance : TInfo Tryz.prog 96 (Value.nilFunc) 1 8 := ⟨by kernel_rfl⟩
instance : TSize Tryz.prog 97 2 := ⟨fun _ => by kernel_rfl⟩
instance : TAgg Tryz.prog 97 true := ⟨fun _ => by kernel_rfl⟩
instance : TZero Tryz.prog 97 (Value.agg #[(Value.int .i64 0), (Value.pointer none)]) := ⟨fun _ => by kernel_rfl⟩
instance : TInfo Tryz.prog 97 (Value.agg #[(Value.int .i64 0), (Value.pointer none)]) 2 16 := ⟨by kernel_rfl⟩
instance : TField Tryz.prog 97 0 0 := ⟨fun _ _ _ => by kernel_rfl⟩
instance : TField Tryz.prog 97 1 1 := ⟨fun _ _ _ => by kernel_rfl⟩
instance : TSize Tryz.prog 98 2 := ⟨fun _ => by kernel_rfl⟩
instance : TAgg Tryz.prog 98 true := ⟨fun _ => by kernel_rfl⟩
instance : TZero Tryz.prog 98 (Value.agg #[(Value.int .i64 0), (Value.pointer none)]) := ⟨fun _ => by kernel_rfl⟩
instance : TInfo Tryz.prog 98 (Value.agg #[(Value.int .i64 0), (Value.pointer none)]) 2 16 := ⟨by kernel_rfl⟩
instance : TField Tryz.prog 98 0 0 := ⟨fun _ _ _ => by kernel_rfl⟩
instance : TField Tryz.prog 98 1 1 := ⟨fun _ _ _ => by kernel_rfl⟩
instance : TSize Tryz.prog 99 3 := ⟨fun _ => by kernel_rfl⟩
instance : TAgg Tryz.prog 99 true := ⟨fun _ => by kernel_rfl⟩
instance : TZero Tryz.prog 99 (Value.agg #[(Value.int .i64 0), (Value.int .i64 0), (Value.int .i64 0)]) := ⟨fun _ => by kernel_rfl⟩
instance : TInfo Tryz.prog 99 (Value.agg #[(Value.int .i64 0), (Value.int .i64 0), (Value.int .i64 0)]) 3 24 := ⟨by kernel_rfl⟩
instance : TField Tryz.prog 99 0 0 := ⟨fun _ _ _ => by kernel_rfl⟩
instance : TField Tryz.prog 99 1 1 := ⟨fun _ _ _ => by kernel_rfl⟩
instance : TField Tryz.prog 99 2 2 := ⟨fun _ _ _ => by kernel_rfl⟩
instance : TSize Tryz.prog 100 3 := ⟨fun _ => by kernel_rfl⟩
instance : TAgg Tryz.prog 100 true := ⟨fun _ => by kernel_rfl⟩
instance : TZero Tryz.prog 100 (Value.agg #[(Value.int .i64 0), (Value.int .i64 0), (Value.int .i64 0)]) := ⟨fun _ => by kernel_rfl⟩
instance : TInfo Tryz.prog 100 (Value.agg #[(Value.int .i64 0), (Value.int .i64 0), (Value.int .i64 0)]) 3 24 := ⟨by kernel_rfl⟩
instance : TField Tryz.prog 100 0 0 := ⟨fun _ _ _ => by kernel_rfl⟩
instance : TField Tryz.prog 100 1 1 := ⟨fun _ _ _ => by kernel_rfl⟩
instance : TField Tryz.prog 100 2 2 := ⟨fun _ _ _ => by kernel_rfl⟩
instance : TSize Tryz.prog 102 1 := ⟨fun _ => by kernel_rfl⟩
instance : TAgg Tryz.prog 102 false := ⟨fun _ => by kernel_rfl⟩
instance : TZero Tryz.prog 102 (Value.nilFunc) := ⟨fun _ => by kernel_rfl⟩
instance : TInfo Tryz.prog 102 (Value.nilFunc) 1 8 := ⟨by kernel_rfl⟩
instance : TSize Tryz.prog 103 1 := ⟨fun _ => by kernel_rfl⟩
instance : TAgg Tryz.prog 103 false := ⟨fun _ => by kernel_rfl⟩
instance : TZero Tryz.prog 103 (Value.nilFunc) := ⟨fun _ => by kernel_rfl⟩
instance : TInfo Tryz.prog 103 (Value.nilFunc) 1 8 := ⟨by kernel_rfl⟩
instance : TSize Tryz.prog 104 1 := ⟨fun _ => by kernel_rfl⟩
instance : TAgg Tryz.prog 104 false := ⟨fun _ => by kernel_rfl⟩
instance : TZero Tryz.prog 104 (Value.slice none 0 0) := ⟨fun _ => by kernel_rfl⟩
instance : TInfo Tryz.prog 104 (Value.slice none 0 0) 1 24 := ⟨by kernel_rfl⟩
instance : TElem Tryz.prog 104 105 := ⟨by kernel_rfl⟩
instance : TSize Tryz.prog 105 1 := ⟨fun _ => by kernel_rfl⟩
instance : TAgg Tryz.prog 105 false := ⟨fun _ => by kernel_rfl⟩
instance : TZero Tryz.prog 105 (Value.nilFunc) := ⟨fun _ => by kernel_rfl⟩
instance : TInfo Tryz.prog 105 (Value.nilFunc) 1 8 := ⟨by kernel_rfl⟩
instance : TSize Tryz.prog 106 1 := ⟨fun _ => by kernel_rfl⟩
instance : TAgg Tryz.prog 106 false := ⟨fun _ => by kernel_rfl⟩
instance : TZero Tryz.prog 106 (Value.nilFunc) := ⟨fun _ => by kernel_rfl⟩
instance : TInfo Tryz.prog 106 (Value.nilFunc) 1 8 := ⟨by kernel_rfl⟩
instance : TSize Tryz.prog 107 1 := ⟨fun _ => by kernel_rfl⟩
instance : TAgg Tryz.prog 107 false := ⟨fun _ => by kernel_rfl⟩
instance : TZero Tryz.prog 107 (Value.nilFunc) := ⟨fun _ => by kernel_rfl⟩
instance : TInfo Tryz.prog 107 (Value.nilFunc) 1 8 := ⟨by kernel_rfl⟩
instance : TSize Tryz.prog 108 1 := ⟨fun _ => by kernel_rfl⟩
instance : TAgg Tryz.prog 108 false := ⟨fun _ => by kernel_rfl⟩
instance : TZero Tryz.prog 108 (Value.slice none 0 0) := ⟨fun _ => by kernel_rfl⟩
instance : TInfo Tryz.prog 108 (Value.slice none 0 0) 1 24 := ⟨by kernel_rfl⟩
instance : TElem Tryz.prog 108 139 := ⟨by kernel_rfl⟩
instance : TSize Tryz.prog 109 2 := ⟨fun _ => by kernel_rfl⟩
instance : TAgg Tryz.prog 109 true := ⟨fun _ => by kernel_rfl⟩
instance : TZero Tryz.prog 109 (Value.agg #[(Value.string ByteArray.empty), (Value.slice none 0 0)]) := ⟨fun _ => by kernel_rfl⟩
instance : TInfo Tryz.prog 109 (Value.agg #[(Value.string ByteArray.empty), (Value.slice none 0 0)]) 2 40 := ⟨by kernel_rfl⟩
instance : TField Tryz.prog 109 0 0 := ⟨fun _ _ _ => by kernel_rfl⟩
instance : TField Tryz.prog 109 1 1 := ⟨fun _ _ _ => by kernel_rfl⟩
instance : TSize Tryz.prog 110 2 := ⟨fun _ => by kernel_rfl⟩
instance : TAgg Tryz.prog 110 true := ⟨fun _ => by kernel_rfl⟩
instance : TZero Tryz.prog 110 (Value.agg #[(Value.string ByteArray.empty), (Value.slice none 0 0)]) := ⟨fun _ => by kernel_rfl⟩
instance : TInfo Tryz.prog 110 (Value.agg #[(Value.string ByteArray.empty), (Value.slice none 0 0)]) 2 40 := ⟨by kernel_rfl⟩
instance : TField Tryz.prog 110 0 0 := ⟨fun _ _ _ => by kernel_rfl⟩
instance : TField Tryz.prog 110 1 1 := ⟨fun _ _ _ => by kernel_rfl⟩
instance : TSize Tryz.prog 111 3 := ⟨fun _ => by kernel_rfl⟩
instance : TAgg Tryz.prog 111 true := ⟨fun _ => by kernel_rfl⟩
instance : TZero Tryz.prog 111 (Value.agg #[(Value.int .i64 0), (Value.string ByteArray.empty), (Value.slice none 0 0)]) := ⟨fun _ => by kernel_rfl⟩
instance : TInfo Tryz.prog 111 (Value.agg #[(Value.int .i64 0), (Value.string ByteArray.empty), (Value.slice none 0 0)]) 3 48 := ⟨by kernel_rfl⟩
instance : TField Tryz.prog 111 0 0 := ⟨fun _ _ _ => by kernel_rfl⟩
instance : TField Tryz.prog 111 1 1 := ⟨fun _ _ _ => by kernel_rfl⟩
instance : TSize Tryz.prog 112 3 := ⟨fun _ => by kernel_rfl⟩
instance : TAgg Tryz.prog 112 true := ⟨fun _ => by kernel_rfl⟩
instance : TZero Tryz.prog 112 (Value.agg #[(Value.int .i64 0), (Value.string ByteArray.empty), (Value.slice none 0 0)]) := ⟨fun _ => by kernel_rfl⟩
instance : TInfo Tryz.prog 112 (Value.agg #[(Value.int .i64 0), (Value.string ByteArray.empty), (Value.slice none 0 0)]) 3 48 := ⟨by kernel_rfl⟩
instance : TField Tryz.prog 112 0 0 := ⟨fun _ _ _ => by kernel_rfl⟩
instance : TField Tryz.prog 112 1 1 := ⟨fun _ _ _ => by kernel_rfl⟩
instance : TSize Tryz.prog 114 1 := ⟨fun _ => by kernel_rfl⟩
instance : TAgg Tryz.prog 114 false := ⟨fun _ => by kernel_rfl⟩
instance : TZero Tryz.prog 114 (Value.nilFunc) := ⟨fun _ => by kernel_rfl⟩
instance : TInfo Tryz.prog 114 (Value.nilFunc) 1 8 := ⟨by kernel_rfl⟩
instance : TSize Tryz.prog 115 1 := ⟨fun _ => by kernel_rfl⟩
instance : TAgg Tryz.prog 115 false := ⟨fun _ => by kernel_rfl⟩
instance : TZero Tryz.prog 115 (Value.nilFunc) := ⟨fun _ => by kernel_rfl⟩
instance : TInfo Tryz.prog 115 (Value.nilFunc) 1 8 := ⟨by kernel_rfl⟩
instance : TSize Tryz.prog 116 1 := ⟨fun _ => by kernel_rfl⟩
instance : TAgg Tryz.prog 116 false := ⟨fun _ => by kernel_rfl⟩
instance : TZero Tryz.prog 116 (Value.nilFunc) := ⟨fun _ => by kernel_rfl⟩
instance : TInfo Tryz.prog 116 (Value.nilFunc) 1 8 := ⟨by kernel_rfl⟩
instance : TSize Tryz.prog 117 1 := ⟨fun _ => by kernel_rfl⟩
instance : TAgg Tryz.prog 117 false := ⟨fun _ => by kernel_rfl⟩
instance : TZero Tryz.prog 117 (Value.int .u64 0) := ⟨fun _ => by kernel_rfl⟩
instance : TInfo Tryz.prog 117 (Value.int .u64 0) 1 8 := ⟨by kernel_rfl⟩
instance : TSize Tryz.prog 118 1 := ⟨fun _ => by kernel_rfl⟩
instance : TAgg Tryz.prog 118 false := ⟨fun _ => by kernel_rfl⟩
instance : TZero Tryz.prog 118 (Value.slice none 0 0) := ⟨fun _ => by kernel_rfl⟩
instance : TInfo Tryz.prog 118 (Value.slice none 0 0) 1 24 := ⟨by kernel_rfl⟩
instance : TElem Tryz.prog 118 3 := ⟨by kernel_rfl⟩
instance : TSize Tryz.prog 119 1 := ⟨fun _ => by kernel_rfl⟩
instance : TAgg Tryz.prog 119 false := ⟨fun _ => by kernel_rfl⟩
instance : TZero Tryz.prog 119 (Value.nilFunc) := ⟨fun _ => by kernel_rfl⟩
instance : TInfo Tryz.prog 119 (Value.nilFunc) 1 8 := ⟨by kernel_rfl⟩
instance : TSize Tryz.prog 120 1 := ⟨fun _ => by kernel_rfl⟩
instance : TAgg Tryz.prog 120 false := ⟨fun _ => by kernel_rfl⟩
instance : TZero Tryz.prog 120 (Value.nilFunc) := ⟨fun _ => by kernel_rfl⟩
instance : TInfo Tryz.prog 120 (Value.nilFunc) 1 8 := ⟨by kernel_rfl⟩
instance : TSize Tryz.prog 121 1 := ⟨fun _ => by kernel_rfl⟩
instance : TAgg Tryz.prog 121 false := ⟨fun _ => by kernel_rfl⟩
instance : TZero Tryz.prog 121 (Value.nilFunc) := ⟨fun _ => by kernel_rfl⟩
instance : TInfo Tryz.prog 121 (Value.nilFunc) 1 8 := ⟨by kernel_rfl⟩
instance : TSize Tryz.prog 122 1 := ⟨fun _ => by kernel_rfl⟩
instance : TAgg Tryz.prog 122 false := ⟨fun _ => by kernel_rfl⟩
instance : TZero Tryz.prog 122 (Value.nilFunc) := ⟨fun _ => by kernel_rfl⟩
instance : TInfo Tryz.prog 122 (Value.nilFunc) 1 8 := ⟨by kernel_rfl⟩
instance : TSize Tryz.prog 123 1 := ⟨fun _ => by kernel_rfl⟩
instance : TAgg Tryz.prog 123 false := ⟨fun _ => by kernel_rfl⟩
instance : TZero Tryz.prog 123 (Value.nilFunc) := ⟨fun _ => by kernel_rfl⟩
instance : TInfo Tryz.prog 123 (Value.nilFunc) 1 8 := ⟨by kernel_rfl⟩
instance : TSize Tryz.prog 124 1 := ⟨fun _ => by kernel_rfl⟩
instance : TAgg Tryz.prog 124 false := ⟨fun _ => by kernel_rfl⟩
instance : TZero Tryz.prog 124 (Value.nilFunc) := ⟨fun _ => by kernel_rfl⟩
instance : TInfo Tryz.prog 124 (Value.nilFunc) 1 8 := ⟨by kernel_rfl⟩
instance : TSize Tryz.prog 125 1 := ⟨fun _ => by kernel_rfl⟩
instance : TAgg Tryz.prog 125 false := ⟨fun _ => by kernel_rfl⟩
instance : TZero Tryz.prog 125 (Value.nilFunc) := ⟨fun _ => by kernel_rfl⟩
instance : TInfo Tryz.prog 125 (Value.nilFunc) 1 8 := ⟨by kernel_rfl⟩
instance : TSize Tryz.prog 126 1 := ⟨fun _ => by kernel_rfl⟩
instance : TAgg Tryz.prog 126 false := ⟨fun _ => by kernel_rfl⟩
instance : TZero Tryz.prog 126 (Value.slice none 0 0) := ⟨fun _ => by kernel_rfl⟩
instance : TInfo Tryz.prog 126 (Value.slice none 0 0) 1 24 := ⟨by kernel_rfl⟩
instance : TElem Tryz.prog 126 178 := ⟨by kernel_rfl⟩
instance : TSize Tryz.prog 127 2 := ⟨fun _ => by kernel_rfl⟩
instance : TAgg Tryz.prog 127 true := ⟨fun _ => by kernel_rfl⟩
instance : TZero Tryz.prog 127 (Value.agg #[(Value.string ByteArray.empty), (Value.slice none 0 0)]) := ⟨fun _ => by kernel_rfl⟩
instance : TInfo Tryz.prog 127 (Value.agg #[(Value.string ByteArray.empty), (Value.slice none 0 0)]) 2 40 := ⟨by kernel_rfl⟩
instance : TField Tryz.prog 127 0 0 := ⟨fun _ _ _ => by kernel_rfl⟩
instance : TField Tryz.prog 127 1 1 := ⟨fun _ _ _ => by kernel_rfl⟩
instance : TSize Tryz.prog 128 2 := ⟨fun _ => by kernel_rfl⟩
instance : TAgg Tryz.prog 128 true := ⟨fun _ => by kernel_rfl⟩
instance : TZero Tryz.prog 128 (Value.agg #[(Value.string ByteArray.empty), (Value.slice none 0 0)]) := ⟨fun _ => by kernel_rfl⟩
instance : TInfo Tryz.prog 128 (Value.agg #[(Value.string ByteArray.empty), (Value.slice none 0 0)]) 2 40 := ⟨by kernel_rfl⟩
instance : TField Tryz.prog 128 0 0 := ⟨fun _ _ _ => by kernel_rfl⟩
instance : TField Tryz.prog 128 1 1 := ⟨fun _ _ _ => by kernel_rfl⟩
instance : TSize Tryz.prog 129 1 := ⟨fun _ => by kernel_rfl⟩
instance : TAgg Tryz.prog 129 false := ⟨fun _ => by kernel_rfl⟩
instance : TZero Tryz.prog 129 (Value.int .u8 0) := ⟨fun _ => by kernel_rfl⟩
instance : TInfo Tryz.prog 129 (Value.int .u8 0) 1 1 := ⟨by kernel_rfl⟩
instance : TSize Tryz.prog 130 2 := ⟨fun _ => by kernel_rfl⟩
instance : TAgg Tryz.prog 130 true := ⟨fun _ => by kernel_rfl⟩
instance : TZero Tryz.prog 130 (Value.agg #[(Value.string ByteArray.empty), (Value.bool false)]) := ⟨fun _ => by kernel_rfl⟩
instance : TInfo Tryz.prog 130 (Value.agg #[(Value.string ByteArray.empty), (Value.bool false)]) 2 24 := ⟨by kernel_rfl⟩
instance : TField Tryz.prog 130 0 0 := ⟨fun _ _ _ => by kernel_rfl⟩
instance : TField Tryz.prog 130 1 1 := ⟨fun _ _ _ => by kernel_rfl⟩
instance : TSize Tryz.prog 131 2 := ⟨fun _ => by kernel_rfl⟩
instance : TAgg Tryz.prog 131 true := ⟨fun _ => by kernel_rfl⟩
instance : TZero Tryz.prog 131 (Value.agg #[(Value.string ByteArray.empty), (Value.bool false)]) := ⟨fun _ => by kernel_rfl⟩
instance : TInfo Tryz.prog 131 (Value.agg #[(Value.string ByteArray.empty), (Value.bool false)]) 2 24 := ⟨by kernel_rfl⟩
instance : TField Tryz.prog 131 0 0 := ⟨fun _ _ _ => by kernel_rfl⟩
instance : TField Tryz.prog 131 1 1 := ⟨fun _ _ _ => by kernel_rfl⟩
instance : TSize Tryz.prog 132 0 := ⟨fun _ => by kernel_rfl⟩
instance : TAgg Tryz.prog 132 true := ⟨fun _ => by kernel_rfl⟩
instance : TZero Tryz.prog 132 (Value.agg #[]) := ⟨fun _ => by kernel_rfl⟩
instance : TInfo Tryz.prog 132 (Value.agg #[]) 0 0 := ⟨by kernel_rfl⟩
instance : TSize Tryz.prog 133 0 := ⟨fun _ => by kernel_rfl⟩
instance : TAgg Tryz.prog 133 true := ⟨fun _ => by kernel_rfl⟩
instance : TZero Tryz.prog 133 (Value.agg #[]) := ⟨fun _ => by kernel_rfl⟩
instance : TInfo Tryz.prog 133 (Value.agg #[]) 0 0 := ⟨by kernel_rfl⟩
instance : TSize Tryz.prog 135 1 := ⟨fun _ => by kernel_rfl⟩
instance : TAgg Tryz.prog 135 false := ⟨fun _ => by kernel_rfl⟩
instance : TZero Tryz.prog 135 (Value.nilFunc) := ⟨fun _ => by kernel_rfl⟩
instance : TInfo Tryz.prog 135 (Value.nilFunc) 1 8 := ⟨by kernel_rfl⟩
instance : TSize Tryz.prog 136 1 := ⟨fun _ => by kernel_rfl⟩
instance : TAgg Tryz.prog 136 false := ⟨fun _ => by kernel_rfl⟩
instance : TZero Tryz.prog 136 (Value.nilFunc) := ⟨fun _ => by kernel_rfl⟩
instance : TInfo Tryz.prog 136 (Value.nilFunc) 1 8 := ⟨by kernel_rfl⟩
instance : TSize Tryz.prog 137 128 := ⟨fun _ => by kernel_rfl⟩
instance : TAgg Tryz.prog 137 true := ⟨fun _ => by kernel_rfl⟩
instance : TZero Tryz.prog 137 (Value.agg (List.replicate 128 (Value.bool false)).toArray) := ⟨fun _ => by kernel_rfl⟩
instance : TInfo Tryz.prog 137 (Value.agg (List.replicate 128 (Value.bool false)).toArray) 128 128 := ⟨by kernel_rfl⟩
instance : TSize Tryz.prog 138 129 := ⟨fun _ => by kernel_rfl⟩
instance : TAgg Tryz.prog 138 true := ⟨fun _ => by kernel_rfl⟩
instance : TZero Tryz.prog 138 (Value.agg (List.replicate 129 (Value.bool false)).toArray) := ⟨fun _ => by kernel_rfl⟩
instance : TInfo Tryz.prog 138 (Value.agg (List.replicate 129 (Value.bool false)).toArray) 129 129 := ⟨by kernel_rfl⟩
instance : TField Tryz.prog 138 0 0 := ⟨fun _ _ _ => by kernel_rfl⟩
instance : TField Tryz.prog 138 1 1 := ⟨fun _ _ _ => by kernel_rfl⟩
instance : TSize Tryz.prog 139 129 := ⟨fun _ => by kernel_rfl⟩
instance : TAgg Tryz.prog 139 true := ⟨fun _ => by kernel_rfl⟩
instance : TZero Tryz.prog 139 (Value.agg (List.replicate 129 (Value.bool false)).toArray) := ⟨fun _ => by kernel_rfl⟩
instance : TInfo Tryz.prog 139 (Value.agg (List.replicate 129 (Value.bool false)).toArray) 129 129 := ⟨by kernel_rfl⟩
instance : TField Tryz.prog 139 0 0 := ⟨fun _ _ _ => by kernel_rfl⟩
instance : TField Tryz.prog 139 1 1 := ⟨fun _ _ _ => by kernel_rfl⟩
instance : TSize Tryz.prog 141 1 := ⟨fun _ => by kernel_rfl⟩
instance : TAgg Tryz.prog 141 false := ⟨fun _ => by kernel_rfl⟩
instance : TZero Tryz.prog 141 (Value.nilFunc) := ⟨fun _ => by kernel_rfl⟩
instance : TInfo Tryz.prog 141 (Value.nilFunc) 1 8 := ⟨by kernel_rfl⟩
instance : TSize Tryz.prog 142 1 := ⟨fun _ => by kernel_rfl⟩
instance : TAgg Tryz.prog 142 false := ⟨fun _ => by kernel_rfl⟩
instance : TZero Tryz.prog 142 (Value.nilFunc) := ⟨fun _ => by kernel_rfl⟩
instance : TInfo Tryz.prog 142 (Value.nilFunc) 1 8 := ⟨by kernel_rfl⟩
instance : TSize Tryz.prog 143 1 := ⟨fun _ => by kernel_rfl⟩
instance : TAgg Tryz.prog 143 false := ⟨fun _ => by kernel_rfl⟩
instance : TZero Tryz.prog 143 (Value.int .i64 0) := ⟨fun _ => by kernel_rfl⟩
instance : TInfo Tryz.prog 143 (Value.int .i64 0) 1 8 := ⟨by kernel_rfl⟩
instance : TSize Tryz.prog 145 1 := ⟨fun _ => by kernel_rfl⟩
instance : TAgg Tryz.prog 145 false := ⟨fun _ => by kernel_rfl⟩
instance : TZero Tryz.prog 145 (Value.nilFunc) := ⟨fun _ => by kernel_rfl⟩
instance : TInfo Tryz.prog 145 (Value.nilFunc) 1 8 := ⟨by kernel_rfl⟩
instance : TSize Tryz.prog 146 1 := ⟨fun _ => by kernel_rfl⟩
instance : TAgg Tryz.prog 146 false := ⟨fun _ => by kernel_rfl⟩
instance : TZero Tryz.prog 146 (Value.nilFunc) := ⟨fun _ => by kernel_rfl⟩
instance : TInfo Tryz.prog 146 (Value.nilFunc) 1 8 := ⟨by kernel_rfl⟩
instance : TSize Tryz.prog 147 1 := ⟨fun _ => by kernel_rfl⟩
instance : TAgg Tryz.prog 147 false := ⟨fun _ => by kernel_rfl⟩
instance : TZero Tryz.prog 147 (Value.nilFunc) := ⟨fun _ => by kernel_rfl⟩
instance : TInfo Tryz.prog 147 (Value.nilFunc) 1 8 := ⟨by kernel_rfl⟩
instance : TSize Tryz.prog 148 1 := ⟨fun _ => by kernel_rfl⟩
instance : TAgg Tryz.prog 148 false := ⟨fun _ => by kernel_rfl⟩
instance : TZero Tryz.prog 148 (Value.nilFunc) := ⟨fun _ => by kernel_rfl⟩
instance : TInfo Tryz.prog 148 (Value.nilFunc) 1 8 := ⟨by kernel_rfl⟩
instance : TSize Tryz.prog 149 1 := ⟨fun _ => by kernel_rfl⟩
instance : TAgg Tryz.prog 149 false := ⟨fun _ => by kernel_rfl⟩
instance : TZero Tryz.prog 149 (Value.nilFunc) := ⟨fun _ => by kernel_rfl⟩
instance : TInfo Tryz.prog 149 (Value.nilFunc) 1 8 := ⟨by kernel_rfl⟩
instance : TSize Tryz.prog 150 1 := ⟨fun _ => by kernel_rfl⟩
instance : TAgg Tryz.prog 150 false := ⟨fun _ => by kernel_rfl⟩
instance : TZero Tryz.prog 150 (Value.int .u32 0) := ⟨fun _ => by kernel_rfl⟩
instance : TInfo Tryz.prog 150 (Value.int .u32 0) 1 4 := ⟨by kernel_rfl⟩
instance : TSize Tryz.prog 151 1 := ⟨fun _ => by kernel_rfl⟩
instance : TAgg Tryz.prog 151 false := ⟨fun _ => by kernel_rfl⟩
instance : TZero Tryz.prog 151 (Value.nilFunc) := ⟨fun _ => by kernel_rfl⟩
instance : TInfo Tryz.prog 151 (Value.nilFunc) 1 8 := ⟨by kernel_rfl⟩
instance : TSize Tryz.prog 152 1 := ⟨fun _ => by kernel_rfl⟩
instance : TAgg Tryz.prog 152 false := ⟨fun _ => by kernel_rfl⟩
instance : TZero Tryz.prog 152 (Value.int .u64 0) := ⟨fun _ => by kernel_rfl⟩
instance : TInfo Tryz.prog 152 (Value.int .u64 0) 1 8 := ⟨by kernel_rfl⟩
instance : TSize Tryz.prog 153 1 := ⟨fun _ => by kernel_rfl⟩
instance : TAgg Tryz.prog 153 false := ⟨fun _ => by kernel_rfl⟩
instance : TZero Tryz.prog 153 (Value.nilFunc) := ⟨fun _ => by kernel_rfl⟩
instance : TInfo Tryz.prog 153 (Value.nilFunc) 1 8 := ⟨by kernel_rfl⟩
instance : TSize Tryz.prog 154 1 := ⟨fun _ => by kernel_rfl⟩
instance : TAgg Tryz.prog 154 false := ⟨fun _ => by kernel_rfl⟩
instance : TZero Tryz.prog 154 (Value.nilFunc) := ⟨fun _ => by kernel_rfl⟩
instance : TInfo Tryz.prog 154 (Value.nilFunc) 1 8 := ⟨by kernel_rfl⟩
instance : TSize Tryz.prog 155 1 := ⟨fun _ => by kernel_rfl⟩
instance : TAgg Tryz.prog 155 false := ⟨fun _ => by kernel_rfl⟩
instance : TZero Tryz.prog 155 (Value.nilFunc) := ⟨fun _ => by kernel_rfl⟩
instance : TInfo Tryz.prog 155 (Value.nilFunc) 1 8 := ⟨by kernel_rfl⟩
instance : TSize Tryz.prog 156 1 := ⟨fun _ => by kernel_rfl⟩
instance : TAgg Tryz.prog 156 false := ⟨fun _ => by kernel_rfl⟩
instance : TZero Tryz.prog 156 (Value.nilFunc) := ⟨fun _ => by kernel_rfl⟩
instance : TInfo Tryz.prog 156 (Value.nilFunc) 1 8 := ⟨by kernel_rfl⟩
instance : TSize Tryz.prog 157 1 := ⟨fun _ => by kernel_rfl⟩
instance : TAgg Tryz.prog 157 false := ⟨fun _ => by kernel_rfl⟩
instance : TZero Tryz.prog 157 (Value.nilFunc) := ⟨fun _ => by kernel_rfl⟩
instance : TInfo Tryz.prog 157 (Value.nilFunc) 1 8 := ⟨by kernel_rfl⟩
instance : TSize Tryz.prog 158 1 := ⟨fun _ => by kernel_rfl⟩
instance : TAgg Tryz.prog 158 false := ⟨fun _ => by kernel_rfl⟩
instance : TZero Tryz.prog 158 (Value.nilFunc) := ⟨fun _ => by kernel_rfl⟩
instance : TInfo Tryz.prog 158 (Value.nilFunc) 1 8 := ⟨by kernel_rfl⟩
instance : TSize Tryz.prog 159 1 := ⟨fun _ => by kernel_rfl⟩
instance : TAgg Tryz.prog 159 false := ⟨fun _ => by kernel_rfl⟩
instance : TZero Tryz.prog 159 (Value.nilFunc) := ⟨fun _ => by kernel_rfl⟩
instance : TInfo Tryz.prog 159 (Value.nilFunc) 1 8 := ⟨by kernel_rfl⟩
instance : TSize Tryz.prog 160 1 := ⟨fun _ => by kernel_rfl⟩
instance : TAgg Tryz.prog 160 false := ⟨fun _ => by kernel_rfl⟩
instance : TZero Tryz.prog 160 (Value.int .u64 0) := ⟨fun _ => by kernel_rfl⟩
instance : TInfo Tryz.prog 160 (Value.int .u64 0) 1 8 := ⟨by kernel_rfl⟩
instance : TSize Tryz.prog 161 1 := ⟨fun _ => by kernel_rfl⟩
instance : TAgg Tryz.prog 161 false := ⟨fun _ => by kernel_rfl⟩
instance : TZero Tryz.prog 161 (Value.nilFunc) := ⟨fun _ => by kernel_rfl⟩
instance : TInfo Tryz.prog 161 (Value.nilFunc) 1 8 := ⟨by kernel_rfl⟩
instance : TSize Tryz.prog 162 1 := ⟨fun _ => by kernel_rfl⟩
instance : TAgg Tryz.prog 162 false := ⟨fun _ => by kernel_rfl⟩
instance : TZero Tryz.prog 162 (Value.nilFunc) := ⟨fun _ => by kernel_rfl⟩
instance : TInfo Tryz.prog 162 (Value.nilFunc) 1 8 := ⟨by kernel_rfl⟩
instance : TSize Tryz.prog 163 1 := ⟨fun _ => by kernel_rfl⟩
instance : TAgg Tryz.prog 163 false := ⟨fun _ => by kernel_rfl⟩
instance : TZero Tryz.prog 163 (Value.nilFunc) := ⟨fun _ => by kernel_rfl⟩
instance : TInfo Tryz.prog 163 (Value.nilFunc) 1 8 := ⟨by kernel_rfl⟩
instance : TSize Tryz.prog 164 1 := ⟨fun _ => by kernel_rfl⟩
instance : TAgg Tryz.prog 164 false := ⟨fun _ => by kernel_rfl⟩
instance : TZero Tryz.prog 164 (Value.pointer none) := ⟨fun _ => by kernel_rfl⟩
instance : TInfo Tryz.prog 164 (Value.pointer none) 1 8 := ⟨by kernel_rfl⟩
instance : TSize Tryz.prog 165 1 := ⟨fun _ => by kernel_rfl⟩
instance : TAgg Tryz.prog 165 false := ⟨fun _ => by kernel_rfl⟩
instance : TZero Tryz.prog 165 (Value.nilFunc) := ⟨fun _ => by kernel_rfl⟩
instance : TInfo Tryz.prog 165 (Value.nilFunc) 1 8 := ⟨by kernel_rfl⟩
instance : TSize Tryz.prog 166 1 := ⟨fun _ => by kernel_rfl⟩
instance : TAgg Tryz.prog 166 false := ⟨fun _ => by kernel_rfl⟩
instance : TZero Tryz.prog 166 (Value.nilFunc) := ⟨fun _ => by kernel_rfl⟩
instance : TInfo Tryz.prog 166 (Value.nilFunc) 1 8 := ⟨by kernel_rfl⟩
instance : TSize Tryz.prog 168 1 := ⟨fun _ => by kernel_rfl⟩
instance : TAgg Tryz.prog 168 false := ⟨fun _ => by kernel_rfl⟩
instance : TZero Tryz.prog 168 (Value.nilFunc) := ⟨fun _ => by kernel_rfl⟩
instance : TInfo Tryz.prog 168 (Value.nilFunc) 1 8 := ⟨by kernel_rfl⟩
instance : TSize Tryz.prog 169 1 := ⟨fun _ => by kernel_rfl⟩
instance : TAgg Tryz.prog 169 false := ⟨fun _ => by kernel_rfl⟩
instance : TZero Tryz.prog 169 (Value.nilFunc) := ⟨fun _ => by kernel_rfl⟩
instance : TInfo Tryz.prog 169 (Value.nilFunc) 1 8 := ⟨by kernel_rfl⟩
instance : TSize Tryz.prog 170 1 := ⟨fun _ => by kernel_rfl⟩
instance : TAgg Tryz.prog 170 false := ⟨fun _ => by kernel_rfl⟩
instance : TZero Tryz.prog 170 (Value.nilFunc) := ⟨fun _ => by kernel_rfl⟩
instance : TInfo Tryz.prog 170 (Value.nilFunc) 1 8 := ⟨by kernel_rfl⟩
instance : TSize Tryz.prog 171 1 := ⟨fun _ => by kernel_rfl⟩
instance : TAgg Tryz.prog 171 false := ⟨fun _ => by kernel_rfl⟩
instance : TZero Tryz.prog 171 (Value.nilFunc) := ⟨fun _ => by kernel_rfl⟩
instance : TInfo Tryz.prog 171 (Value.nilFunc) 1 8 := ⟨by kernel_rfl⟩
instance : TSize Tryz.prog 172 1 := ⟨fun _ => by kernel_rfl⟩
instance : TAgg Tryz.prog 172 false := ⟨fun _ => by kernel_rfl⟩
instance : TZero Tryz.prog 172 (Value.pointer none) := ⟨fun _ => by kernel_rfl⟩
instance : TInfo Tryz.prog 172 (Value.pointer none) 1 8 := ⟨by kernel_rfl⟩
instance : TSize Tryz.prog 173 1 := ⟨fun _ => by kernel_rfl⟩
instance : TAgg Tryz.prog 173 false := ⟨fun _ => by kernel_rfl⟩
instance : TZero Tryz.prog 173 (Value.nilFunc) := ⟨fun _ => by kernel_rfl⟩
instance : TInfo Tryz.prog 173 (Value.nilFunc) 1 8 := ⟨by kernel_rfl⟩
instance : TSize Tryz.prog 174 1 := ⟨fun _ => by kernel_rfl⟩
instance : TAgg Tryz.prog 174 false := ⟨fun _ => by kernel_rfl⟩
instance : TZero Tryz.prog 174 (Value.slice none 0 0) := ⟨fun _ => by kernel_rfl⟩
instance : TInfo Tryz.prog 174 (Value.slice none 0 0) 1 24 := ⟨by kernel_rfl⟩
instance : TElem Tryz.prog 174 4 := ⟨by kernel_rfl⟩
instance : TSize Tryz.prog 175 1 := ⟨fun _ => by kernel_rfl⟩
instance : TAgg Tryz.prog 175 false := ⟨fun _ => by kernel_rfl⟩
instance : TZero Tryz.prog 175 (Value.nilFunc) := ⟨fun _ => by kernel_rfl⟩
instance : TInfo Tryz.prog 175 (Value.nilFunc) 1 8 := ⟨by kernel_rfl⟩
instance : TSize Tryz.prog 176 1 := ⟨fun _ => by kernel_rfl⟩
instance : TAgg Tryz.prog 176 false := ⟨fun _ => by kernel_rfl⟩
instance : TZero Tryz.prog 176 (Value.nilFunc) := ⟨fun _ => by kernel_rfl⟩
instance : TInfo Tryz.prog 176 (Value.nilFunc) 1 8 := ⟨by kernel_rfl⟩
instance : TSize Tryz.prog 177 1 := ⟨fun _ => by kernel_rfl⟩
instance : TAgg Tryz.prog 177 false := ⟨fun _ => by kernel_rfl⟩
instance : TZero Tryz.prog 177 (Value.nilIface) := ⟨fun _ => by kernel_rfl⟩
instance : TInfo Tryz.prog 177 (Value.nilIface) 1 16 := ⟨by kernel_rfl⟩
instance : TSize Tryz.prog 178 1 := ⟨fun _ => by kernel_rfl⟩
instance : TAgg Tryz.prog 178 false := ⟨fun _ => by kernel_rfl⟩
instance : TZero Tryz.prog 178 (Value.nilIface) := ⟨fun _ => by kernel_rfl⟩
instance : TInfo Tryz.prog 178 (Value.nilIface) 1 16 := ⟨by kernel_rfl⟩
instance : TSize Tryz.prog 179 256 := ⟨fun _ => by kernel_rfl⟩
instance : TAgg Tryz.prog 179 true := ⟨fun _ => by kernel_rfl⟩
instance : TZero Tryz.prog 179 (Value.agg (List.replicate 256 (Value.int .u8 0)).toArray) := ⟨fun _ => by kernel_rfl⟩
instance : TInfo Tryz.prog 179 (Value.agg (List.replicate 256 (Value.int .u8 0)).toArray) 256 256 := ⟨by kernel_rfl⟩
instance : TSize Tryz.prog 180 2 := ⟨fun _ => by kernel_rfl⟩
instance : TAgg Tryz.prog 180 true := ⟨fun _ => by kernel_rfl⟩
instance : TZero Tryz.prog 180 (Value.agg #[(Value.int .u8 0), (Value.int .u8 0)]) := ⟨fun _ => by kernel_rfl⟩
instance : TInfo Tryz.prog 180 (Value.agg #[(Value.int .u8 0), (Value.int .u8 0)]) 2 2 := ⟨by kernel_rfl⟩
instance : TField Tryz.prog 180 0 0 := ⟨fun _ _ _ => by kernel_rfl⟩
instance : TField Tryz.prog 180 1 1 := ⟨fun _ _ _ => by kernel_rfl⟩
instance : TSize Tryz.prog 181 2 := ⟨fun _ => by kernel_rfl⟩
instance : TAgg Tryz.prog 181 true := ⟨fun _ => by kernel_rfl⟩
instance : TZero Tryz.prog 181 (Value.agg #[(Value.int .u8 0), (Value.int .u8 0)]) := ⟨fun _ => by kernel_rfl⟩
instance : TInfo Tryz.prog 181 (Value.agg #[(Value.int .u8 0), (Value.int .u8 0)]) 2 2 := ⟨by kernel_rfl⟩
instance : TField Tryz.prog 181 0 0 := ⟨fun _ _ _ => by kernel_rfl⟩
instance : TField Tryz.prog 181 1 1 := ⟨fun _ _ _ => by kernel_rfl⟩
instance : TSize Tryz.prog 182 32 := ⟨fun _ => by kernel_rfl⟩
instance : TAgg Tryz.prog 182 true := ⟨fun _ => by kernel_rfl⟩
instance : TZero Tryz.prog 182 (Value.agg (List.replicate 32 (Value.int .u8 0)).toArray) := ⟨fun _ => by kernel_rfl⟩
instance : TInfo Tryz.prog 182 (Value.agg (List.replicate 32 (Value.int .u8 0)).toArray) 32 32 := ⟨by kernel_rfl⟩
instance : TSize Tryz.prog 184 1 := ⟨fun _ => by kernel_rfl⟩
instance : TAgg Tryz.prog 184 false := ⟨fun _ => by kernel_rfl⟩
instance : TZero Tryz.prog 184 (Value.nilFunc) := ⟨fun _ => by kernel_rfl⟩
instance : TInfo Tryz.prog 184 (Value.nilFunc) 1 8 := ⟨by kernel_rfl⟩
instance : TSize Tryz.prog 185 1 := ⟨fun _ => by kernel_rfl⟩
instance : TAgg Tryz.prog 185 false := ⟨fun _ => by kernel_rfl⟩
instance : TZero Tryz.prog 185 (Value.nilFunc) := ⟨fun _ => by kernel_rfl⟩
instance : TInfo Tryz.prog 185 (Value.nilFunc) 1 8 := ⟨by kernel_rfl⟩
instance : TSize Tryz.prog 186 4 := ⟨fun _ => by kernel_rfl⟩
instance : TAgg Tryz.prog 186 true := ⟨fun _ => by kernel_rfl⟩
instance : TZero Tryz.prog 186 (Value.agg #[(Value.pointer none), (Value.pointer none), (Value.pointer none), (Value.string ByteArray.empty)]) := ⟨fun _ => by kernel_rfl⟩
instance : TInfo Tryz.prog 186 (Value.agg #[(Value.pointer none), (Value.pointer none), (Value.pointer none), (Value.string ByteArray.empty)]) 4 40 := ⟨by kernel_rfl⟩
instance : TField Tryz.prog 186 0 0 := ⟨fun _ _ _ => by kernel_rfl⟩
instance : TField Tryz.prog 186 1 1 := ⟨fun _ _ _ => by kernel_rfl⟩
instance : TField Tryz.prog 186 2 2 := ⟨fun _ _ _ => by kernel_rfl⟩
instance : TField Tryz.prog 186 3 3 := ⟨fun _ _ _ => by kernel_rfl⟩
instance : TSize Tryz.prog 187 4 := ⟨fun _ => by kernel_rfl⟩
instance : TAgg Tryz.prog 187 true := ⟨fun _ => by kernel_rfl⟩
instance : TZero Tryz.prog 187 (Value.agg #[(Value.pointer none), (Value.pointer none), (Value.pointer none), (Value.string ByteArray.empty)]) := ⟨fun _ => by kernel_rfl⟩
instance : TInfo Tryz.prog 187 (Value.agg #[(Value.pointer none), (Value.pointer none), (Value.pointer none), (Value.string ByteArray.empty)]) 4 40 := ⟨by kernel_rfl⟩
instance : TField Tryz.prog 187 0 0 := ⟨fun _ _ _ => by kernel_rfl⟩
instance : TField Tryz.prog 187 1 1 := ⟨fun _ _ _ => by kernel_rfl⟩
instance : TField Tryz.prog 187 2 2 := ⟨fun _ _ _ => by kernel_rfl⟩
instance : TField Tryz.prog 187 3 3 := ⟨fun _ _ _ => by kernel_rfl⟩
instance : TSize Tryz.prog 188 0 := ⟨fun _ => by kernel_rfl⟩
instance : TAgg Tryz.prog 188 true := ⟨fun _ => by kernel_rfl⟩
instance : TZero Tryz.prog 188 (Value.agg #[]) := ⟨fun _ => by kernel_rfl⟩
instance : TInfo Tryz.prog 188 (Value.agg #[]) 0 0 := ⟨by kernel_rfl⟩
instance : TSize Tryz.prog 189 0 := ⟨fun _ => by kernel_rfl⟩
instance : TAgg Tryz.prog 189 true := ⟨fun _ => by kernel_rfl⟩
instance : TZero Tryz.prog 189 (Value.agg #[]) := ⟨fun _ => by kernel_rfl⟩
instance : TInfo Tryz.prog 189 (Value.agg #[]) 0 0 := ⟨by kernel_rfl⟩
instance : TSize Tryz.prog 190 0 := ⟨fun _ => by kernel_rfl⟩
instance : TAgg Tryz.prog 190 true := ⟨fun _ => by kernel_rfl⟩
instance : TZero Tryz.prog 190 (Value.agg #[]) := ⟨fun _ => by kernel_rfl⟩
instance : TInfo Tryz.prog 190 (Value.agg #[]) 0 0 := ⟨by kernel_rfl⟩
instance : TSize Tryz.prog 191 1 := ⟨fun _ => by kernel_rfl⟩
instance : TAgg Tryz.prog 191 false := ⟨fun _ => by kernel_rfl⟩
instance : TZero Tryz.prog 191 (Value.nilFunc) := ⟨fun _ => by kernel_rfl⟩
instance : TInfo Tryz.prog 191 (Value.nilFunc) 1 8 := ⟨by kernel_rfl⟩
instance : TSize Tryz.prog 192 1 := ⟨fun _ => by kernel_rfl⟩
instance : TAgg Tryz.prog 192 false := ⟨fun _ => by kernel_rfl⟩
instance : TZero Tryz.prog 192 (Value.int .u8 0) := ⟨fun _ => by kernel_rfl⟩
instance : TInfo Tryz.prog 192 (Value.int .u8 0) 1 1 := ⟨by kernel_rfl⟩
instance : TSize Tryz.prog 193 1 := ⟨fun _ => by kernel_rfl⟩
instance : TAgg Tryz.prog 193 false := ⟨fun _ => by kernel_rfl⟩
instance : TZero Tryz.prog 193 (Value.int .u8 0) := ⟨fun _ => by kernel_rfl⟩
instance : TInfo Tryz.prog 193 (Value.int .u8 0) 1 1 := ⟨by kernel_rfl⟩
instance : TSize Tryz.prog 194 1 := ⟨fun _ => by kernel_rfl⟩
instance : TAgg Tryz.prog 194 false := ⟨fun _ => by kernel_rfl⟩
instance : TZero Tryz.prog 194 (Value.nilFunc) := ⟨fun _ => by kernel_rfl⟩
instance : TInfo Tryz.prog 194 (Value.nilFunc) 1 8 := ⟨by kernel_rfl⟩
instance : TSize Tryz.prog 195 1 := ⟨fun _ => by kernel_rfl⟩
instance : TAgg Tryz.prog 195 false := ⟨fun _ => by kernel_rfl⟩
instance : TZero Tryz.prog 195 (Value.pointer none) := ⟨fun _ => by kernel_rfl⟩
instance : TInfo Tryz.prog 195 (Value.pointer none) 1 8 := ⟨by kernel_rfl⟩
instance : TSize Tryz.prog 196 1 := ⟨fun _ => by kernel_rfl⟩
instance : TAgg Tryz.prog 196 false := ⟨fun _ => by kernel_rfl⟩
instance : TZero Tryz.prog 196 (Value.int .i32 0) := ⟨fun _ => by kernel_rfl⟩
instance : TInfo Tryz.prog 196 (Value.int .i32 0) 1 4 := ⟨by kernel_rfl⟩
instance : TSize Tryz.prog 197 1 := ⟨fun _ => by kernel_rfl⟩
instance : TAgg Tryz.prog 197 false := ⟨fun _ => by kernel_rfl⟩
instance : TZero Tryz.prog 197 (Value.int .i32 0) := ⟨fun _ => by kernel_rfl⟩
instance : TInfo Tryz.prog 197 (Value.int .i32 0) 1 4 := ⟨by kernel_rfl⟩
instance : TSize Tryz.prog 198 11 := ⟨fun _ => by kernel_rfl⟩
instance : TAgg Tryz.prog 198 true := ⟨fun _ => by kernel_rfl⟩
instance : TZero Tryz.prog 198 (Value.agg ([(Value.int .u64 0), (Value.int .u64 0), (Value.int .u32 0), (Value.int .u8 0), (Value.int .u8 0), (Value.int .u8 0), (Value.int .u8 0), (Value.nilFunc), (Value.pointer none), (Value.int .i32 0), (Value.int .i32 0)]).toArray) := ⟨fun _ => by kernel_rfl⟩
instance : TInfo Tryz.prog 198 (Value.agg ([(Value.int .u64 0), (Value.int .u64 0), (Value.int .u32 0), (Value.int .u8 0), (Value.int .u8 0), (Value.int .u8 0), (Value.int .u8 0), (Value.nilFunc), (Value.pointer none), (Value.int .i32 0), (Value.int .i32 0)]).toArray) 11 48 := ⟨by kernel_rfl⟩
instance : TField Tryz.prog 198 0 0 := ⟨fun _ _ _ => by kernel_rfl⟩
instance : TField Tryz.prog 198 1 1 := ⟨fun _ _ _ => by kernel_rfl⟩
instance : TField Tryz.prog 198 2 2 := ⟨fun _ _ _ => by kernel_rfl⟩
instance : TField Tryz.prog 198 3 3 := ⟨fun _ _ _ => by kernel_rfl⟩
instance : TField Tryz.prog 198 4 4 := ⟨fun _ _ _ => by kernel_rfl⟩
instance : TField Tryz.prog 198 5 5 := ⟨fun _ _ _ => by kernel_rfl⟩
instance : TField Tryz.prog 198 6 6 := ⟨fun _ _ _ => by kernel_rfl⟩
instance : TField Tryz.prog 198 7 7 := ⟨fun _ _ _ => by kernel_rfl⟩
instance : TField Tryz.prog 198 8 8 := ⟨fun _ _ _ => by kernel_rfl⟩
instance : TField Tryz.prog 198 9 9 := ⟨fun _ _ _ => by kernel_rfl⟩
instance : TField Tryz.prog 198 10 10 := ⟨fun _ _ _ => by kernel_rfl⟩
instance : TSize Tryz.prog 199 11 := ⟨fun _ => by kernel_rfl⟩
instance : TAgg Tryz.prog 199 true := ⟨fun _ => by kernel_rfl⟩
instance : TZero Tryz.prog 199 (Value.agg ([(Value.int .u64 0), (Value.int .u64 0), (Value.int .u32 0), (Value.int .u8 0), (Value.int .u8 0), (Value.int .u8 0), (Value.int .u8 0), (Value.nilFunc), (Value.pointer none), (Value.int .i32 0), (Value.int .i32 0)]).toArray) := ⟨fun _ => by kernel_rfl⟩
instance : TInfo Tryz.prog 199 (Value.agg ([(Value.int .u64 0), (Value.int .u64 0), (Value.int .u32 0), (Value.int .u8 0), (Value.int .u8 0), (Value.int .u8 0), (Value.int .u8 0), (Value.nilFunc), (Value.pointer none), (Value.int .i32 0), (Value.int .i32 0)]).toArray) 11 48 := ⟨by kernel_rfl⟩
instance : TField Tryz.prog 199 0 0 := ⟨fun _ _ _ => by kernel_rfl⟩
instance : TField Tryz.prog 199 1 1 := ⟨fun _ _ _ => by kernel_rfl⟩
instance : TField Tryz.prog 199 2 2 := ⟨fun _ _ _ => by kernel_rfl⟩
instance : TField Tryz.prog 199 3 3 := ⟨fun _ _ _ => by kernel_rfl⟩
instance : TField Tryz.prog 199 4 4 := ⟨fun _ _ _ => by kernel_rfl⟩
instance : TField Tryz.prog 199 5 5 := ⟨fun _ _ _ => by kernel_rfl⟩
instance : TField Tryz.prog 199 6 6 := ⟨fun _ _ _ => by kernel_rfl⟩
instance : TField Tryz.prog 199 7 7 := ⟨fun _ _ _ => by kernel_rfl⟩
instance : TField Tryz.prog 199 8 8 := ⟨fun _ _ _ => by kernel_rfl⟩
instance : TField Tryz.prog 199 9 9 := ⟨fun _ _ _ => by kernel_rfl⟩
instance : TField Tryz.prog 199 10 10 := ⟨fun _ _ _ => by kernel_rfl⟩
instance : TSize Tryz.prog 200 1 := ⟨fun _ => by kernel_rfl⟩
instance : TAgg Tryz.prog 200 false := ⟨fun _ => by kernel_rfl⟩
instance : TZero Tryz.prog 200 (Value.pointer none) := ⟨fun _ => by kernel_rfl⟩
instance : TInfo Tryz.prog 200 (Value.pointer none) 1 8 := ⟨by kernel_rfl⟩
end Go.Proofs.YtddiecdoaggaaaaGreatDoor
