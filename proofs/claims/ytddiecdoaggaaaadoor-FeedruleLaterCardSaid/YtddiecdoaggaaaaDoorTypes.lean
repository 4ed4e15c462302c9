/- MADE BY PROGRAM (wip/tools/types.py): the facts on types that the laws ask. -/
import Derived.Test.YtddiecdoaggaaaaDoorEng
import Derived.Test.YtddiecdoaggaaaaDoorRows
import Derived.KernelRfl
namespace Go.Proofs.YtddiecdoaggaaaaDoor
instance : TSize Tryd.prog 1 1 := ⟨fun _ => by kernel_rfl⟩
instance : TAgg Tryd.prog 1 false := ⟨fun _ => by kernel_rfl⟩
instance : TZero Tryd.prog 1 (Value.nilFunc) := ⟨fun _ => by kernel_rfl⟩
instance : TInfo Tryd.prog 1 (Value.nilFunc) 1 8 := ⟨by kernel_rfl⟩
instance : TSize Tryd.prog 2 1 := ⟨fun _ => by kernel_rfl⟩
instance : TAgg Tryd.prog 2 false := ⟨fun _ => by kernel_rfl⟩
instance : TZero Tryd.prog 2 (Value.int .i64 0) := ⟨fun _ => by kernel_rfl⟩
instance : TInfo Tryd.prog 2 (Value.int .i64 0) 1 8 := ⟨by kernel_rfl⟩
instance : TSize Tryd.prog 3 1 := ⟨fun _ => by kernel_rfl⟩
instance : TAgg Tryd.prog 3 false := ⟨fun _ => by kernel_rfl⟩
instance : TZero Tryd.prog 3 (Value.int .i64 0) := ⟨fun _ => by kernel_rfl⟩
instance : TInfo Tryd.prog 3 (Value.int .i64 0) 1 8 := ⟨by kernel_rfl⟩
instance : TSize Tryd.prog 4 1 := ⟨fun _ => by kernel_rfl⟩
instance : TAgg Tryd.prog 4 false := ⟨fun _ => by kernel_rfl⟩
instance : TZero Tryd.prog 4 (Value.bool false) := ⟨fun _ => by kernel_rfl⟩
instance : TInfo Tryd.prog 4 (Value.bool false) 1 1 := ⟨by kernel_rfl⟩
instance : TSize Tryd.prog 5 1 := ⟨fun _ => by kernel_rfl⟩
instance : TAgg Tryd.prog 5 false := ⟨fun _ => by kernel_rfl⟩
instance : TZero Tryd.prog 5 (Value.int .u8 0) := ⟨fun _ => by kernel_rfl⟩
instance : TInfo Tryd.prog 5 (Value.int .u8 0) 1 1 := ⟨by kernel_rfl⟩
instance : TSize Tryd.prog 6 1 := ⟨fun _ => by kernel_rfl⟩
instance : TAgg Tryd.prog 6 false := ⟨fun _ => by kernel_rfl⟩
instance : TZero Tryd.prog 6 (Value.int .u8 0) := ⟨fun _ => by kernel_rfl⟩
instance : TInfo Tryd.prog 6 (Value.int .u8 0) 1 1 := ⟨by kernel_rfl⟩
instance : TSize Tryd.prog 7 4 := ⟨fun _ => by kernel_rfl⟩
instance : TAgg Tryd.prog 7 true := ⟨fun _ => by kernel_rfl⟩
instance : TZero Tryd.prog 7 (Value.agg #[(Value.int .i64 0), (Value.int .i64 0), (Value.bool false), (Value.int .u8 0)]) := ⟨fun _ => by kernel_rfl⟩
instance : TInfo Tryd.prog 7 (Value.agg #[(Value.int .i64 0), (Value.int .i64 0), (Value.bool false), (Value.int .u8 0)]) 4 24 := ⟨by kernel_rfl⟩
instance : TField Tryd.prog 7 0 0 := ⟨fun _ _ _ => by kernel_rfl⟩
instance : TField Tryd.prog 7 1 1 := ⟨fun _ _ _ => by kernel_rfl⟩
instance : TField Tryd.prog 7 2 2 := ⟨fun _ _ _ => by kernel_rfl⟩
instance : TField Tryd.prog 7 3 3 := ⟨fun _ _ _ => by kernel_rfl⟩
instance : TSize Tryd.prog 8 4 := ⟨fun _ => by kernel_rfl⟩
instance : TAgg Tryd.prog 8 true := ⟨fun _ => by kernel_rfl⟩
instance : TZero Tryd.prog 8 (Value.agg #[(Value.int .i64 0), (Value.int .i64 0), (Value.bool false), (Value.int .u8 0)]) := ⟨fun _ => by kernel_rfl⟩
instance : TInfo Tryd.prog 8 (Value.agg #[(Value.int .i64 0), (Value.int .i64 0), (Value.bool false), (Value.int .u8 0)]) 4 24 := ⟨by kernel_rfl⟩
instance : TField Tryd.prog 8 0 0 := ⟨fun _ _ _ => by kernel_rfl⟩
instance : TField Tryd.prog 8 1 1 := ⟨fun _ _ _ => by kernel_rfl⟩
instance : TField Tryd.prog 8 2 2 := ⟨fun _ _ _ => by kernel_rfl⟩
instance : TField Tryd.prog 8 3 3 := ⟨fun _ _ _ => by kernel_rfl⟩
instance : TSize Tryd.prog 9 1 := ⟨fun _ => by kernel_rfl⟩
instance : TAgg Tryd.prog 9 false := ⟨fun _ => by kernel_rfl⟩
instance : TZero Tryd.prog 9 (Value.string ByteArray.empty) := ⟨fun _ => by kernel_rfl⟩
instance : TInfo Tryd.prog 9 (Value.string ByteArray.empty) 1 16 := ⟨by kernel_rfl⟩
instance : TStr Tryd.prog 9 := ⟨by kernel_rfl⟩
instance : TSize Tryd.prog 10 1 := ⟨fun _ => by kernel_rfl⟩
instance : TAgg Tryd.prog 10 false := ⟨fun _ => by kernel_rfl⟩
instance : TZero Tryd.prog 10 (Value.string ByteArray.empty) := ⟨fun _ => by kernel_rfl⟩
instance : TInfo Tryd.prog 10 (Value.string ByteArray.empty) 1 16 := ⟨by kernel_rfl⟩
instance : TStr Tryd.prog 10 := ⟨by kernel_rfl⟩
instance : TSize Tryd.prog 11 1 := ⟨fun _ => by kernel_rfl⟩
instance : TAgg Tryd.prog 11 false := ⟨fun _ => by kernel_rfl⟩
instance : TZero Tryd.prog 11 (Value.string ByteArray.empty) := ⟨fun _ => by kernel_rfl⟩
instance : TInfo Tryd.prog 11 (Value.string ByteArray.empty) 1 16 := ⟨by kernel_rfl⟩
instance : TStr Tryd.prog 11 := ⟨by kernel_rfl⟩
instance : TSize Tryd.prog 12 1 := ⟨fun _ => by kernel_rfl⟩
instance : TAgg Tryd.prog 12 false := ⟨fun _ => by kernel_rfl⟩
instance : TZero Tryd.prog 12 (Value.int .u64 0) := ⟨fun _ => by kernel_rfl⟩
instance : TInfo Tryd.prog 12 (Value.int .u64 0) 1 8 := ⟨by kernel_rfl⟩
instance : TSize Tryd.prog 13 2 := ⟨fun _ => by kernel_rfl⟩
instance : TAgg Tryd.prog 13 true := ⟨fun _ => by kernel_rfl⟩
instance : TZero Tryd.prog 13 (Value.agg #[(Value.string ByteArray.empty), (Value.int .u64 0)]) := ⟨fun _ => by kernel_rfl⟩
instance : TInfo Tryd.prog 13 (Value.agg #[(Value.string ByteArray.empty), (Value.int .u64 0)]) 2 24 := ⟨by kernel_rfl⟩
instance : TField Tryd.prog 13 0 0 := ⟨fun _ _ _ => by kernel_rfl⟩
instance : TField Tryd.prog 13 1 1 := ⟨fun _ _ _ => by kernel_rfl⟩
instance : TSize Tryd.prog 14 2 := ⟨fun _ => by kernel_rfl⟩
instance : TAgg Tryd.prog 14 true := ⟨fun _ => by kernel_rfl⟩
instance : TZero Tryd.prog 14 (Value.agg #[(Value.string ByteArray.empty), (Value.int .u64 0)]) := ⟨fun _ => by kernel_rfl⟩
instance : TInfo Tryd.prog 14 (Value.agg #[(Value.string ByteArray.empty), (Value.int .u64 0)]) 2 24 := ⟨by kernel_rfl⟩
instance : TField Tryd.prog 14 0 0 := ⟨fun _ _ _ => by kernel_rfl⟩
instance : TField Tryd.prog 14 1 1 := ⟨fun _ _ _ => by kernel_rfl⟩
instance : TSize Tryd.prog 15 1 := ⟨fun _ => by kernel_rfl⟩
instance : TAgg Tryd.prog 15 false := ⟨fun _ => by kernel_rfl⟩
instance : TZero Tryd.prog 15 (Value.pointer none) := ⟨fun _ => by kernel_rfl⟩
instance : TInfo Tryd.prog 15 (Value.pointer none) 1 8 := ⟨by kernel_rfl⟩
instance : TSize Tryd.prog 16 1 := ⟨fun _ => by kernel_rfl⟩
instance : TAgg Tryd.prog 16 false := ⟨fun _ => by kernel_rfl⟩
instance : TZero Tryd.prog 16 (Value.pointer none) := ⟨fun _ => by kernel_rfl⟩
instance : TInfo Tryd.prog 16 (Value.pointer none) 1 8 := ⟨by kernel_rfl⟩
instance : TSize Tryd.prog 17 1 := ⟨fun _ => by kernel_rfl⟩
instance : TAgg Tryd.prog 17 false := ⟨fun _ => by kernel_rfl⟩
instance : TZero Tryd.prog 17 (Value.pointer none) := ⟨fun _ => by kernel_rfl⟩
instance : TInfo Tryd.prog 17 (Value.pointer none) 1 8 := ⟨by kernel_rfl⟩
instance : TSize Tryd.prog 18 1 := ⟨fun _ => by kernel_rfl⟩
instance : TAgg Tryd.prog 18 true := ⟨fun _ => by kernel_rfl⟩
instance : TZero Tryd.prog 18 (Value.agg #[(Value.pointer none)]) := ⟨fun _ => by kernel_rfl⟩
instance : TInfo Tryd.prog 18 (Value.agg #[(Value.pointer none)]) 1 8 := ⟨by kernel_rfl⟩
instance : TField Tryd.prog 18 0 0 := ⟨fun _ _ _ => by kernel_rfl⟩
instance : TSize Tryd.prog 19 1 := ⟨fun _ => by kernel_rfl⟩
instance : TAgg Tryd.prog 19 true := ⟨fun _ => by kernel_rfl⟩
instance : TZero Tryd.prog 19 (Value.agg #[(Value.pointer none)]) := ⟨fun _ => by kernel_rfl⟩
instance : TInfo Tryd.prog 19 (Value.agg #[(Value.pointer none)]) 1 8 := ⟨by kernel_rfl⟩
instance : TField Tryd.prog 19 0 0 := ⟨fun _ _ _ => by kernel_rfl⟩
instance : TSize Tryd.prog 20 1 := ⟨fun _ => by kernel_rfl⟩
instance : TAgg Tryd.prog 20 false := ⟨fun _ => by kernel_rfl⟩
instance : TZero Tryd.prog 20 (Value.nilIface) := ⟨fun _ => by kernel_rfl⟩
instance : TInfo Tryd.prog 20 (Value.nilIface) 1 16 := ⟨by kernel_rfl⟩
instance : TSize Tryd.prog 21 1 := ⟨fun _ => by kernel_rfl⟩
instance : TAgg Tryd.prog 21 false := ⟨fun _ => by kernel_rfl⟩
instance : TZero Tryd.prog 21 (Value.int .i32 0) := ⟨fun _ => by kernel_rfl⟩
instance : TInfo Tryd.prog 21 (Value.int .i32 0) 1 4 := ⟨by kernel_rfl⟩
instance : TSize Tryd.prog 22 1 := ⟨fun _ => by kernel_rfl⟩
instance : TAgg Tryd.prog 22 false := ⟨fun _ => by kernel_rfl⟩
instance : TZero Tryd.prog 22 (Value.slice none 0 0) := ⟨fun _ => by kernel_rfl⟩
instance : TInfo Tryd.prog 22 (Value.slice none 0 0) 1 24 := ⟨by kernel_rfl⟩
instance : TElem Tryd.prog 22 9 := ⟨by kernel_rfl⟩
instance : TSize Tryd.prog 23 5 := ⟨fun _ => by kernel_rfl⟩
instance : TAgg Tryd.prog 23 true := ⟨fun _ => by kernel_rfl⟩
instance : TZero Tryd.prog 23 (Value.agg #[(Value.string ByteArray.empty), (Value.string ByteArray.empty), (Value.int .i64 0), (Value.int .i64 0), (Value.slice none 0 0)]) := ⟨fun _ => by kernel_rfl⟩
instance : TInfo Tryd.prog 23 (Value.agg #[(Value.string ByteArray.empty), (Value.string ByteArray.empty), (Value.int .i64 0), (Value.int .i64 0), (Value.slice none 0 0)]) 5 72 := ⟨by kernel_rfl⟩
instance : TField Tryd.prog 23 0 0 := ⟨fun _ _ _ => by kernel_rfl⟩
instance : TField Tryd.prog 23 1 1 := ⟨fun _ _ _ => by kernel_rfl⟩
instance : TField Tryd.prog 23 2 2 := ⟨fun _ _ _ => by kernel_rfl⟩
instance : TField Tryd.prog 23 3 3 := ⟨fun _ _ _ => by kernel_rfl⟩
instance : TField Tryd.prog 23 4 4 := ⟨fun _ _ _ => by kernel_rfl⟩
instance : TSize Tryd.prog 24 5 := ⟨fun _ => by kernel_rfl⟩
instance : TAgg Tryd.prog 24 true := ⟨fun _ => by kernel_rfl⟩
instance : TZero Tryd.prog 24 (Value.agg #[(Value.string ByteArray.empty), (Value.string ByteArray.empty), (Value.int .i64 0), (Value.int .i64 0), (Value.slice none 0 0)]) := ⟨fun _ => by kernel_rfl⟩
instance : TInfo Tryd.prog 24 (Value.agg #[(Value.string ByteArray.empty), (Value.string ByteArray.empty), (Value.int .i64 0), (Value.int .i64 0), (Value.slice none 0 0)]) 5 72 := ⟨by kernel_rfl⟩
instance : TField Tryd.prog 24 0 0 := ⟨fun _ _ _ => by kernel_rfl⟩
instance : TField Tryd.prog 24 1 1 := ⟨fun _ _ _ => by kernel_rfl⟩
instance : TField Tryd.prog 24 2 2 := ⟨fun _ _ _ => by kernel_rfl⟩
instance : TField Tryd.prog 24 3 3 := ⟨fun _ _ _ => by kernel_rfl⟩
instance : TField Tryd.prog 24 4 4 := ⟨fun _ _ _ => by kernel_rfl⟩
instance : TSize Tryd.prog 25 32 := ⟨fun _ => by kernel_rfl⟩
instance : TAgg Tryd.prog 25 true := ⟨fun _ => by kernel_rfl⟩
instance : TZero Tryd.prog 25 (Value.agg (List.replicate 32 (Value.int .u8 0)).toArray) := ⟨fun _ => by kernel_rfl⟩
instance : TInfo Tryd.prog 25 (Value.agg (List.replicate 32 (Value.int .u8 0)).toArray) 32 32 := ⟨by kernel_rfl⟩
instance : TSize Tryd.prog 26 38 := ⟨fun _ => by kernel_rfl⟩
instance : TAgg Tryd.prog 26 true := ⟨fun _ => by kernel_rfl⟩
instance : TZero Tryd.prog 26 (Value.agg (List.replicate 32 (Value.int .u8 0) ++ [(Value.slice none 0 0), (Value.string ByteArray.empty), (Value.int .i64 0), (Value.bool false), (Value.string ByteArray.empty), (Value.int .i64 0)]).toArray) := ⟨fun _ => by kernel_rfl⟩
instance : TInfo Tryd.prog 26 (Value.agg (List.replicate 32 (Value.int .u8 0) ++ [(Value.slice none 0 0), (Value.string ByteArray.empty), (Value.int .i64 0), (Value.bool false), (Value.string ByteArray.empty), (Value.int .i64 0)]).toArray) 38 112 := ⟨by kernel_rfl⟩
instance : TField Tryd.prog 26 0 0 := ⟨fun _ _ _ => by kernel_rfl⟩
instance : TField Tryd.prog 26 1 32 := ⟨fun _ _ _ => by kernel_rfl⟩
instance : TField Tryd.prog 26 2 33 := ⟨fun _ _ _ => by kernel_rfl⟩
instance : TField Tryd.prog 26 3 34 := ⟨fun _ _ _ => by kernel_rfl⟩
instance : TField Tryd.prog 26 4 35 := ⟨fun _ _ _ => by kernel_rfl⟩
instance : TField Tryd.prog 26 5 36 := ⟨fun _ _ _ => by kernel_rfl⟩
instance : TField Tryd.prog 26 6 37 := ⟨fun _ _ _ => by kernel_rfl⟩
instance : TSize Tryd.prog 27 38 := ⟨fun _ => by kernel_rfl⟩
instance : TAgg Tryd.prog 27 true := ⟨fun _ => by kernel_rfl⟩
instance : TZero Tryd.prog 27 (Value.agg (List.replicate 32 (Value.int .u8 0) ++ [(Value.slice none 0 0), (Value.string ByteArray.empty), (Value.int .i64 0), (Value.bool false), (Value.string ByteArray.empty), (Value.int .i64 0)]).toArray) := ⟨fun _ => by kernel_rfl⟩
instance : TInfo Tryd.prog 27 (Value.agg (List.replicate 32 (Value.int .u8 0) ++ [(Value.slice none 0 0), (Value.string ByteArray.empty), (Value.int .i64 0), (Value.bool false), (Value.string ByteArray.empty), (Value.int .i64 0)]).toArray) 38 112 := ⟨by kernel_rfl⟩
instance : TField Tryd.prog 27 0 0 := ⟨fun _ _ _ => by kernel_rfl⟩
instance : TField Tryd.prog 27 1 32 := ⟨fun _ _ _ => by kernel_rfl⟩
instance : TField Tryd.prog 27 2 33 := ⟨fun _ _ _ => by kernel_rfl⟩
instance : TField Tryd.prog 27 3 34 := ⟨fun _ _ _ => by kernel_rfl⟩
instance : TField Tryd.prog 27 4 35 := ⟨fun _ _ _ => by kernel_rfl⟩
instance : TField Tryd.prog 27 5 36 := ⟨fun _ _ _ => by kernel_rfl⟩
instance : TField Tryd.prog 27 6 37 := ⟨fun _ _ _ => by kernel_rfl⟩
instance : TSize Tryd.prog 28 5 := ⟨fun _ => by kernel_rfl⟩
instance : TAgg Tryd.prog 28 true := ⟨fun _ => by kernel_rfl⟩
instance : TZero Tryd.prog 28 (Value.agg #[(Value.string ByteArray.empty), (Value.string ByteArray.empty), (Value.int .i64 0), (Value.int .i64 0), (Value.slice none 0 0)]) := ⟨fun _ => by kernel_rfl⟩
instance : TInfo Tryd.prog 28 (Value.agg #[(Value.string ByteArray.empty), (Value.string ByteArray.empty), (Value.int .i64 0), (Value.int .i64 0), (Value.slice none 0 0)]) 5 72 := ⟨by kernel_rfl⟩
instance : TField Tryd.prog 28 0 0 := ⟨fun _ _ _ => by kernel_rfl⟩
instance : TField Tryd.prog 28 1 1 := ⟨fun _ _ _ => by kernel_rfl⟩
instance : TField Tryd.prog 28 2 2 := ⟨fun _ _ _ => by kernel_rfl⟩
instance : TField Tryd.prog 28 3 3 := ⟨fun _ _ _ => by kernel_rfl⟩
instance : TField Tryd.prog 28 4 4 := ⟨fun _ _ _ => by kernel_rfl⟩
instance : TSize Tryd.prog 30 1 := ⟨fun _ => by kernel_rfl⟩
instance : TAgg Tryd.prog 30 false := ⟨fun _ => by kernel_rfl⟩
instance : TZero Tryd.prog 30 (Value.nilFunc) := ⟨fun _ => by kernel_rfl⟩
instance : TInfo Tryd.prog 30 (Value.nilFunc) 1 8 := ⟨by kernel_rfl⟩
instance : TSize Tryd.prog 31 1 := ⟨fun _ => by kernel_rfl⟩
instance : TAgg Tryd.prog 31 false := ⟨fun _ => by kernel_rfl⟩
instance : TZero Tryd.prog 31 (Value.pointer none) := ⟨fun _ => by kernel_rfl⟩
instance : TInfo Tryd.prog 31 (Value.pointer none) 1 8 := ⟨by kernel_rfl⟩
instance : TSize Tryd.prog 32 1 := ⟨fun _ => by kernel_rfl⟩
instance : TAgg Tryd.prog 32 false := ⟨fun _ => by kernel_rfl⟩
instance : TZero Tryd.prog 32 (Value.int .i64 0) := ⟨fun _ => by kernel_rfl⟩
instance : TInfo Tryd.prog 32 (Value.int .i64 0) 1 8 := ⟨by kernel_rfl⟩
instance : TSize Tryd.prog 34 1 := ⟨fun _ => by kernel_rfl⟩
instance : TAgg Tryd.prog 34 false := ⟨fun _ => by kernel_rfl⟩
instance : TZero Tryd.prog 34 (Value.nilFunc) := ⟨fun _ => by kernel_rfl⟩
instance : TInfo Tryd.prog 34 (Value.nilFunc) 1 8 := ⟨by kernel_rfl⟩
instance : TSize Tryd.prog 35 1 := ⟨fun _ => by kernel_rfl⟩
instance : TAgg Tryd.prog 35 false := ⟨fun _ => by kernel_rfl⟩
instance : TZero Tryd.prog 35 (Value.nilFunc) := ⟨fun _ => by kernel_rfl⟩
instance : TInfo Tryd.prog 35 (Value.nilFunc) 1 8 := ⟨by kernel_rfl⟩
instance : TSize Tryd.prog 36 1 := ⟨fun _ => by kernel_rfl⟩
instance : TAgg Tryd.prog 36 false := ⟨fun _ => by kernel_rfl⟩
instance : TZero Tryd.prog 36 (Value.nilFunc) := ⟨fun _ => by kernel_rfl⟩
instance : TInfo Tryd.prog 36 (Value.nilFunc) 1 8 := ⟨by kernel_rfl⟩
instance : TSize Tryd.prog 37 32 := ⟨fun _ => by kernel_rfl⟩
instance : TAgg Tryd.prog 37 true := ⟨fun _ => by kernel_rfl⟩
instance : TZero Tryd.prog 37 (Value.agg (List.replicate 32 (Value.int .u8 0)).toArray) := ⟨fun _ => by kernel_rfl⟩
instance : TInfo Tryd.prog 37 (Value.agg (List.replicate 32 (Value.int .u8 0)).toArray) 32 32 := ⟨by kernel_rfl⟩
instance : TSize Tryd.prog 38 38 := ⟨fun _ => by kernel_rfl⟩
instance : TAgg Tryd.prog 38 true := ⟨fun _ => by kernel_rfl⟩
instance : TZero Tryd.prog 38 (Value.agg (List.replicate 32 (Value.int .u8 0) ++ [(Value.slice none 0 0), (Value.string ByteArray.empty), (Value.int .i64 0), (Value.bool false), (Value.string ByteArray.empty), (Value.int .i64 0)]).toArray) := ⟨fun _ => by kernel_rfl⟩
instance : TInfo Tryd.prog 38 (Value.agg (List.replicate 32 (Value.int .u8 0) ++ [(Value.slice none 0 0), (Value.string ByteArray.empty), (Value.int .i64 0), (Value.bool false), (Value.string ByteArray.empty), (Value.int .i64 0)]).toArray) 38 112 := ⟨by kernel_rfl⟩
instance : TField Tryd.prog 38 0 0 := ⟨fun _ _ _ => by kernel_rfl⟩
instance : TField Tryd.prog 38 1 32 := ⟨fun _ _ _ => by kernel_rfl⟩
instance : TField Tryd.prog 38 2 33 := ⟨fun _ _ _ => by kernel_rfl⟩
instance : TField Tryd.prog 38 3 34 := ⟨fun _ _ _ => by kernel_rfl⟩
instance : TField Tryd.prog 38 4 35 := ⟨fun _ _ _ => by kernel_rfl⟩
instance : TField Tryd.prog 38 5 36 := ⟨fun _ _ _ => by kernel_rfl⟩
instance : TField Tryd.prog 38 6 37 := ⟨fun _ _ _ => by kernel_rfl⟩
instance : TSize Tryd.prog 39 38 := ⟨fun _ => by kernel_rfl⟩
instance : TAgg Tryd.prog 39 true := ⟨fun _ => by kernel_rfl⟩
instance : TZero Tryd.prog 39 (Value.agg (List.replicate 32 (Value.int .u8 0) ++ [(Value.slice none 0 0), (Value.string ByteArray.empty), (Value.int .i64 0), (Value.bool false), (Value.string ByteArray.empty), (Value.int .i64 0)]).toArray) := ⟨fun _ => by kernel_rfl⟩
instance : TInfo Tryd.prog 39 (Value.agg (List.replicate 32 (Value.int .u8 0) ++ [(Value.slice none 0 0), (Value.string ByteArray.empty), (Value.int .i64 0), (Value.bool false), (Value.string ByteArray.empty), (Value.int .i64 0)]).toArray) 38 112 := ⟨by kernel_rfl⟩
instance : TField Tryd.prog 39 0 0 := ⟨fun _ _ _ => by kernel_rfl⟩
instance : TField Tryd.prog 39 1 32 := ⟨fun _ _ _ => by kernel_rfl⟩
instance : TField Tryd.prog 39 2 33 := ⟨fun _ _ _ => by kernel_rfl⟩
instance : TField Tryd.prog 39 3 34 := ⟨fun _ _ _ => by kernel_rfl⟩
instance : TField Tryd.prog 39 4 35 := ⟨fun _ _ _ => by kernel_rfl⟩
instance : TField Tryd.prog 39 5 36 := ⟨fun _ _ _ => by kernel_rfl⟩
instance : TField Tryd.prog 39 6 37 := ⟨fun _ _ _ => by kernel_rfl⟩
instance : TSize Tryd.prog 41 1 := ⟨fun _ => by kernel_rfl⟩
instance : TAgg Tryd.prog 41 false := ⟨fun _ => by kernel_rfl⟩
instance : TZero Tryd.prog 41 (Value.nilFunc) := ⟨fun _ => by kernel_rfl⟩
instance : TInfo Tryd.prog 41 (Value.nilFunc) 1 8 := ⟨by kernel_rfl⟩
instance : TSize Tryd.prog 42 1 := ⟨fun _ => by kernel_rfl⟩
instance : TAgg Tryd.prog 42 false := ⟨fun _ => by kernel_rfl⟩
instance : TZero Tryd.prog 42 (Value.nilFunc) := ⟨fun _ => by kernel_rfl⟩
instance : TInfo Tryd.prog 42 (Value.nilFunc) 1 8 := ⟨by kernel_rfl⟩
instance : TSize Tryd.prog 44 1 := ⟨fun _ => by kernel_rfl⟩
instance : TAgg Tryd.prog 44 false := ⟨fun _ => by kernel_rfl⟩
instance : TZero Tryd.prog 44 (Value.nilFunc) := ⟨fun _ => by kernel_rfl⟩
instance : TInfo Tryd.prog 44 (Value.nilFunc) 1 8 := ⟨by kernel_rfl⟩
instance : TSize Tryd.prog 45 1 := ⟨fun _ => by kernel_rfl⟩
instance : TAgg Tryd.prog 45 false := ⟨fun _ => by kernel_rfl⟩
instance : TZero Tryd.prog 45 (Value.nilFunc) := ⟨fun _ => by kernel_rfl⟩
instance : TInfo Tryd.prog 45 (Value.nilFunc) 1 8 := ⟨by kernel_rfl⟩
instance : TSize Tryd.prog 46 1 := ⟨fun _ => by kernel_rfl⟩
instance : TAgg Tryd.prog 46 false := ⟨fun _ => by kernel_rfl⟩
instance : TZero Tryd.prog 46 (Value.nilFunc) := ⟨fun _ => by kernel_rfl⟩
instance : TInfo Tryd.prog 46 (Value.nilFunc) 1 8 := ⟨by kernel_rfl⟩
instance : TSize Tryd.prog 47 1 := ⟨fun _ => by kernel_rfl⟩
instance : TAgg Tryd.prog 47 false := ⟨fun _ => by kernel_rfl⟩
instance : TZero Tryd.prog 47 (Value.slice none 0 0) := ⟨fun _ => by kernel_rfl⟩
instance : TInfo Tryd.prog 47 (Value.slice none 0 0) 1 24 := ⟨by kernel_rfl⟩
instance : TElem Tryd.prog 47 54 := ⟨by kernel_rfl⟩
instance : TSize Tryd.prog 48 1 := ⟨fun _ => by kernel_rfl⟩
instance : TAgg Tryd.prog 48 false := ⟨fun _ => by kernel_rfl⟩
instance : TZero Tryd.prog 48 (Value.pointer none) := ⟨fun _ => by kernel_rfl⟩
instance : TInfo Tryd.prog 48 (Value.pointer none) 1 8 := ⟨by kernel_rfl⟩
instance : TSize Tryd.prog 50 1 := ⟨fun _ => by kernel_rfl⟩
instance : TAgg Tryd.prog 50 false := ⟨fun _ => by kernel_rfl⟩
instance : TZero Tryd.prog 50 (Value.nilFunc) := ⟨fun _ => by kernel_rfl⟩
instance : TInfo Tryd.prog 50 (Value.nilFunc) 1 8 := ⟨by kernel_rfl⟩
instance : TSize Tryd.prog 51 1 := ⟨fun _ => by kernel_rfl⟩
instance : TAgg Tryd.prog 51 false := ⟨fun _ => by kernel_rfl⟩
instance : TZero Tryd.prog 51 (Value.map none) := ⟨fun _ => by kernel_rfl⟩
instance : TInfo Tryd.prog 51 (Value.map none) 1 8 := ⟨by kernel_rfl⟩
instance : TMap Tryd.prog 51 3 3 := ⟨by kernel_rfl⟩
instance : TSize Tryd.prog 52 1 := ⟨fun _ => by kernel_rfl⟩
instance : TAgg Tryd.prog 52 false := ⟨fun _ => by kernel_rfl⟩
instance : TZero Tryd.prog 52 (Value.nilFunc) := ⟨fun _ => by kernel_rfl⟩
instance : TInfo Tryd.prog 52 (Value.nilFunc) 1 8 := ⟨by kernel_rfl⟩
instance : TSize Tryd.prog 53 2 := ⟨fun _ => by kernel_rfl⟩
instance : TAgg Tryd.prog 53 true := ⟨fun _ => by kernel_rfl⟩
instance : TZero Tryd.prog 53 (Value.agg #[(Value.int .i64 0), (Value.int .i64 0)]) := ⟨fun _ => by kernel_rfl⟩
instance : TInfo Tryd.prog 53 (Value.agg #[(Value.int .i64 0), (Value.int .i64 0)]) 2 16 := ⟨by kernel_rfl⟩
instance : TField Tryd.prog 53 0 0 := ⟨fun _ _ _ => by kernel_rfl⟩
instance : TField Tryd.prog 53 1 1 := ⟨fun _ _ _ => by kernel_rfl⟩
instance : TSize Tryd.prog 54 2 := ⟨fun _ => by kernel_rfl⟩
instance : TAgg Tryd.prog 54 true := ⟨fun _ => by kernel_rfl⟩
instance : TZero Tryd.prog 54 (Value.agg #[(Value.int .i64 0), (Value.int .i64 0)]) := ⟨fun _ => by kernel_rfl⟩
instance : TInfo Tryd.prog 54 (Value.agg #[(Value.int .i64 0), (Value.int .i64 0)]) 2 16 := ⟨by kernel_rfl⟩
instance : TField Tryd.prog 54 0 0 := ⟨fun _ _ _ => by kernel_rfl⟩
instance : TField Tryd.prog 54 1 1 := ⟨fun _ _ _ => by kernel_rfl⟩
instance : TSize Tryd.prog 55 1 := ⟨fun _ => by kernel_rfl⟩
instance : TAgg Tryd.prog 55 false := ⟨fun _ => by kernel_rfl⟩
instance : TZero Tryd.prog 55 (Value.nilFunc) := ⟨fun _ => by kernel_rfl⟩
instance : TInfo Tryd.prog 55 (Value.nilFunc) 1 8 := ⟨by kernel_rfl⟩
instance : TSize Tryd.prog 56 1 := ⟨fun _ => by kernel_rfl⟩
instance : TAgg Tryd.prog 56 false := ⟨fun _ => by kernel_rfl⟩
instance : TZero Tryd.prog 56 (Value.nilFunc) := ⟨fun _ => by kernel_rfl⟩
instance : TInfo Tryd.prog 56 (Value.nilFunc) 1 8 := ⟨by kernel_rfl⟩
instance : TSize Tryd.prog 57 1 := ⟨fun _ => by kernel_rfl⟩
instance : TAgg Tryd.prog 57 false := ⟨fun _ => by kernel_rfl⟩
instance : TZero Tryd.prog 57 (Value.nilFunc) := ⟨fun _ => by kernel_rfl⟩
instance : TInfo Tryd.prog 57 (Value.nilFunc) 1 8 := ⟨by kernel_rfl⟩
instance : TSize Tryd.prog 58 1 := ⟨fun _ => by kernel_rfl⟩
instance : TAgg Tryd.prog 58 false := ⟨fun _ => by kernel_rfl⟩
instance : TZero Tryd.prog 58 (Value.nilFunc) := ⟨fun _ => by kernel_rfl⟩
instance : TInfo Tryd.prog 58 (Value.nilFunc) 1 8 := ⟨by kernel_rfl⟩
instance : TSize Tryd.prog 59 1 := ⟨fun _ => by kernel_rfl⟩
instance : TAgg Tryd.prog 59 false := ⟨fun _ => by kernel_rfl⟩
instance : TZero Tryd.prog 59 (Value.slice none 0 0) := ⟨fun _ => by kernel_rfl⟩
instance : TInfo Tryd.prog 59 (Value.slice none 0 0) 1 24 := ⟨by kernel_rfl⟩
instance : TElem Tryd.prog 59 27 := ⟨by kernel_rfl⟩
instance : TSize Tryd.prog 60 1 := ⟨fun _ => by kernel_rfl⟩
instance : TAgg Tryd.prog 60 false := ⟨fun _ => by kernel_rfl⟩
instance : TZero Tryd.prog 60 (Value.slice none 0 0) := ⟨fun _ => by kernel_rfl⟩
instance : TInfo Tryd.prog 60 (Value.slice none 0 0) 1 24 := ⟨by kernel_rfl⟩
instance : TElem Tryd.prog 60 39 := ⟨by kernel_rfl⟩
instance : TSize Tryd.prog 62 1 := ⟨fun _ => by kernel_rfl⟩
instance : TAgg Tryd.prog 62 false := ⟨fun _ => by kernel_rfl⟩
instance : TZero Tryd.prog 62 (Value.nilFunc) := ⟨fun _ => by kernel_rfl⟩
instance : TInfo Tryd.prog 62 (Value.nilFunc) 1 8 := ⟨by kernel_rfl⟩
instance : TSize Tryd.prog 63 1 := ⟨fun _ => by kernel_rfl⟩
instance : TAgg Tryd.prog 63 false := ⟨fun _ => by kernel_rfl⟩
instance : TZero Tryd.prog 63 (Value.slice none 0 0) := ⟨fun _ => by kernel_rfl⟩
instance : TInfo Tryd.prog 63 (Value.slice none 0 0) 1 24 := ⟨by kernel_rfl⟩
instance : TElem Tryd.prog 63 37 := ⟨by kernel_rfl⟩
instance : TSize Tryd.prog 64 1 := ⟨fun _ => by kernel_rfl⟩
instance : TAgg Tryd.prog 64 false := ⟨fun _ => by kernel_rfl⟩
instance : TZero Tryd.prog 64 (Value.nilFunc) := ⟨fun _ => by kernel_rfl⟩
instance : TInfo Tryd.prog 64 (Value.nilFunc) 1 8 := ⟨by kernel_rfl⟩
instance : TSize Tryd.prog 65 1 := ⟨fun _ => by kernel_rfl⟩
instance : TAgg Tryd.prog 65 false := ⟨fun _ => by kernel_rfl⟩
instance : TZero Tryd.prog 65 (Value.nilFunc) := ⟨fun _ => by kernel_rfl⟩
instance : TInfo Tryd.prog 65 (Value.nilFunc) 1 8 := ⟨by kernel_rfl⟩
instance : TSize Tryd.prog 66 1 := ⟨fun _ => by kernel_rfl⟩
instance : TAgg Tryd.prog 66 false := ⟨fun _ => by kernel_rfl⟩
instance : TZero Tryd.prog 66 (Value.nilFunc) := ⟨fun _ => by kernel_rfl⟩
instance : TInfo Tryd.prog 66 (Value.nilFunc) 1 8 := ⟨by kernel_rfl⟩
instance : TSize Tryd.prog 67 1 := ⟨fun _ => by kernel_rfl⟩
instance : TAgg Tryd.prog 67 false := ⟨fun _ => by kernel_rfl⟩
instance : TZero Tryd.prog 67 (Value.pointer none) := ⟨fun _ => by kernel_rfl⟩
instance : TInfo Tryd.prog 67 (Value.pointer none) 1 8 := ⟨by kernel_rfl⟩
instance : TSize Tryd.prog 69 1 := ⟨fun _ => by kernel_rfl⟩
instance : TAgg Tryd.prog 69 false := ⟨fun _ => by kernel_rfl⟩
instance : TZero Tryd.prog 69 (Value.nilFunc) := ⟨fun _ => by kernel_rfl⟩
instance : TInfo Tryd.prog 69 (Value.nilFunc) 1 8 := ⟨by kernel_rfl⟩
instance : TSize Tryd.prog 70 5 := ⟨fun _ => by kernel_rfl⟩
instance : TAgg Tryd.prog 70 true := ⟨fun _ => by kernel_rfl⟩
instance : TZero Tryd.prog 70 (Value.agg #[(Value.string ByteArray.empty), (Value.string ByteArray.empty), (Value.int .i64 0), (Value.int .i64 0), (Value.slice none 0 0)]) := ⟨fun _ => by kernel_rfl⟩
instance : TInfo Tryd.prog 70 (Value.agg #[(Value.string ByteArray.empty), (Value.string ByteArray.empty), (Value.int .i64 0), (Value.int .i64 0), (Value.slice none 0 0)]) 5 72 := ⟨by kernel_rfl⟩
instance : TField Tryd.prog 70 0 0 := ⟨fun _ _ _ => by kernel_rfl⟩
instance : TSize Tryd.prog 71 5 := ⟨fun _ => by kernel_rfl⟩
instance : TAgg Tryd.prog 71 true := ⟨fun _ => by kernel_rfl⟩
instance : TZero Tryd.prog 71 (Value.agg #[(Value.string ByteArray.empty), (Value.string ByteArray.empty), (Value.int .i64 0), (Value.int .i64 0), (Value.slice none 0 0)]) := ⟨fun _ => by kernel_rfl⟩
instance : TInfo Tryd.prog 71 (Value.agg #[(Value.string ByteArray.empty), (Value.string ByteArray.empty), (Value.int .i64 0), (Value.int .i64 0), (Value.slice none 0 0)]) 5 72 := ⟨by kernel_rfl⟩
instance : TField Tryd.prog 71 0 0 := ⟨fun _ _ _ => by kernel_rfl⟩
instance : TSize Tryd.prog 72 6 := ⟨fun _ => by kernel_rfl⟩
instance : TAgg Tryd.prog 72 true := ⟨fun _ => by kernel_rfl⟩
instance : TZero Tryd.prog 72 (Value.agg #[(Value.string ByteArray.empty), (Value.string ByteArray.empty), (Value.int .i64 0), (Value.int .i64 0), (Value.slice none 0 0), (Value.pointer none)]) := ⟨fun _ => by kernel_rfl⟩
instance : TInfo Tryd.prog 72 (Value.agg #[(Value.string ByteArray.empty), (Value.string ByteArray.empty), (Value.int .i64 0), (Value.int .i64 0), (Value.slice none 0 0), (Value.pointer none)]) 6 80 := ⟨by kernel_rfl⟩
instance : TField Tryd.prog 72 0 0 := ⟨fun _ _ _ => by kernel_rfl⟩
instance : TField Tryd.prog 72 1 5 := ⟨fun _ _ _ => by kernel_rfl⟩
instance : TSize Tryd.prog 73 6 := ⟨fun _ => by kernel_rfl⟩
instance : TAgg Tryd.prog 73 true := ⟨fun _ => by kernel_rfl⟩
instance : TZero Tryd.prog 73 (Value.agg #[(Value.string ByteArray.empty), (Value.string ByteArray.empty), (Value.int .i64 0), (Value.int .i64 0), (Value.slice none 0 0), (Value.pointer none)]) := ⟨fun _ => by kernel_rfl⟩
instance : TInfo Tryd.prog 73 (Value.agg #[(Value.string ByteArray.empty), (Value.string ByteArray.empty), (Value.int .i64 0), (Value.int .i64 0), (Value.slice none 0 0), (Value.pointer none)]) 6 80 := ⟨by kernel_rfl⟩
instance : TField Tryd.prog 73 0 0 := ⟨fun _ _ _ => by kernel_rfl⟩
instance : TField Tryd.prog 73 1 5 := ⟨fun _ _ _ => by kernel_rfl⟩
instance : TSize Tryd.prog 74 1 := ⟨fun _ => by kernel_rfl⟩
instance : TAgg Tryd.prog 74 false := ⟨fun _ => by kernel_rfl⟩
instance : TZero Tryd.prog 74 (Value.nilFunc) := ⟨fun _ => by kernel_rfl⟩
instance : TInfo Tryd.prog 74 (Value.nilFunc) 1 8 := ⟨by kernel_rfl⟩
instance : TSize Tryd.prog 76 1 := ⟨fun _ => by kernel_rfl⟩
instance : TAgg Tryd.prog 76 false := ⟨fun _ => by kernel_rfl⟩
instance : TZero Tryd.prog 76 (Value.nilFunc) := ⟨fun _ => by kernel_rfl⟩
instance : TInfo Tryd.prog 76 (Value.nilFunc) 1 8 := ⟨by kernel_rfl⟩
instance : TSize Tryd.prog 77 1 := ⟨fun _ => by kernel_rfl⟩
instance : TAgg Tryd.prog 77 false := ⟨fun _ => by kernel_rfl⟩
instance : TZero Tryd.prog 77 (Value.slice none 0 0) := ⟨fun _ => by kernel_rfl⟩
instance : TInfo Tryd.prog 77 (Value.slice none 0 0) 1 24 := ⟨by kernel_rfl⟩
instance : TElem Tryd.prog 77 118 := ⟨by kernel_rfl⟩
instance : TSize Tryd.prog 79 1 := ⟨fun _ => by kernel_rfl⟩
instance : TAgg Tryd.prog 79 false := ⟨fun _ => by kernel_rfl⟩
instance : TZero Tryd.prog 79 (Value.nilFunc) := ⟨fun _ => by kernel_rfl⟩
instance : TInfo Tryd.prog 79 (Value.nilFunc) 1 8 := ⟨by kernel_rfl⟩
instance : TSize Tryd.prog 80 1 := ⟨fun _ => by kernel_rfl⟩
instance : TAgg Tryd.prog 80 false := ⟨fun _ => by kernel_rfl⟩
instance : TZero Tryd.prog 80 (Value.nilFunc) := ⟨fun _ => by kernel_rfl⟩
instance : TInfo Tryd.prog 80 (Value.nilFunc) 1 8 := ⟨by kernel_rfl⟩
instance : TSize Tryd.prog 81 1 := ⟨fun _ => by kernel_rfl⟩
instance : TAgg Tryd.prog 81 false := ⟨fun _ => by kernel_rfl⟩
instance : TZero Tryd.prog 81 (Value.nilFunc) := ⟨fun _ => by kernel_rfl⟩
instance : TInfo Tryd.prog 81 (Value.nilFunc) 1 8 := ⟨by kernel_rfl⟩
instance : TSize Tryd.prog 82 1 := ⟨fun _ => by kernel_rfl⟩
instance : TAgg Tryd.prog 82 false := ⟨fun _ => by kernel_rfl⟩
instance : TZero Tryd.prog 82 (Value.nilFunc) := ⟨fun _ => by kernel_rfl⟩
instance : TInfo Tryd.prog 82 (Value.nilFunc) 1 8 := ⟨by kernel_rfl⟩
instance : TSize Tryd.prog 83 1 := ⟨fun _ => by kernel_rfl⟩
instance : TAgg Tryd.prog 83 false := ⟨fun _ => by kernel_rfl⟩
instance : TZero Tryd.prog 83 (Value.nilFunc) := ⟨fun _ => by kernel_rfl⟩
instance : TInfo Tryd.prog 83 (Value.nilFunc) 1 8 := ⟨by kernel_rfl⟩
instance : TSize Tryd.prog 84 1 := ⟨fun _ => by kernel_rfl⟩
instance : TAgg Tryd.prog 84 false := ⟨fun _ => by kernel_rfl⟩
instance : TZero Tryd.prog 84 (Value.slice none 0 0) := ⟨fun _ => by kernel_rfl⟩
instance : TInfo Tryd.prog 84 (Value.slice none 0 0) 1 24 := ⟨by kernel_rfl⟩
instance : TElem Tryd.prog 84 85 := ⟨by kernel_rfl⟩
instance : TSize Tryd.prog 85 1 := ⟨fun _ => by kernel_rfl⟩
instance : TAgg Tryd.prog 85 false := ⟨fun _ => by kernel_rfl⟩
instance : TZero Tryd.prog 85 (Value.nilFunc) := ⟨fun _ => by kernel_rfl⟩
instance : TInfo Tryd.prog 85 (Value.nilFunc) 1 8 := ⟨by kernel_rfl⟩
instance : TSize Tryd.prog 86 1 := ⟨fun _ => by kernel_rfl⟩
instance : TAgg Tryd.prog 86 false := ⟨fun _ => by kernel_rfl⟩
instance : TZero Tryd.prog 86 (Value.nilFunc) := ⟨fun _ => by kernel_rfl⟩
instance : TInfo Tryd.prog 86 (Value.nilFunc) 1 8 := ⟨by kernel_rfl⟩
instance : TSize Tryd.prog 87 1 := ⟨fun _ => by kernel_rfl⟩
instance : TAgg Tryd.prog 87 false := ⟨fun _ => by kernel_rfl⟩
instance : TZero Tryd.prog 87 (Value.nilFunc) := ⟨fun _ => by kernel_rfl⟩
instance : TInfo Tryd.prog 87 (Value.nilFunc) 1 8 := ⟨by kernel_rfl⟩
instance : TSize Tryd.prog 88 3 := ⟨fun _ => by kernel_rfl⟩
instance : TAgg Tryd.prog 88 true := ⟨fun _ => by kernel_rfl⟩
instance : TZero Tryd.prog 88 (Value.agg #[(Value.int .i64 0), (Value.int .i64 0), (Value.int .i64 0)]) := ⟨fun _ => by kernel_rfl⟩
instance : TInfo Tryd.prog 88 (Value.agg #[(Value.int .i64 0), (Value.int .i64 0), (Value.int .i64 0)]) 3 24 := ⟨by kernel_rfl⟩
instance : TField Tryd.prog 88 0 0 := ⟨fun _ _ _ => by kernel_rfl⟩
instance : TField Tryd.prog 88 1 1 := ⟨fun _ _ _ => by kernel_rfl⟩
instance : TField Tryd.prog 88 2 2 := ⟨fun _ _ _ => by kernel_rfl⟩
instance : TSize Tryd.prog 89 3 := ⟨fun _ => by kernel_rfl⟩
instance : TAgg Tryd.prog 89 true := ⟨fun _ => by kernel_rfl⟩
instance : TZero Tryd.prog 89 (Value.agg #[(Value.int .i64 0), (Value.int .i64 0), (Value.int .i64 0)]) := ⟨fun _ => by kernel_rfl⟩
instance : TInfo Tryd.prog 89 (Value.agg #[(Value.int .i64 0), (Value.int .i64 0), (Value.int .i64 0)]) 3 24 := ⟨by kernel_rfl⟩
instance : TField Tryd.prog 89 0 0 := ⟨fun _ _ _ => by kernel_rfl⟩
instance : TField Tryd.prog 89 1 1 := ⟨fun _ _ _ => by kernel_rfl⟩
instance : TField Tryd.prog 89 2 2 := ⟨fun _ _ _ => by kernel_rfl⟩
instance : TSize Tryd.prog 91 1 := ⟨fun _ => by kernel_rfl⟩
instance : TAgg Tryd.prog 91 false := ⟨fun _ => by kernel_rfl⟩
instance : TZero Tryd.prog 91 (Value.nilFunc) := ⟨fun _ => by kernel_rfl⟩
instance : TInfo Tryd.prog 91 (Value.nilFunc) 1 8 := ⟨by kernel_rfl⟩
instance : TSize Tryd.prog 93 1 := ⟨fun _ => by kernel_rfl⟩
instance : TAgg Tryd.prog 93 false := ⟨fun _ => by kernel_rfl⟩
instance : TZero Tryd.prog 93 (Value.nilFunc) := ⟨fun _ => by kernel_rfl⟩
instance : TInfo Tryd.prog 93 (Value.nilFunc) 1 8 := ⟨by kernel_rfl⟩
instance : TSize Tryd.prog 94 1 := ⟨fun _ => by kernel_rfl⟩
instance : TAgg Tryd.prog 94 false := ⟨fun _ => by kernel_rfl⟩
instance : TZero Tryd.prog 94 (Value.slice none 0 0) := ⟨fun _ => by kernel_rfl⟩
instance : TInfo Tryd.prog 94 (Value.slice none 0 0) 1 24 := ⟨by kernel_rfl⟩
instance : TElem Tryd.prog 94 96 := ⟨by kernel_rfl⟩
instance : TSize Tryd.prog 95 33 := ⟨fun _ => by kernel_rfl⟩
instance : TAgg Tryd.prog 95 true := ⟨fun _ => by kernel_rfl⟩
instance : TZero Tryd.prog 95 (Value.agg (List.replicate 32 (Value.int .u8 0) ++ [(Value.int .i64 0)]).toArray) := ⟨fun _ => by kernel_rfl⟩
instance : TInfo Tryd.prog 95 (Value.agg (List.replicate 32 (Value.int .u8 0) ++ [(Value.int .i64 0)]).toArray) 33 40 := ⟨by kernel_rfl⟩
instance : TField Tryd.prog 95 0 0 := ⟨fun _ _ _ => by kernel_rfl⟩
instance : TField Tryd.prog 95 1 32 := ⟨fun _ _ _ => by kernel_rfl⟩
instance : TSize Tryd.prog 96 33 := ⟨fun _ => by kernel_rfl⟩
instance : TAgg Tryd.prog 96 true := ⟨fun _ => by kernel_rfl⟩
instance : TZero Tryd.prog 96 (Value.agg (List.replicate 32 (Value.int .u8 0) ++ [(Value.int .i64 0)]).toArray) := ⟨fun _ => by kernel_rfl⟩
instance : TInfo Tryd.prog 96 (Value.agg (List.replicate 32 (Value.int .u8 0) ++ [(Value.int .i64 0)]).toArray) 33 40 := ⟨by kernel_rfl⟩
instance : TField Tryd.prog 96 0 0 := ⟨fun _ _ _ => by kernel_rfl⟩
instance : TField Tryd.prog 96 1 32 := ⟨fun _ _ _ => by kernel_rfl⟩
instance : TSize Tryd.prog 97 1 := ⟨fun _ => by kernel_rfl⟩
instance : TAgg Tryd.prog 97 false := ⟨fun _ => by kernel_rfl⟩
instance : TZero Tryd.prog 97 (Value.nilFunc) := ⟨fun _ => by kernel_rfl⟩
instance : TInfo Tryd.prog 97 (Value.nilFunc) 1 8 := ⟨by kernel_rfl⟩
instance : TSize Tryd.prog 98 1 := ⟨fun _ => by kernel_rfl⟩
instance : TAgg Tryd.prog 98 false := ⟨fun _ => by kernel_rfl⟩
instance : TZero Tryd.prog 98 (Value.nilFunc) := ⟨fun _ => by kernel_rfl⟩
instance : TInfo Tryd.prog 98 (Value.nilFunc) 1 8 := ⟨by kernel_rfl⟩
instance : TSize Tryd.prog 99 1 := ⟨fun _ => by kernel_rfl⟩
instance : TAgg Tryd.prog 99 false := ⟨fun _ => by kernel_rfl⟩
instance : TZero Tryd.prog 99 (Value.nilFunc) := ⟨fun _ => by kernel_rfl⟩
instance : TInfo Tryd.prog 99 (Value.nilFunc) 1 8 := ⟨by kernel_rfl⟩
instance : TSize Tryd.prog 100 1 := ⟨fun _ => by kernel_rfl⟩
instance : TAgg Tryd.prog 100 false := ⟨fun _ => by kernel_rfl⟩
instance : TZero Tryd.prog 100 (Value.nilFunc) := ⟨fun _ => by kernel_rfl⟩
instance : TInfo Tryd.prog 100 (Value.nilFunc) 1 8 := ⟨by kernel_rfl⟩
instance : TSize Tryd.prog 101 1 := ⟨fun _ => by kernel_rfl⟩
instance : TAgg Tryd.prog 101 false := ⟨fun _ => by kernel_rfl⟩
instance : TZero Tryd.prog 101 (Value.slice none 0 0) := ⟨fun _ => by kernel_rfl⟩
instance : TInfo Tryd.prog 101 (Value.slice none 0 0) 1 24 := ⟨by kernel_rfl⟩
instance : TElem Tryd.prog 101 5 := ⟨by kernel_rfl⟩
instance : TSize Tryd.prog 102 1 := ⟨fun _ => by kernel_rfl⟩
instance : TAgg Tryd.prog 102 false := ⟨fun _ => by kernel_rfl⟩
instance : TZero Tryd.prog 102 (Value.nilFunc) := ⟨fun _ => by kernel_rfl⟩
instance : TInfo Tryd.prog 102 (Value.nilFunc) 1 8 := ⟨by kernel_rfl⟩
instance : TSize Tryd.prog 103 1 := ⟨fun _ => by kernel_rfl⟩
instance : TAgg Tryd.prog 103 false := ⟨fun _ => by kernel_rfl⟩
instance : TZero Tryd.prog 103 (Value.nilFunc) := ⟨fun _ => by kernel_rfl⟩
instance : TInfo Tryd.prog 103 (Value.nilFunc) 1 8 := ⟨by kernel_rfl⟩
instance : TSize Tryd.prog 104 1 := ⟨fun _ => by kernel_rfl⟩
instance : TAgg Tryd.prog 104 false := ⟨fun _ => by kernel_rfl⟩
instance : TZero Tryd.prog 104 (Value.slice none 0 0) := ⟨fun _ => by kernel_rfl⟩
instance : TInfo Tryd.prog 104 (Value.slice none 0 0) 1 24 := ⟨by kernel_rfl⟩
instance : TElem Tryd.prog 104 113 := ⟨by kernel_rfl⟩
instance : TSize Tryd.prog 105 2 := ⟨fun _ => by kernel_rfl⟩
instance : TAgg Tryd.prog 105 true := ⟨fun _ => by kernel_rfl⟩
instance : TZero Tryd.prog 105 (Value.agg #[(Value.string ByteArray.empty), (Value.slice none 0 0)]) := ⟨fun _ => by kernel_rfl⟩
instance : TInfo Tryd.prog 105 (Value.agg #[(Value.string ByteArray.empty), (Value.slice none 0 0)]) 2 40 := ⟨by kernel_rfl⟩
instance : TField Tryd.prog 105 0 0 := ⟨fun _ _ _ => by kernel_rfl⟩
instance : TField Tryd.prog 105 1 1 := ⟨fun _ _ _ => by kernel_rfl⟩
instance : TSize Tryd.prog 106 2 := ⟨fun _ => by kernel_rfl⟩
instance : TAgg Tryd.prog 106 true := ⟨fun _ => by kernel_rfl⟩
instance : TZero Tryd.prog 106 (Value.agg #[(Value.string ByteArray.empty), (Value.slice none 0 0)]) := ⟨fun _ => by kernel_rfl⟩
instance : TInfo Tryd.prog 106 (Value.agg #[(Value.string ByteArray.empty), (Value.slice none 0 0)]) 2 40 := ⟨by kernel_rfl⟩
instance : TField Tryd.prog 106 0 0 := ⟨fun _ _ _ => by kernel_rfl⟩
instance : TField Tryd.prog 106 1 1 := ⟨fun _ _ _ => by kernel_rfl⟩
instance : TSize Tryd.prog 107 1 := ⟨fun _ => by kernel_rfl⟩
instance : TAgg Tryd.prog 107 false := ⟨fun _ => by kernel_rfl⟩
instance : TZero Tryd.prog 107 (Value.nilFunc) := ⟨fun _ => by kernel_rfl⟩
instance : TInfo Tryd.prog 107 (Value.nilFunc) 1 8 := ⟨by kernel_rfl⟩
instance : TSize Tryd.prog 108 1 := ⟨fun _ => by kernel_rfl⟩
instance : TAgg Tryd.prog 108 false := ⟨fun _ => by kernel_rfl⟩
instance : TZero Tryd.prog 108 (Value.nilFunc) := ⟨fun _ => by kernel_rfl⟩
instance : TInfo Tryd.prog 108 (Value.nilFunc) 1 8 := ⟨by kernel_rfl⟩
instance : TSize Tryd.prog 109 1 := ⟨fun _ => by kernel_rfl⟩
instance : TAgg Tryd.prog 109 false := ⟨fun _ => by kernel_rfl⟩
instance : TZero Tryd.prog 109 (Value.pointer none) := ⟨fun _ => by kernel_rfl⟩
instance : TInfo Tryd.prog 109 (Value.pointer none) 1 8 := ⟨by kernel_rfl⟩
instance : TSize Tryd.prog 111 1 := ⟨fun _ => by kernel_rfl⟩
instance : TAgg Tryd.prog 111 false := ⟨fun _ => by kernel_rfl⟩
instance : TZero Tryd.prog 111 (Value.nilFunc) := ⟨fun _ => by kernel_rfl⟩
instance : TInfo Tryd.prog 111 (Value.nilFunc) 1 8 := ⟨by kernel_rfl⟩
instance : TSize Tryd.prog 112 2 := ⟨fun _ => by kernel_rfl⟩
instance : TAgg Tryd.prog 112 true := ⟨fun _ => by kernel_rfl⟩
instance : TZero Tryd.prog 112 (Value.agg #[(Value.int .i64 0), (Value.pointer none)]) := ⟨fun _ => by kernel_rfl⟩
instance : TInfo Tryd.prog 112 (Value.agg #[(Value.int .i64 0), (Value.pointer none)]) 2 16 := ⟨by kernel_rfl⟩
instance : TField Tryd.prog 112 0 0 := ⟨fun _ _ _ => by kernel_rfl⟩
instance : TField Tryd.prog 112 1 1 := ⟨fun _ _ _ => by kernel_rfl⟩
instance : TSize Tryd.prog 113 2 := ⟨fun _ => by kernel_rfl⟩
instance : TAgg Tryd.prog 113 true := ⟨fun _ => by kernel_rfl⟩
instance : TZero Tryd.prog 113 (Value.agg #[(Value.int .i64 0), (Value.pointer none)]) := ⟨fun _ => by kernel_rfl⟩
instance : TInfo Tryd.prog 113 (Value.agg #[(Value.int .i64 0), (Value.pointer none)]) 2 16 := ⟨by kernel_rfl⟩
instance : TField Tryd.prog 113 0 0 := ⟨fun _ _ _ => by kernel_rfl⟩
instance : TField Tryd.prog 113 1 1 := ⟨fun _ _ _ => by kernel_rfl⟩
instance : TSize Tryd.prog 114 1 := ⟨fun _ => by kernel_rfl⟩
instance : TAgg Tryd.prog 114 false := ⟨fun _ => by kernel_rfl⟩
instance : TZero Tryd.prog 114 (Value.slice none 0 0) := ⟨fun _ => by kernel_rfl⟩
instance : TInfo Tryd.prog 114 (Value.slice none 0 0) 1 24 := ⟨by kernel_rfl⟩
instance : TElem Tryd.prog 114 145 := ⟨by kernel_rfl⟩
instance : TSize Tryd.prog 115 2 := ⟨fun _ => by kernel_rfl⟩
instance : TAgg Tryd.prog 115 true := ⟨fun _ => by kernel_rfl⟩
instance : TZero Tryd.prog 115 (Value.agg #[(Value.string ByteArray.empty), (Value.slice none 0 0)]) := ⟨fun _ => by kernel_rfl⟩
instance : TInfo Tryd.prog 115 (Value.agg #[(Value.string ByteArray.empty), (Value.slice none 0 0)]) 2 40 := ⟨by kernel_rfl⟩
instance : TField Tryd.prog 115 0 0 := ⟨fun _ _ _ => by kernel_rfl⟩
instance : TField Tryd.prog 115 1 1 := ⟨fun _ _ _ => by kernel_rfl⟩
instance : TSize Tryd.prog 116 2 := ⟨fun _ => by kernel_rfl⟩
instance : TAgg Tryd.prog 116 true := ⟨fun _ => by kernel_rfl⟩
instance : TZero Tryd.prog 116 (Value.agg #[(Value.string ByteArray.empty), (Value.slice none 0 0)]) := ⟨fun _ => by kernel_rfl⟩
instance : TInfo Tryd.prog 116 (Value.agg #[(Value.string ByteArray.empty), (Value.slice none 0 0)]) 2 40 := ⟨by kernel_rfl⟩
instance : TField Tryd.prog 116 0 0 := ⟨fun _ _ _ => by kernel_rfl⟩
instance : TField Tryd.prog 116 1 1 := ⟨fun _ _ _ => by kernel_rfl⟩
instance : TSize Tryd.prog 117 3 := ⟨fun _ => by kernel_rfl⟩
instance : TAgg Tryd.prog 117 true := ⟨fun _ => by kernel_rfl⟩
instance : TZero Tryd.prog 117 (Value.agg #[(Value.int .i64 0), (Value.string ByteArray.empty), (Value.slice none 0 0)]) := ⟨fun _ => by kernel_rfl⟩
instance : TInfo Tryd.prog 117 (Value.agg #[(Value.int .i64 0), (Value.string ByteArray.empty), (Value.slice none 0 0)]) 3 48 := ⟨by kernel_rfl⟩
instance : TField Tryd.prog 117 0 0 := ⟨fun _ _ _ => by kernel_rfl⟩
instance : TField Tryd.prog 117 1 1 := ⟨fun _ _ _ => by kernel_rfl⟩
instance : TSize Tryd.prog 118 3 := ⟨fun _ => by kernel_rfl⟩
instance : TAgg Tryd.prog 118 true := ⟨fun _ => by kernel_rfl⟩
instance : TZero Tryd.prog 118 (Value.agg #[(Value.int .i64 0), (Value.string ByteArray.empty), (Value.slice none 0 0)]) := ⟨fun _ => by kernel_rfl⟩
instance : TInfo Tryd.prog 118 (Value.agg #[(Value.int .i64 0), (Value.string ByteArray.empty), (Value.slice none 0 0)]) 3 48 := ⟨by kernel_rfl⟩
instance : TField Tryd.prog 118 0 0 := ⟨fun _ _ _ => by kernel_rfl⟩
instance : TField Tryd.prog 118 1 1 := ⟨fun _ _ _ => by kernel_rfl⟩
instance : TSize Tryd.prog 120 1 := ⟨fun _ => by kernel_rfl⟩
instance : TAgg Tryd.prog 120 false := ⟨fun _ => by kernel_rfl⟩
instance : TZero Tryd.prog 120 (Value.nilFunc) := ⟨fun _ => by kernel_rfl⟩
instance : TInfo Tryd.prog 120 (Value.nilFunc) 1 8 := ⟨by kernel_rfl⟩
instance : TSize Tryd.prog 121 1 := ⟨fun _ => by kernel_rfl⟩
instance : TAgg Tryd.prog 121 false := ⟨fun _ => by kernel_rfl⟩
instance : TZero Tryd.prog 121 (Value.nilFunc) := ⟨fun _ => by kernel_rfl⟩
instance : TInfo Tryd.prog 121 (Value.nilFunc) 1 8 := ⟨by kernel_rfl⟩
instance : TSize Tryd.prog 122 1 := ⟨fun _ => by kernel_rfl⟩
instance : TAgg Tryd.prog 122 false := ⟨fun _ => by kernel_rfl⟩
instance : TZero Tryd.prog 122 (Value.nilFunc) := ⟨fun _ => by kernel_rfl⟩
instance : TInfo Tryd.prog 122 (Value.nilFunc) 1 8 := ⟨by kernel_rfl⟩
instance : TSize Tryd.prog 123 1 := ⟨fun _ => by kernel_rfl⟩
instance : TAgg Tryd.prog 123 false := ⟨fun _ => by kernel_rfl⟩
instance : TZero Tryd.prog 123 (Value.nilFunc) := ⟨fun _ => by kernel_rfl⟩
instance : TInfo Tryd.prog 123 (Value.nilFunc) 1 8 := ⟨by kernel_rfl⟩
instance : TSize Tryd.prog 124 1 := ⟨fun _ => by kernel_rfl⟩
instance : TAgg Tryd.prog 124 false := ⟨fun _ => by kernel_rfl⟩
instance : TZero Tryd.prog 124 (Value.nilFunc) := ⟨fun _ => by kernel_rfl⟩
instance : TInfo Tryd.prog 124 (Value.nilFunc) 1 8 := ⟨by kernel_rfl⟩
instance : TSize Tryd.prog 125 1 := ⟨fun _ => by kernel_rfl⟩
instance : TAgg Tryd.prog 125 false := ⟨fun _ => by kernel_rfl⟩
instance : TZero Tryd.prog 125 (Value.nilFunc) := ⟨fun _ => by kernel_rfl⟩
instance : TInfo Tryd.prog 125 (Value.nilFunc) 1 8 := ⟨by kernel_rfl⟩
instance : TSize Tryd.prog 126 1 := ⟨fun _ => by kernel_rfl⟩
instance : TAgg Tryd.prog 126 false := ⟨fun _ => by kernel_rfl⟩
instance : TZero Tryd.prog 126 (Value.nilFunc) := ⟨fun _ => by kernel_rfl⟩
instance : TInfo Tryd.prog 126 (Value.nilFunc) 1 8 := ⟨by kernel_rfl⟩
instance : TSize Tryd.prog 127 1 := ⟨fun _ => by kernel_rfl⟩
instance : TAgg Tryd.prog 127 false := ⟨fun _ => by kernel_rfl⟩
instance : TZero Tryd.prog 127 (Value.nilFunc) := ⟨fun _ => by kernel_rfl⟩
instance : TInfo Tryd.prog 127 (Value.nilFunc) 1 8 := ⟨by kernel_rfl⟩
instance : TSize Tryd.prog 128 1 := ⟨fun _ => by kernel_rfl⟩
instance : TAgg Tryd.prog 128 false := ⟨fun _ => by kernel_rfl⟩
instance : TZero Tryd.prog 128 (Value.int .u64 0) := ⟨fun _ => by kernel_rfl⟩
instance : TInfo Tryd.prog 128 (Value.int .u64 0) 1 8 := ⟨by kernel_rfl⟩
instance : TSize Tryd.prog 129 1 := ⟨fun _ => by kernel_rfl⟩
instance : TAgg Tryd.prog 129 false := ⟨fun _ => by kernel_rfl⟩
instance : TZero Tryd.prog 129 (Value.slice none 0 0) := ⟨fun _ => by kernel_rfl⟩
instance : TInfo Tryd.prog 129 (Value.slice none 0 0) 1 24 := ⟨by kernel_rfl⟩
instance : TElem Tryd.prog 129 3 := ⟨by kernel_rfl⟩
instance : TSize Tryd.prog 130 1 := ⟨fun _ => by kernel_rfl⟩
instance : TAgg Tryd.prog 130 false := ⟨fun _ => by kernel_rfl⟩
instance : TZero Tryd.prog 130 (Value.nilFunc) := ⟨fun _ => by kernel_rfl⟩
instance : TInfo Tryd.prog 130 (Value.nilFunc) 1 8 := ⟨by kernel_rfl⟩
instance : TSize Tryd.prog 131 1 := ⟨fun _ => by kernel_rfl⟩
instance : TAgg Tryd.prog 131 false := ⟨fun _ => by kernel_rfl⟩
instance : TZero Tryd.prog 131 (Value.nilFunc) := ⟨fun _ => by kernel_rfl⟩
instance : TInfo Tryd.prog 131 (Value.nilFunc) 1 8 := ⟨by kernel_rfl⟩
instance : TSize Tryd.prog 132 1 := ⟨fun _ => by kernel_rfl⟩
instance : TAgg Tryd.prog 132 false := ⟨fun _ => by kernel_rfl⟩
instance : TZero Tryd.prog 132 (Value.nilFunc) := ⟨fun _ => by kernel_rfl⟩
instance : TInfo Tryd.prog 132 (Value.nilFunc) 1 8 := ⟨by kernel_rfl⟩
instance : TSize Tryd.prog 133 1 := ⟨fun _ => by kernel_rfl⟩
instance : TAgg Tryd.prog 133 false := ⟨fun _ => by kernel_rfl⟩
instance : TZero Tryd.prog 133 (Value.slice none 0 0) := ⟨fun _ => by kernel_rfl⟩
instance : TInfo Tryd.prog 133 (Value.slice none 0 0) 1 24 := ⟨by kernel_rfl⟩
instance : TElem Tryd.prog 133 181 := ⟨by kernel_rfl⟩
instance : TSize Tryd.prog 134 2 := ⟨fun _ => by kernel_rfl⟩
instance : TAgg Tryd.prog 134 true := ⟨fun _ => by kernel_rfl⟩
instance : TZero Tryd.prog 134 (Value.agg #[(Value.string ByteArray.empty), (Value.slice none 0 0)]) := ⟨fun _ => by kernel_rfl⟩
instance : TInfo Tryd.prog 134 (Value.agg #[(Value.string ByteArray.empty), (Value.slice none 0 0)]) 2 40 := ⟨by kernel_rfl⟩
instance : TField Tryd.prog 134 0 0 := ⟨fun _ _ _ => by kernel_rfl⟩
instance : TField Tryd.prog 134 1 1 := ⟨fun _ _ _ => by kernel_rfl⟩
instance : TSize Tryd.prog 135 2 := ⟨fun _ => by kernel_rfl⟩
instance : TAgg Tryd.prog 135 true := ⟨fun _ => by kernel_rfl⟩
instance : TZero Tryd.prog 135 (Value.agg #[(Value.string ByteArray.empty), (Value.slice none 0 0)]) := ⟨fun _ => by kernel_rfl⟩
instance : TInfo Tryd.prog 135 (Value.agg #[(Value.string ByteArray.empty), (Value.slice none 0 0)]) 2 40 := ⟨by kernel_rfl⟩
instance : TField Tryd.prog 135 0 0 := ⟨fun _ _ _ => by kernel_rfl⟩
instance : TField Tryd.prog 135 1 1 := ⟨fun _ _ _ => by kernel_rfl⟩
instance : TSize Tryd.prog 136 1 := ⟨fun _ => by kernel_rfl⟩
instance : TAgg Tryd.prog 136 false := ⟨fun _ => by kernel_rfl⟩
instance : TZero Tryd.prog 136 (Value.int .u8 0) := ⟨fun _ => by kernel_rfl⟩
instance : TInfo Tryd.prog 136 (Value.int .u8 0) 1 1 := ⟨by kernel_rfl⟩
instance : TSize Tryd.prog 137 2 := ⟨fun _ => by kernel_rfl⟩
instance : TAgg Tryd.prog 137 true := ⟨fun _ => by kernel_rfl⟩
instance : TZero Tryd.prog 137 (Value.agg #[(Value.string ByteArray.empty), (Value.bool false)]) := ⟨fun _ => by kernel_rfl⟩
instance : TInfo Tryd.prog 137 (Value.agg #[(Value.string ByteArray.empty), (Value.bool false)]) 2 24 := ⟨by kernel_rfl⟩
instance : TField Tryd.prog 137 0 0 := ⟨fun _ _ _ => by kernel_rfl⟩
instance : TField Tryd.prog 137 1 1 := ⟨fun _ _ _ => by kernel_rfl⟩
instance : TSize Tryd.prog 138 2 := ⟨fun _ => by kernel_rfl⟩
instance : TAgg Tryd.prog 138 true := ⟨fun _ => by kernel_rfl⟩
instance : TZero Tryd.prog 138 (Value.agg #[(Value.string ByteArray.empty), (Value.bool false)]) := ⟨fun _ => by kernel_rfl⟩
instance : TInfo Tryd.prog 138 (Value.agg #[(Value.string ByteArray.empty), (Value.bool false)]) 2 24 := ⟨by kernel_rfl⟩
instance : TField Tryd.prog 138 0 0 := ⟨fun _ _ _ => by kernel_rfl⟩
instance : TField Tryd.prog 138 1 1 := ⟨fun _ _ _ => by kernel_rfl⟩
instance : TSize Tryd.prog 139 0 := ⟨fun _ => by kernel_rfl⟩
instance : TAgg Tryd.prog 139 true := ⟨fun _ => by kernel_rfl⟩
instance : TZero Tryd.prog 139 (Value.agg #[]) := ⟨fun _ => by kernel_rfl⟩
instance : TInfo Tryd.prog 139 (Value.agg #[]) 0 0 := ⟨by kernel_rfl⟩
instance : TSize Tryd.prog 140 0 := ⟨fun _ => by kernel_rfl⟩
instance : TAgg Tryd.prog 140 true := ⟨fun _ => by kernel_rfl⟩
instance : TZero Tryd.prog 140 (Value.agg #[]) := ⟨fun _ => by kernel_rfl⟩
instance : TInfo Tryd.prog 140 (Value.agg #[]) 0 0 := ⟨by kernel_rfl⟩
instance : TSize Tryd.prog 142 1 := ⟨fun _ => by kernel_rfl⟩
instance : TAgg Tryd.prog 142 false := ⟨fun _ => by kernel_rfl⟩
instance : TZero Tryd.prog 142 (Value.nilFunc) := ⟨fun _ => by kernel_rfl⟩
instance : TInfo Tryd.prog 142 (Value.nilFunc) 1 8 := ⟨by kernel_rfl⟩
instance : TSize Tryd.prog 143 128 := ⟨fun _ => by kernel_rfl⟩
instance : TAgg Tryd.prog 143 true := ⟨fun _ => by kernel_rfl⟩
instance : TZero Tryd.prog 143 (Value.agg (List.replicate 128 (Value.bool false)).toArray) := ⟨fun _ => by kernel_rfl⟩
instance : TInfo Tryd.prog 143 (Value.agg (List.replicate 128 (Value.bool false)).toArray) 128 128 := ⟨by kernel_rfl⟩
instance : TSize Tryd.prog 144 129 := ⟨fun _ => by kernel_rfl⟩
instance : TAgg Tryd.prog 144 true := ⟨fun _ => by kernel_rfl⟩
instance : TZero Tryd.prog 144 (Value.agg (List.replicate 129 (Value.bool false)).toArray) := ⟨fun _ => by kernel_rfl⟩
instance : TInfo Tryd.prog 144 (Value.agg (List.replicate 129 (Value.bool false)).toArray) 129 129 := ⟨by kernel_rfl⟩
instance : TField Tryd.prog 144 0 0 := ⟨fun _ _ _ => by kernel_rfl⟩
instance : TField Tryd.prog 144 1 1 := ⟨fun _ _ _ => by kernel_rfl⟩
instance : TSize Tryd.prog 145 129 := ⟨fun _ => by kernel_rfl⟩
instance : TAgg Tryd.prog 145 true := ⟨fun _ => by kernel_rfl⟩
instance : TZero Tryd.prog 145 (Value.agg (List.replicate 129 (Value.bool false)).toArray) := ⟨fun _ => by kernel_rfl⟩
instance : TInfo Tryd.prog 145 (Value.agg (List.replicate 129 (Value.bool false)).toArray) 129 129 := ⟨by kernel_rfl⟩
instance : TField Tryd.prog 145 0 0 := ⟨fun _ _ _ => by kernel_rfl⟩
instance : TField Tryd.prog 145 1 1 := ⟨fun _ _ _ => by kernel_rfl⟩
instance : TSize Tryd.prog 147 1 := ⟨fun _ => by kernel_rfl⟩
instance : TAgg Tryd.prog 147 false := ⟨fun _ => by kernel_rfl⟩
instance : TZero Tryd.prog 147 (Value.nilFunc) := ⟨fun _ => by kernel_rfl⟩
instance : TInfo Tryd.prog 147 (Value.nilFunc) 1 8 := ⟨by kernel_rfl⟩
instance : TSize Tryd.prog 148 1 := ⟨fun _ => by kernel_rfl⟩
instance : TAgg Tryd.prog 148 false := ⟨fun _ => by kernel_rfl⟩
instance : TZero Tryd.prog 148 (Value.nilFunc) := ⟨fun _ => by kernel_rfl⟩
instance : TInfo Tryd.prog 148 (Value.nilFunc) 1 8 := ⟨by kernel_rfl⟩
instance : TSize Tryd.prog 149 1 := ⟨fun _ => by kernel_rfl⟩
instance : TAgg Tryd.prog 149 false := ⟨fun _ => by kernel_rfl⟩
instance : TZero Tryd.prog 149 (Value.nilFunc) := ⟨fun _ => by kernel_rfl⟩
instance : TInfo Tryd.prog 149 (Value.nilFunc) 1 8 := ⟨by kernel_rfl⟩
instance : TSize Tryd.prog 150 1 := ⟨fun _ => by kernel_rfl⟩
instance : TAgg Tryd.prog 150 false := ⟨fun _ => by kernel_rfl⟩
instance : TZero Tryd.prog 150 (Value.nilFunc) := ⟨fun _ => by kernel_rfl⟩
instance : TInfo Tryd.prog 150 (Value.nilFunc) 1 8 := ⟨by kernel_rfl⟩
instance : TSize Tryd.prog 151 1 := ⟨fun _ => by kernel_rfl⟩
instance : TAgg Tryd.prog 151 false := ⟨fun _ => by kernel_rfl⟩
instance : TZero Tryd.prog 151 (Value.int .i64 0) := ⟨fun _ => by kernel_rfl⟩
instance : TInfo Tryd.prog 151 (Value.int .i64 0) 1 8 := ⟨by kernel_rfl⟩
instance : TSize Tryd.prog 153 1 := ⟨fun _ => by kernel_rfl⟩
instance : TAgg Tryd.prog 153 false := ⟨fun _ => by kernel_rfl⟩
instance : TZero Tryd.prog 153 (Value.nilFunc) := ⟨fun _ => by kernel_rfl⟩
instance : TInfo Tryd.prog 153 (Value.nilFunc) 1 8 := ⟨by kernel_rfl⟩
instance : TSize Tryd.prog 154 1 := ⟨fun _ => by kernel_rfl⟩
instance : TAgg Tryd.prog 154 false := ⟨fun _ => by kernel_rfl⟩
instance : TZero Tryd.prog 154 (Value.nilFunc) := ⟨fun _ => by kernel_rfl⟩
instance : TInfo Tryd.prog 154 (Value.nilFunc) 1 8 := ⟨by kernel_rfl⟩
instance : TSize Tryd.prog 155 1 := ⟨fun _ => by kernel_rfl⟩
instance : TAgg Tryd.prog 155 false := ⟨fun _ => by kernel_rfl⟩
instance : TZero Tryd.prog 155 (Value.nilFunc) := ⟨fun _ => by kernel_rfl⟩
instance : TInfo Tryd.prog 155 (Value.nilFunc) 1 8 := ⟨by kernel_rfl⟩
instance : TSize Tryd.prog 156 1 := ⟨fun _ => by kernel_rfl⟩
instance : TAgg Tryd.prog 156 false := ⟨fun _ => by kernel_rfl⟩
instance : TZero Tryd.prog 156 (Value.nilFunc) := ⟨fun _ => by kernel_rfl⟩
instance : TInfo Tryd.prog 156 (Value.nilFunc) 1 8 := ⟨by kernel_rfl⟩
instance : TSize Tryd.prog 157 1 := ⟨fun _ => by kernel_rfl⟩
instance : TAgg Tryd.prog 157 false := ⟨fun _ => by kernel_rfl⟩
instance : TZero Tryd.prog 157 (Value.nilFunc) := ⟨fun _ => by kernel_rfl⟩
instance : TInfo Tryd.prog 157 (Value.nilFunc) 1 8 := ⟨by kernel_rfl⟩
instance : TSize Tryd.prog 158 1 := ⟨fun _ => by kernel_rfl⟩
instance : TAgg Tryd.prog 158 false := ⟨fun _ => by kernel_rfl⟩
instance : TZero Tryd.prog 158 (Value.int .u32 0) := ⟨fun _ => by kernel_rfl⟩
instance : TInfo Tryd.prog 158 (Value.int .u32 0) 1 4 := ⟨by kernel_rfl⟩
instance : TSize Tryd.prog 159 1 := ⟨fun _ => by kernel_rfl⟩
instance : TAgg Tryd.prog 159 false := ⟨fun _ => by kernel_rfl⟩
instance : TZero Tryd.prog 159 (Value.nilFunc) := ⟨fun _ => by kernel_rfl⟩
instance : TInfo Tryd.prog 159 (Value.nilFunc) 1 8 := ⟨by kernel_rfl⟩
instance : TSize Tryd.prog 160 1 := ⟨fun _ => by kernel_rfl⟩
instance : TAgg Tryd.prog 160 false := ⟨fun _ => by kernel_rfl⟩
instance : TZero Tryd.prog 160 (Value.int .u64 0) := ⟨fun _ => by kernel_rfl⟩
instance : TInfo Tryd.prog 160 (Value.int .u64 0) 1 8 := ⟨by kernel_rfl⟩
instance : TSize Tryd.prog 161 1 := ⟨fun _ => by kernel_rfl⟩
instance : TAgg Tryd.prog 161 false := ⟨fun _ => by kernel_rfl⟩
instance : TZero Tryd.prog 161 (Value.nilFunc) := ⟨fun _ => by kernel_rfl⟩
instance : TInfo Tryd.prog 161 (Value.nilFunc) 1 8 := ⟨by kernel_rfl⟩
instance : TSize Tryd.prog 162 1 := ⟨fun _ => by kernel_rfl⟩
instance : TAgg Tryd.prog 162 false := ⟨fun _ => by kernel_rfl⟩
instance : TZero Tryd.prog 162 (Value.nilFunc) := ⟨fun _ => by kernel_rfl⟩
instance : TInfo Tryd.prog 162 (Value.nilFunc) 1 8 := ⟨by kernel_rfl⟩
instance : TSize Tryd.prog 163 1 := ⟨fun _ => by kernel_rfl⟩
instance : TAgg Tryd.prog 163 false := ⟨fun _ => by kernel_rfl⟩
instance : TZero Tryd.prog 163 (Value.nilFunc) := ⟨fun _ => by kernel_rfl⟩
instance : TInfo Tryd.prog 163 (Value.nilFunc) 1 8 := ⟨by kernel_rfl⟩
instance : TSize Tryd.prog 164 1 := ⟨fun _ => by kernel_rfl⟩
instance : TAgg Tryd.prog 164 false := ⟨fun _ => by kernel_rfl⟩
instance : TZero Tryd.prog 164 (Value.nilFunc) := ⟨fun _ => by kernel_rfl⟩
instance : TInfo Tryd.prog 164 (Value.nilFunc) 1 8 := ⟨by kernel_rfl⟩
instance : TSize Tryd.prog 165 1 := ⟨fun _ => by kernel_rfl⟩
instance : TAgg Tryd.prog 165 false := ⟨fun _ => by kernel_rfl⟩
instance : TZero Tryd.prog 165 (Value.nilFunc) := ⟨fun _ => by kernel_rfl⟩
instance : TInfo Tryd.prog 165 (Value.nilFunc) 1 8 := ⟨by kernel_rfl⟩
instance : TSize Tryd.prog 166 1 := ⟨fun _ => by kernel_rfl⟩
instance : TAgg Tryd.prog 166 false := ⟨fun _ => by kernel_rfl⟩
instance : TZero Tryd.prog 166 (Value.slice none 0 0) := ⟨fun _ => by kernel_rfl⟩
instance : TInfo Tryd.prog 166 (Value.slice none 0 0) 1 24 := ⟨by kernel_rfl⟩
instance : TElem Tryd.prog 166 4 := ⟨by kernel_rfl⟩
instance : TSize Tryd.prog 167 1 := ⟨fun _ => by kernel_rfl⟩
instance : TAgg Tryd.prog 167 false := ⟨fun _ => by kernel_rfl⟩
instance : TZero Tryd.prog 167 (Value.nilFunc) := ⟨fun _ => by kernel_rfl⟩
instance : TInfo Tryd.prog 167 (Value.nilFunc) 1 8 := ⟨by kernel_rfl⟩
instance : TSize Tryd.prog 168 1 := ⟨fun _ => by kernel_rfl⟩
instance : TAgg Tryd.prog 168 false := ⟨fun _ => by kernel_rfl⟩
instance : TZero Tryd.prog 168 (Value.nilFunc) := ⟨fun _ => by kernel_rfl⟩
instance : TInfo Tryd.prog 168 (Value.nilFunc) 1 8 := ⟨by kernel_rfl⟩
instance : TSize Tryd.prog 169 1 := ⟨fun _ => by kernel_rfl⟩
instance : TAgg Tryd.prog 169 false := ⟨fun _ => by kernel_rfl⟩
instance : TZero Tryd.prog 169 (Value.nilFunc) := ⟨fun _ => by kernel_rfl⟩
instance : TInfo Tryd.prog 169 (Value.nilFunc) 1 8 := ⟨by kernel_rfl⟩
instance : TSize Tryd.prog 170 1 := ⟨fun _ => by kernel_rfl⟩
instance : TAgg Tryd.prog 170 false := ⟨fun _ => by kernel_rfl⟩
instance : TZero Tryd.prog 170 (Value.int .u64 0) := ⟨fun _ => by kernel_rfl⟩
instance : TInfo Tryd.prog 170 (Value.int .u64 0) 1 8 := ⟨by kernel_rfl⟩
instance : TSize Tryd.prog 171 1 := ⟨fun _ => by kernel_rfl⟩
instance : TAgg Tryd.prog 171 false := ⟨fun _ => by kernel_rfl⟩
instance : TZero Tryd.prog 171 (Value.nilFunc) := ⟨fun _ => by kernel_rfl⟩
instance : TInfo Tryd.prog 171 (Value.nilFunc) 1 8 := ⟨by kernel_rfl⟩
instance : TSize Tryd.prog 172 1 := ⟨fun _ => by kernel_rfl⟩
instance : TAgg Tryd.prog 172 false := ⟨fun _ => by kernel_rfl⟩
instance : TZero Tryd.prog 172 (Value.nilFunc) := ⟨fun _ => by kernel_rfl⟩
instance : TInfo Tryd.prog 172 (Value.nilFunc) 1 8 := ⟨by kernel_rfl⟩
instance : TSize Tryd.prog 173 1 := ⟨fun _ => by kernel_rfl⟩
instance : TAgg Tryd.prog 173 false := ⟨fun _ => by kernel_rfl⟩
instance : TZero Tryd.prog 173 (Value.nilFunc) := ⟨fun _ => by kernel_rfl⟩
instance : TInfo Tryd.prog 173 (Value.nilFunc) 1 8 := ⟨by kernel_rfl⟩
instance : TSize Tryd.prog 174 1 := ⟨fun _ => by kernel_rfl⟩
instance : TAgg Tryd.prog 174 false := ⟨fun _ => by kernel_rfl⟩
instance : TZero Tryd.prog 174 (Value.pointer none) := ⟨fun _ => by kernel_rfl⟩
instance : TInfo Tryd.prog 174 (Value.pointer none) 1 8 := ⟨by kernel_rfl⟩
instance : TSize Tryd.prog 175 1 := ⟨fun _ => by kernel_rfl⟩
instance : TAgg Tryd.prog 175 false := ⟨fun _ => by kernel_rfl⟩
instance : TZero Tryd.prog 175 (Value.nilFunc) := ⟨fun _ => by kernel_rfl⟩
instance : TInfo Tryd.prog 175 (Value.nilFunc) 1 8 := ⟨by kernel_rfl⟩
instance : TSize Tryd.prog 177 1 := ⟨fun _ => by kernel_rfl⟩
instance : TAgg Tryd.prog 177 false := ⟨fun _ => by kernel_rfl⟩
instance : TZero Tryd.prog 177 (Value.nilFunc) := ⟨fun _ => by kernel_rfl⟩
instance : TInfo Tryd.prog 177 (Value.nilFunc) 1 8 := ⟨by kernel_rfl⟩
instance : TSize Tryd.prog 178 1 := ⟨fun _ => by kernel_rfl⟩
instance : TAgg Tryd.prog 178 false := ⟨fun _ => by kernel_rfl⟩
instance : TZero Tryd.prog 178 (Value.nilFunc) := ⟨fun _ => by kernel_rfl⟩
instance : TInfo Tryd.prog 178 (Value.nilFunc) 1 8 := ⟨by kernel_rfl⟩
instance : TSize Tryd.prog 179 1 := ⟨fun _ => by kernel_rfl⟩
instance : TAgg Tryd.prog 179 false := ⟨fun _ => by kernel_rfl⟩
instance : TZero Tryd.prog 179 (Value.nilFunc) := ⟨fun _ => by kernel_rfl⟩
instance : TInfo Tryd.prog 179 (Value.nilFunc) 1 8 := ⟨by kernel_rfl⟩
instance : TSize Tryd.prog 180 1 := ⟨fun _ => by kernel_rfl⟩
instance : TAgg Tryd.prog 180 false := ⟨fun _ => by kernel_rfl⟩
instance : TZero Tryd.prog 180 (Value.nilIface) := ⟨fun _ => by kernel_rfl⟩
instance : TInfo Tryd.prog 180 (Value.nilIface) 1 16 := ⟨by kernel_rfl⟩
instance : TSize Tryd.prog 181 1 := ⟨fun _ => by kernel_rfl⟩
instance : TAgg Tryd.prog 181 false := ⟨fun _ => by kernel_rfl⟩
instance : TZero Tryd.prog 181 (Value.nilIface) := ⟨fun _ => by kernel_rfl⟩
instance : TInfo Tryd.prog 181 (Value.nilIface) 1 16 := ⟨by kernel_rfl⟩
instance : TSize Tryd.prog 182 1 := ⟨fun _ => by kernel_rfl⟩
instance : TAgg Tryd.prog 182 false := ⟨fun _ => by kernel_rfl⟩
instance : TZero Tryd.prog 182 (Value.pointer none) := ⟨fun _ => by kernel_rfl⟩
instance : TInfo Tryd.prog 182 (Value.pointer none) 1 8 := ⟨by kernel_rfl⟩
instance : TSize Tryd.prog 183 1 := ⟨fun _ => by kernel_rfl⟩
instance : TAgg Tryd.prog 183 false := ⟨fun _ => by kernel_rfl⟩
instance : TZero Tryd.prog 183 (Value.nilFunc) := ⟨fun _ => by kernel_rfl⟩
instance : TInfo Tryd.prog 183 (Value.nilFunc) 1 8 := ⟨by kernel_rfl⟩
instance : TSize Tryd.prog 184 256 := ⟨fun _ => by kernel_rfl⟩
instance : TAgg Tryd.prog 184 true := ⟨fun _ => by kernel_rfl⟩
instance : TZero Tryd.prog 184 (Value.agg (List.replicate 256 (Value.int .u8 0)).toArray) := ⟨fun _ => by kernel_rfl⟩
instance : TInfo Tryd.prog 184 (Value.agg (List.replicate 256 (Value.int .u8 0)).toArray) 256 256 := ⟨by kernel_rfl⟩
instance : TSize Tryd.prog 185 2 := ⟨fun _ => by kernel_rfl⟩
instance : TAgg Tryd.prog 185 true := ⟨fun _ => by kernel_rfl⟩
instance : TZero Tryd.prog 185 (Value.agg #[(Value.int .u8 0), (Value.int .u8 0)]) := ⟨fun _ => by kernel_rfl⟩
instance : TInfo Tryd.prog 185 (Value.agg #[(Value.int .u8 0), (Value.int .u8 0)]) 2 2 := ⟨by kernel_rfl⟩
instance : TField Tryd.prog 185 0 0 := ⟨fun _ _ _ => by kernel_rfl⟩
instance : TField Tryd.prog 185 1 1 := ⟨fun _ _ _ => by kernel_rfl⟩
instance : TSize Tryd.prog 186 2 := ⟨fun _ => by kernel_rfl⟩
instance : TAgg Tryd.prog 186 true := ⟨fun _ => by kernel_rfl⟩
instance : TZero Tryd.prog 186 (Value.agg #[(Value.int .u8 0), (Value.int .u8 0)]) := ⟨fun _ => by kernel_rfl⟩
instance : TInfo Tryd.prog 186 (Value.agg #[(Value.int .u8 0), (Value.int .u8 0)]) 2 2 := ⟨by kernel_rfl⟩
instance : TField Tryd.prog 186 0 0 := ⟨fun _ _ _ => by kernel_rfl⟩
instance : TField Tryd.prog 186 1 1 := ⟨fun _ _ _ => by kernel_rfl⟩
instance : TSize Tryd.prog 187 32 := ⟨fun _ => by kernel_rfl⟩
instance : TAgg Tryd.prog 187 true := ⟨fun _ => by kernel_rfl⟩
instance : TZero Tryd.prog 187 (Value.agg (List.replicate 32 (Value.int .u8 0)).toArray) := ⟨fun _ => by kernel_rfl⟩
instance : TInfo Tryd.prog 187 (Value.agg (List.replicate 32 (Value.int .u8 0)).toArray) 32 32 := ⟨by kernel_rfl⟩
instance : TSize Tryd.prog 189 1 := ⟨fun _ => by kernel_rfl⟩
instance : TAgg Tryd.prog 189 false := ⟨fun _ => by kernel_rfl⟩
instance : TZero Tryd.prog 189 (Value.nilFunc) := ⟨fun _ => by kernel_rfl⟩
instance : TInfo Tryd.prog 189 (Value.nilFunc) 1 8 := ⟨by kernel_rfl⟩
instance : TSize Tryd.prog 190 1 := ⟨fun _ => by kernel_rfl⟩
instance : TAgg Tryd.prog 190 false := ⟨fun _ => by kernel_rfl⟩
instance : TZero Tryd.prog 190 (Value.nilFunc) := ⟨fun _ => by kernel_rfl⟩
instance : TInfo Tryd.prog 190 (Value.nilFunc) 1 8 := ⟨by kernel_rfl⟩
instance : TSize Tryd.prog 191 4 := ⟨fun _ => by kernel_rfl⟩
instance : TAgg Tryd.prog 191 true := ⟨fun _ => by kernel_rfl⟩
instance : TZero Tryd.prog 191 (Value.agg #[(Value.pointer none), (Value.pointer none), (Value.pointer none), (Value.string ByteArray.empty)]) := ⟨fun _ => by kernel_rfl⟩
instance : TInfo Tryd.prog 191 (Value.agg #[(Value.pointer none), (Value.pointer none), (Value.pointer none), (Value.string ByteArray.empty)]) 4 40 := ⟨by kernel_rfl⟩
instance : TField Tryd.prog 191 0 0 := ⟨fun _ _ _ => by kernel_rfl⟩
instance : TField Tryd.prog 191 1 1 := ⟨fun _ _ _ => by kernel_rfl⟩
instance : TField Tryd.prog 191 2 2 := ⟨fun _ _ _ => by kernel_rfl⟩
instance : TField Tryd.prog 191 3 3 := ⟨fun _ _ _ => by kernel_rfl⟩
instance : TSize Tryd.prog 192 4 := ⟨fun _ => by kernel_rfl⟩
instance : TAgg Tryd.prog 192 true := ⟨fun _ => by kernel_rfl⟩
instance : TZero Tryd.prog 192 (Value.agg #[(Value.pointer none), (Value.pointer none), (Value.pointer none), (Value.string ByteArray.empty)]) := ⟨fun _ => by kernel_rfl⟩
instance : TInfo Tryd.prog 192 (Value.agg #[(Value.pointer none), (Value.pointer none), (Value.pointer none), (Value.string ByteArray.empty)]) 4 40 := ⟨by kernel_rfl⟩
instance : TField Tryd.prog 192 0 0 := ⟨fun _ _ _ => by kernel_rfl⟩
instance : TField Tryd.prog 192 1 1 := ⟨fun _ _ _ => by kernel_rfl⟩
instance : TField Tryd.prog 192 2 2 := ⟨fun _ _ _ => by kernel_rfl⟩
instance : TField Tryd.prog 192 3 3 := ⟨fun _ _ _ => by kernel_rfl⟩
instance : TSize Tryd.prog 193 0 := ⟨fun _ => by kernel_rfl⟩
instance : TAgg Tryd.prog 193 true := ⟨fun _ => by kernel_rfl⟩
instance : TZero Tryd.prog 193 (Value.agg #[]) := ⟨fun _ => by kernel_rfl⟩
instance : TInfo Tryd.prog 193 (Value.agg #[]) 0 0 := ⟨by kernel_rfl⟩
instance : TSize Tryd.prog 194 0 := ⟨fun _ => by kernel_rfl⟩
instance : TAgg Tryd.prog 194 true := ⟨fun _ => by kernel_rfl⟩
instance : TZero Tryd.prog 194 (Value.agg #[]) := ⟨fun _ => by kernel_rfl⟩
instance : TInfo Tryd.prog 194 (Value.agg #[]) 0 0 := ⟨by kernel_rfl⟩
instance : TSize Tryd.prog 195 0 := ⟨fun _ => by kernel_rfl⟩
instance : TAgg Tryd.prog 195 true := ⟨fun _ => by kernel_rfl⟩
instance : TZero Tryd.prog 195 (Value.agg #[]) := ⟨fun _ => by kernel_rfl⟩
instance : TInfo Tryd.prog 195 (Value.agg #[]) 0 0 := ⟨by kernel_rfl⟩
instance : TSize Tryd.prog 196 1 := ⟨fun _ => by kernel_rfl⟩
instance : TAgg Tryd.prog 196 false := ⟨fun _ => by kernel_rfl⟩
instance : TZero Tryd.prog 196 (Value.nilFunc) := ⟨fun _ => by kernel_rfl⟩
instance : TInfo Tryd.prog 196 (Value.nilFunc) 1 8 := ⟨by kernel_rfl⟩
instance : TSize Tryd.prog 197 1 := ⟨fun _ => by kernel_rfl⟩
instance : TAgg Tryd.prog 197 false := ⟨fun _ => by kernel_rfl⟩
instance : TZero Tryd.prog 197 (Value.int .u8 0) := ⟨fun _ => by kernel_rfl⟩
instance : TInfo Tryd.prog 197 (Value.int .u8 0) 1 1 := ⟨by kernel_rfl⟩
instance : TSize Tryd.prog 198 1 := ⟨fun _ => by kernel_rfl⟩
instance : TAgg Tryd.prog 198 false := ⟨fun _ => by kernel_rfl⟩
instance : TZero Tryd.prog 198 (Value.int .u8 0) := ⟨fun _ => by kernel_rfl⟩
instance : TInfo Tryd.prog 198 (Value.int .u8 0) 1 1 := ⟨by kernel_rfl⟩
instance : TSize Tryd.prog 199 1 := ⟨fun _ => by kernel_rfl⟩
instance : TAgg Tryd.prog 199 false := ⟨fun _ => by kernel_rfl⟩
instance : TZero Tryd.prog 199 (Value.nilFunc) := ⟨fun _ => by kernel_rfl⟩
instance : TInfo Tryd.prog 199 (Value.nilFunc) 1 8 := ⟨by kernel_rfl⟩
instance : TSize Tryd.prog 200 1 := ⟨fun _ => by kernel_rfl⟩
instance : TAgg Tryd.prog 200 false := ⟨fun _ => by kernel_rfl⟩
instance : TZero Tryd.prog 200 (Value.pointer none) := ⟨fun _ => by kernel_rfl⟩
instance : TInfo Tryd.prog 200 (Value.pointer none) 1 8 := ⟨by kernel_rfl⟩
instance : TSize Tryd.prog 201 1 := ⟨fun _ => by kernel_rfl⟩
instance : TAgg Tryd.prog 201 false := ⟨fun _ => by kernel_rfl⟩
instance : TZero Tryd.prog 201 (Value.int .i32 0) := ⟨fun _ => by kernel_rfl⟩
instance : TInfo Tryd.prog 201 (Value.int .i32 0) 1 4 := ⟨by kernel_rfl⟩
instance : TSize Tryd.prog 202 1 := ⟨fun _ => by kernel_rfl⟩
instance : TAgg Tryd.prog 202 false := ⟨fun _ => by kernel_rfl⟩
instance : TZero Tryd.prog 202 (Value.int .i32 0) := ⟨fun _ => by kernel_rfl⟩
instance : TInfo Tryd.prog 202 (Value.int .i32 0) 1 4 := ⟨by kernel_rfl⟩
instance : TSize Tryd.prog 203 11 := ⟨fun _ => by kernel_rfl⟩
instance : TAgg Tryd.prog 203 true := ⟨fun _ => by kernel_rfl⟩
instance : TZero Tryd.prog 203 (Value.agg ([(Value.int .u64 0), (Value.int .u64 0), (Value.int .u32 0), (Value.int .u8 0), (Value.int .u8 0), (Value.int .u8 0), (Value.int .u8 0), (Value.nilFunc), (Value.pointer none), (Value.int .i32 0), (Value.int .i32 0)]).toArray) := ⟨fun _ => by kernel_rfl⟩
instance : TInfo Tryd.prog 203 (Value.agg ([(Value.int .u64 0), (Value.int .u64 0), (Value.int .u32 0), (Value.int .u8 0), (Value.int .u8 0), (Value.int .u8 0), (Value.int .u8 0), (Value.nilFunc), (Value.pointer none), (Value.int .i32 0), (Value.int .i32 0)]).toArray) 11 48 := ⟨by kernel_rfl⟩
instance : TField Tryd.prog 203 0 0 := ⟨fun _ _ _ => by kernel_rfl⟩
instance : TField Tryd.prog 203 1 1 := ⟨fun _ _ _ => by kernel_rfl⟩
instance : TField Tryd.prog 203 2 2 := ⟨fun _ _ _ => by kernel_rfl⟩
instance : TField Tryd.prog 203 3 3 := ⟨fun _ _ _ => by kernel_rfl⟩
instance : TField Tryd.prog 203 4 4 := ⟨fun _ _ _ => by kernel_rfl⟩
instance : TField Tryd.prog 203 5 5 := ⟨fun _ _ _ => by kernel_rfl⟩
instance : TField Tryd.prog 203 6 6 := ⟨fun _ _ _ => by kernel_rfl⟩
instance : TField Tryd.prog 203 7 7 := ⟨fun _ _ _ => by kernel_rfl⟩
instance : TField Tryd.prog 203 8 8 := ⟨fun _ _ _ => by kernel_rfl⟩
instance : TField Tryd.prog 203 9 9 := ⟨fun _ _ _ => by kernel_rfl⟩
instance : TField Tryd.prog 203 10 10 := ⟨fun _ _ _ => by kernel_rfl⟩
instance : TSize Tryd.prog 204 11 := ⟨fun _ => by kernel_rfl⟩
instance : TAgg Tryd.prog 204 true := ⟨fun _ => by kernel_rfl⟩
instance : TZero Tryd.prog 204 (Value.agg ([(Value.int .u64 0), (Value.int .u64 0), (Value.int .u32 0), (Value.int .u8 0), (Value.int .u8 0), (Value.int .u8 0), (Value.int .u8 0), (Value.nilFunc), (Value.pointer none), (Value.int .i32 0), (Value.int .i32 0)]).toArray) := ⟨fun _ => by kernel_rfl⟩
instance : TInfo Tryd.prog 204 (Value.agg ([(Value.int .u64 0), (Value.int .u64 0), (Value.int .u32 0), (Value.int .u8 0), (Value.int .u8 0), (Value.int .u8 0), (Value.int .u8 0), (Value.nilFunc), (Value.pointer none), (Value.int .i32 0), (Value.int .i32 0)]).toArray) 11 48 := ⟨by kernel_rfl⟩
instance : TField Tryd.prog 204 0 0 := ⟨fun _ _ _ => by kernel_rfl⟩
instance : TField Tryd.prog 204 1 1 := ⟨fun _ _ _ => by kernel_rfl⟩
instance : TField Tryd.prog 204 2 2 := ⟨fun _ _ _ => by kernel_rfl⟩
instance : TField Tryd.prog 204 3 3 := ⟨fun _ _ _ => by kernel_rfl⟩
instance : TField Tryd.prog 204 4 4 := ⟨fun _ _ _ => by kernel_rfl⟩
instance : TField Tryd.prog 204 5 5 := ⟨fun _ _ _ => by kernel_rfl⟩
instance : TField Tryd.prog 204 6 6 := ⟨fun _ _ _ => by kernel_rfl⟩
instance : TField Tryd.prog 204 7 7 := ⟨fun _ _ _ => by kernel_rfl⟩
instance : TField Tryd.prog 204 8 8 := ⟨fun _ _ _ => by kernel_rfl⟩
instance : TField Tryd.prog 204 9 9 := ⟨fun _ _ _ => by kernel_rfl⟩
instance : TField Tryd.prog 204 10 10 := ⟨fun _ _ _ => by kernel_rfl⟩
instance : TSize Tryd.prog 205 1 := ⟨fun _ => by kernel_rfl⟩
instance : TAgg Tryd.prog 205 false := ⟨fun _ => by kernel_rfl⟩
instance : TZero Tryd.prog 205 (Value.pointer none) := ⟨fun _ => by kernel_rfl⟩
instance : TInfo Tryd.prog 205 (Value.pointer none) 1 8 := ⟨by kernel_rfl⟩
end Go.Proofs.YtddiecdoaggaaaaDoor
