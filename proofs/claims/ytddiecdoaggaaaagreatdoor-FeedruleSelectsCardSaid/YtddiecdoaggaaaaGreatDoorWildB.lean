/- slices.Backward over items: the iterator. -/
import Derived.RangeFuncNested
import Derived.RangeFuncBound
import Derived.RangeFuncCalls
import Derived.RangeFuncLeaves
import Derived.RangeFuncBox
import Derived.Shelf.Abstract
import Derived.Shelf.RegionOpen
import Derived.WalkKit
import Derived.OwnWalkIn
import Derived.TacticsInMore
import Derived.LoopNIn
import Derived.LoopIn
import Derived.Test.YtddiecdoaggaaaaGreatDoorWildL
namespace Go.Proofs.YtddiecdoaggaaaaGreatDoor
open Go.RowKit Go.Shelf

attribute [local go_sem] Oper.semAt_some

def upto {α : Type} (f : Nat → α) (k : Nat) : List α := (List.range k).map f
theorem upto_succ {α : Type} (f : Nat → α) (k : Nat) : upto f (k + 1) = upto f k ++ [f k] := by simp [upto, List.range_succ]
theorem upto_length {α : Type} (f : Nat → α) (k : Nat) : (upto f k).length = k := by simp [upto]

set_option maxRecDepth 100000 in
set_option maxHeartbeats 2000000 in
theorem back1_in {α : Type} (F : Fence) (n : Nat) (h7 : F.fn 104) (hro : F.round = none) (hn : 1 ≤ n) (l Bs n₀ b len cap : Nat) (f : Nat → α) (encs : α → Array Value) (v1 v2 : Nat → Value) (hlen : len ≤ 2000000) (hb : b < n₀) (J Jx : List α → World → Prop)
    (hf : ∀ k, k < len → encs (f k) = #[.int .i64 ((len : Int) - 1 - k), .agg #[v1 (len - 1 - k), v2 (len - 1 - k)]])
    (hY : ∀ pre x W, J pre W → pre.length < len → YieldAt F (n - 1) Tryz.prog l (encs x) W fun e W' =>
      (e = .returned (.bool true) ∧ J (pre ++ [x]) W' ∧ Below n₀ W W') ∨ (e = .returned (.bool false) ∧ Jx (pre ++ [x]) W'))
    (W : World) (hBn : Bs < n₀) (hBs : W.cell? ⟨Bs, 0, none⟩ = some (.slice (some ⟨b, 0, none⟩) len cap)) (hc : ∀ j, j < len → W.cell? ⟨b, j * 2, none⟩ = some (v1 j) ∧ W.cell? ⟨b, j * 2 + 1, none⟩ = some (v2 j)) (h0 : J [] W) :
    CallsIn F n Tryz.prog 104 #[.func (.yield l) #[] #[], .pointer (some ⟨Bs, 0, none⟩)] W fun e W' => (∃ v, e = .returned v) ∧
      ((∃ ys, ys = upto f len ∧ J ys W') ∨ (∃ pre, (∃ k, k ≤ len ∧ pre = upto f k) ∧ Jx pre W')) := by
  refine callsIn_of_wp Tryz.func104 rfl h7 ?_ hro
  simp only [Tryz.ntmps104, List.size_toArray, List.length_cons, List.length_nil, Nat.reduceAdd, Nat.reduceSub, Array.replicate_succ, Array.replicate_zero, List.push_toArray, List.append_toArray, List.nil_append, List.cons_append]
  gi_wp2
  gi_loopw [3] (fun i wr => ∃ k : Nat, k ≤ len ∧ i = .int .i64 ((len : Int) - 1 - k) ∧ J (upto f k) wr ∧ Below n₀ W wr)
    (fun i _ => ((intOf i) + 1).toNat)
  case atStart => exact ⟨0, Nat.zero_le _, by simp, h0, Below.refl _ _⟩
  case round =>
    obtain ⟨k, hk, rfl, hJs, hnx⟩ := hrel
    have hBs' := (hnx.cell (p := ⟨Bs, 0, none⟩) hBn).trans hBs
    by_cases hlt : k < len
    · obtain ⟨h1, h2⟩ := hc (len - 1 - k) (by omega)
      have h1' := (hnx.cell (p := ⟨b, (len - 1 - k) * 2, none⟩) hb).trans h1
      have h2' := (hnx.cell (p := ⟨b, (len - 1 - k) * 2 + 1, none⟩) hb).trans h2
      obtain ⟨fn, tmps, assign, body, hy, hR⟩ := hY _ (f k) wr hJs (by rw [upto_length]; exact hlt)
      rw [hf k hlt] at hy
      gi_wp2
      refine hR.mono ?_
      rintro e W3 (⟨rfl, hJ3, hk3⟩ | ⟨rfl, hJx3⟩)
      · gi_wp2
        go_roundw
        case rel => exact ⟨k + 1, by omega, by simp; omega, by rw [upto_succ]; exact hJ3, hnx.trans hk3⟩
        case measure => simp [intOf]; omega
      · gi_wp2
        refine bodyPost_ret (results_none rfl _ _ _) rfl ?_
        exact ⟨⟨_, rfl⟩, .inr ⟨_, ⟨k + 1, by omega, (upto_succ _ _).symm⟩, hJx3⟩⟩
    · obtain rfl : k = len := by omega
      gi_wp2
      go_end0
      exact ⟨⟨_, rfl⟩, .inl ⟨_, rfl, hJs⟩⟩

set_option maxRecDepth 100000 in
set_option maxHeartbeats 2000000 in
/-- .. at the nil slice: no round. -/
theorem back1_nil_in {α : Type} (F : Fence) (n : Nat) (h7 : F.fn 104) (hro : F.round = none) (l Bs cap : Nat) (ea : Option Addr) (J : List α → World → Prop) (W : World) (hBs : W.cell? ⟨Bs, 0, none⟩ = some (.slice ea 0 cap)) (h0 : J [] W) :
    CallsIn F n Tryz.prog 104 #[.func (.yield l) #[] #[], .pointer (some ⟨Bs, 0, none⟩)] W fun e W' => (∃ v, e = .returned v) ∧ J [] W' := by
  refine callsIn_of_wp Tryz.func104 rfl h7 ?_ hro
  simp only [Tryz.ntmps104, List.size_toArray, List.length_cons, List.length_nil, Nat.reduceAdd, Nat.reduceSub, Array.replicate_succ, Array.replicate_zero, List.push_toArray, List.append_toArray, List.nil_append, List.cons_append]
  gi_wp2
  gi_loopw [3] (fun i wr => i = .int .i64 (-1) ∧ J [] wr) (fun _ _ => 0)
  case atStart => exact ⟨rfl, h0⟩
  case round =>
    obtain ⟨rfl, hJs⟩ := hrel
    gi_wp2
    go_end0
    exact ⟨⟨_, rfl⟩, hJs⟩
attribute [local irreducible] J OV EV EU Blk wpList Code.wp bodyPost Exit.then Exit.inBlock Round Left Hid JS wpStill
theorem back_any (v : Value) (w : World) (hv : v.cells = #[v]) : Calls Tryz.prog 96 #[v] w fun e w' => e = .returned (.func (.func 104) #[] #[.pointer (some ⟨w.heap.size, 0, none⟩)]) ∧ Below w.heap.size w w' ∧ Blk w' w.heap.size [v] 89 := by
  refine j_enter (N := 4) Tryz.func96 rfl rfl rfl ?_
  refine jwalk ?_
  refine j_new rfl (ev_box rfl) ?_
  intro w1 hb1 hx1 hz1
  rw [hv] at hb1
  refine jwalk ?_
  refine j_ret1 rfl rfl ⟨rfl, hx1, hb1⟩

end Go.Proofs.YtddiecdoaggaaaaGreatDoor
