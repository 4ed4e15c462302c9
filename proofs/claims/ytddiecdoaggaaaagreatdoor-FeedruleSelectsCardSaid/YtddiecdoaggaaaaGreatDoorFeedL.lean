/- The walk of FeedruleControls. -/
import Derived.Test.YtddiecdoaggaaaaGreatDoorFeedI
namespace Go.Proofs.YtddiecdoaggaaaaGreatDoor
open Go.RowKit

theorem cut_size (s : ByteArray) (n : Nat) : (cut s n).size ≤ n := by unfold cut; rw [ByteArray.size_extract]; omega
theorem check_dl {nb pats : List UInt8} {mb dl : Int} {dists : List ByteArray} (h : checkP nb pats mb dl dists = 0) : 0 ≤ dl ∧ dl ≤ 20160 := by
  unfold checkP at h
  split at h
  · omega
  · split at h
    · rename_i c hc
      exact absurd h (parseP_err hc)
    · split at h
      · omega
      · omega
theorem reason_ctl {nb : ByteArray} {mb : Int} {dists : List ByteArray} {items : List (Nat × List Elem)} {gs : List ByteArray} {d : ByteArray} {n : Int} {f : ByteArray} : reasonP nb mb dists items gs d n true f = if f = nb then 1 else 0 := by
  unfold reasonP c1P c2P c3P c4P
  by_cases h : f = nb
  · rw [if_pos h, decide_eq_true h]; rfl
  · rw [if_neg h, decide_eq_false h]; rfl
theorem reason_own {nb : ByteArray} {mb : Int} {dists : List ByteArray} {items : List (Nat × List Elem)} {gs : List ByteArray} {d : ByteArray} {n : Int} {c : Bool} : reasonP nb mb dists items gs d n c nb = 1 := by
  unfold reasonP c1P
  rw [decide_eq_true rfl]; rfl
theorem ov_bneq_f {P : Program} {env : Env} {w : World} {x y : Operand} {t t' : TypeId} {p q : Bool} (ht : P.underlying t = some .bool) (hx : evx env x = some (.bool p)) (hy : evx env y = some (.bool q)) (h : p = q) : OV P env (.binOp .neq t x y t') w (.bool false) := by
  subst h
  intro ρ hρ o ho; unfold execOp; rw [ho]; simp [hρ hx, hρ hy, go_sem, binOp, run_equal_bool _ _ _ _ ht]
set_option maxRecDepth 100000
attribute [local irreducible] K KS KLeft KRound J OV EV EU Blk wpList Code.wp bodyPost Exit.then Exit.inBlock Round Left Hid JS wpStill wpHeld Calls
end Go.Proofs.YtddiecdoaggaaaaGreatDoor
