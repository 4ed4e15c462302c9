/- The walks of quotas. -/
import Derived.Test.YtddiecdoaggaaaaGreatDoorWalk
import Derived.Test.YtddiecdoaggaaaaGreatDoorTypes
namespace Go.Proofs.YtddiecdoaggaaaaGreatDoor
open Go.RowKit

/-- Block b holds a quota. -/
def quo (lim day used : Int) : List Value := [.int .i64 lim, .int .i64 day, .int .i64 used]
def atP (day used now : Int) : Option (Int × Int) := if now < 0 ∨ 105190559 < now ∨ now / 1440 < day then none else some (now / 1440, if now / 1440 = day then used else 0)
set_option maxRecDepth 100000
attribute [local irreducible] K KS KLeft KRound J OV EV EU Blk wpList Code.wp bodyPost Exit.then Exit.inBlock Round Left Hid JS wpStill wpHeld Calls
theorem newQuota_no (n : Int) (r : World) (h : n < 0 ∨ 1099511627776 < n) : Calls Tryz.prog 15 #[.int .i64 n] r fun e w' => e = .returned (.tuple #[.pointer none, .int .i64 2]) ∧ Below r.heap.size r w' := by
  refine k_enter (N := 13) Tryz.func15 rfl rfl rfl ?_
  rcases h with h | h
  · refine walk ?_
    exact k_ret2 rfl rfl rfl fun w hw => ⟨rfl, hw.below rfl⟩
  · have : ¬ n < 0 := by omega
    refine walk ?_
    exact k_ret2 rfl rfl rfl fun w hw => ⟨rfl, hw.below rfl⟩
theorem newQuota_yes (n : Int) (r : World) (h0 : 0 ≤ n) (h : n ≤ 1099511627776) : Calls Tryz.prog 15 #[.int .i64 n] r fun e w' => ∃ b, e = .returned (.tuple #[.pointer (some ⟨b, 0, none⟩), .int .i64 0]) ∧ Blk w' b (quo n (-1) 0) 100 ∧ r.heap.size ≤ b ∧ Below r.heap.size r w' := by
  refine k_enter (N := 13) Tryz.func15 rfl rfl rfl ?_
  refine walk ?_
  refine k_op rfl (fun _ _ => ov_build (vs := [.int .i64 n, .int .i64 (-1)]) (cells := #[.int .i64 n, .int .i64 (-1), .int .i64 0]) rfl (by kernel_rfl)) ?_
  refine k_box (cs := quo n (-1) 0) rfl rfl rfl ?_
  intro b
  refine walk ?_
  exact k_ret2 rfl rfl rfl fun w hw => ⟨b, rfl, hw.blk 0 rfl, ((hw.all _ (List.mem_cons_self ..)).2 b rfl).2 rfl, hw.below rfl⟩
theorem at_any (qb : Nat) (lim day used now : Int) (r : World) (h0 : -9223372036854775808 ≤ now) (hnow : now ≤ 9223372036854775807) (hq : Blk r qb (quo lim day used) 100) : Calls Tryz.prog 39 #[.pointer (some ⟨qb, 0, none⟩), .int .i64 now] r fun e w' =>
    e = .returned (match atP day used now with | none => .tuple #[.int .i64 0, .int .i64 0, .int .i64 13] | some (d, u) => .tuple #[.int .i64 d, .int .i64 u, .int .i64 0]) ∧ Below r.heap.size r w' := by
  unfold quo at hq
  unfold atP
  refine k_enter (N := 35) Tryz.func39 rfl rfl rfl ?_
  by_cases hn : now < 0
  · rw [if_pos (.inl hn)]
    refine walk ?_
    refine k_op rfl (fun _ _ => ov_quow rfl rfl (by omega)) ?_
    refine walk ?_
    exact k_ret3 rfl rfl rfl rfl fun w hw => ⟨rfl, hw.below rfl⟩
  repeat (any_goals (first | refine walk1 ?_ | (apply k_condd; exact rfl; all_goals intro _) | (apply k_condn; exact rfl; all_goals intro _) | (apply k_guardd; exact rfl; exact rfl; exact rfl; exact rfl; all_goals intro _)))
  · rw [if_pos (by omega)]
    exact k_ret3 rfl rfl rfl rfl fun w hw => ⟨rfl, hw.below rfl⟩
  · rw [if_pos (by omega)]
    exact k_ret3 rfl rfl rfl rfl fun w hw => ⟨rfl, hw.below rfl⟩
  · rw [if_neg (by omega), if_pos (by omega)]
    exact k_ret3 rfl rfl rfl rfl fun w hw => ⟨rfl, hw.below rfl⟩
  · rw [if_neg (by omega), if_neg (by omega)]
    exact k_ret3 rfl rfl rfl rfl fun w hw => ⟨rfl, hw.below rfl⟩

/-- What Take answers and leaves: the error, the day, the bytes used. -/
def takeP (lim day used n now : Int) : Int × Int × Int :=
  if n < 0 ∨ 1099511627776 < n then (2, day, used) else match atP day used now with
    | none => (13, day, used)
    | some (d, u) => if lim = 0 then (0, d, u) else if lim < u + n then (9, day, used) else (0, d, u + n)
theorem atP_range {day used now d u : Int} (h : atP day used now = some (d, u)) : 0 ≤ now ∧ now ≤ 105190559 ∧ d = now / 1440 ∧ day ≤ d ∧ (u = used ∨ u = 0) := by
  unfold atP at h
  split at h
  · cases h
  · simp only [Option.some.injEq, Prod.mk.injEq] at h
    refine ⟨by omega, by omega, h.1.symm, by omega, ?_⟩
    rw [← h.2]; split <;> simp
attribute [local irreducible] atP
theorem take_any (qb : Nat) (lim day used n now : Int) (r : World) (h0 : -9223372036854775808 ≤ now) (hnow : now ≤ 9223372036854775807) (hu : 0 ≤ used ∧ used ≤ 1099511627776) (hq : Blk r qb (quo lim day used) 100) : Calls Tryz.prog 16 #[.pointer (some ⟨qb, 0, none⟩), .int .i64 n, .int .i64 now] r fun e w' =>
    e = .returned (.int .i64 (takeP lim day used n now).1) ∧ Blk w' qb (quo lim (takeP lim day used n now).2.1 (takeP lim day used n now).2.2) 100 ∧ r.grownBy w' (some qb) := by
  refine k_enterO (N := 54) hq Tryz.func16 rfl rfl rfl ?_
  unfold takeP
  unfold quo
  repeat (any_goals (first | refine walk1 ?_ | (apply k_condd; exact rfl; all_goals intro _) | (apply k_condn; exact rfl; all_goals intro _) | (apply k_guardd; exact rfl; exact rfl; exact rfl; exact rfl; all_goals intro _)))
  · rw [if_pos (by omega)]
    exact k_ret1 rfl rfl fun w hw => ⟨rfl, hw.blk 0 rfl, hw.grown rfl⟩
  · rw [if_pos (by omega)]
    exact k_ret1 rfl rfl fun w hw => ⟨rfl, hw.blk 0 rfl, hw.grown rfl⟩
  rw [if_neg (by omega)]
  refine k_callb (by kernel_rfl) rfl rfl (fun w hw => at_any qb lim day used now w h0 hnow (hw.blk 0 rfl)) ?_
  cases hat : atP day used now with
  | none =>
    refine walk ?_
    exact k_ret1 rfl rfl fun w hw => ⟨rfl, hw.blk 0 rfl, hw.grown rfl⟩
  | some du =>
    obtain ⟨d, u⟩ := du
    have hr := atP_range hat
    have : 0 ≤ u ∧ u ≤ 1099511627776 := by omega
    clear hr
    dsimp only
    repeat (any_goals (first | refine walk1 ?_ | (apply k_condd; exact rfl; all_goals intro _) | (apply k_condn; exact rfl; all_goals intro _) | (apply k_guardd; exact rfl; exact rfl; exact rfl; exact rfl; all_goals intro _)))
    · rw [if_pos (by assumption)]
      exact k_ret1 rfl rfl fun w hw => ⟨rfl, by have h := hw.blk 0 rfl; rw [Int.add_zero] at h; exact h, hw.grown rfl⟩
    · rw [if_neg (by assumption), if_pos (by omega)]
      exact k_ret1 rfl rfl fun w hw => ⟨rfl, hw.blk 0 rfl, hw.grown rfl⟩
    · rw [if_neg (by assumption), if_neg (by omega)]
      exact k_ret1 rfl rfl fun w hw => ⟨rfl, hw.blk 0 rfl, hw.grown rfl⟩
theorem left_any (qb : Nat) (lim day used now : Int) (r : World) (h0 : -9223372036854775808 ≤ now) (hnow : now ≤ 9223372036854775807) (hu : 0 ≤ used ∧ used ≤ 1099511627776) (hl : 0 ≤ lim ∧ lim ≤ 1099511627776) (hq : Blk r qb (quo lim day used) 100) : Calls Tryz.prog 18 #[.pointer (some ⟨qb, 0, none⟩), .int .i64 now] r fun e w' =>
    e = .returned (.int .i64 (if lim = 0 then -1 else match atP day used now with | none => 0 | some (_, u) => lim - u)) ∧ Below r.heap.size r w' := by
  have hq' : Blk r qb [.int .i64 lim, .int .i64 day, .int .i64 used] 100 := hq
  refine k_enter (N := 30) Tryz.func18 rfl rfl rfl ?_
  repeat (any_goals (first | refine walk1 ?_ | (apply k_condd; exact rfl; all_goals intro _) | (apply k_condn; exact rfl; all_goals intro _) | (apply k_guardd; exact rfl; exact rfl; exact rfl; exact rfl; all_goals intro _)))
  · rw [if_pos (by assumption)]
    exact k_ret1 rfl rfl fun w hw => ⟨rfl, hw.below rfl⟩
  rw [if_neg (by assumption)]
  refine k_callb (by kernel_rfl) rfl rfl (fun w hw => at_any qb lim day used now w h0 hnow (hq.ext (hw.below rfl))) ?_
  cases hat : atP day used now with
  | none =>
    refine walk ?_
    exact k_ret1 rfl rfl fun w hw => ⟨rfl, hw.below rfl⟩
  | some du =>
    obtain ⟨d, u⟩ := du
    have hr := atP_range hat
    have : 0 ≤ u ∧ u ≤ 1099511627776 := by omega
    clear hr
    dsimp only
    refine walk ?_
    exact k_ret1 rfl rfl fun w hw => ⟨rfl, hw.below rfl⟩
end Go.Proofs.YtddiecdoaggaaaaGreatDoor
