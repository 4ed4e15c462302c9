/- GroupnameCompare answers true for every input. -/
import Derived.Test.YtdolgoplflpbgaaDoorGrpL
namespace Go.Proofs.YtdolgoplflpbgaaDoor
open Go.RowKit Go.Sort

theorem ov_neg {P : Program} {env : Env} {w : World} {x : Operand} {t : TypeId} {a : Int} (hx : evx env x = some (.int .i64 a)) (h : -9223372036854775807 ≤ a ∧ a ≤ 9223372036854775807) : OV P env (.unOp .neg t x) w (.int .i64 (-a)) := by
  intro ρ hρ o ho; unfold execOp; rw [ho]
  have := IntWalk.i64_in (-a) ⟨by omega, by omega⟩
  simp [hρ hx, Op.unary, Op.intArith, this]
set_option maxRecDepth 100000
attribute [local irreducible] K KS KLeft KRound J OV EV EU Blk wpList Code.wp bodyPost Exit.then Exit.inBlock Round Left Hid JS wpStill wpHeld Calls
attribute [local irreducible] compareG
theorem compareG_cases (a b : ByteArray) : compareG a b = -1 ∨ compareG a b = 0 ∨ compareG a b = 1 := by unfold compareG; exact cmpL_cases _ _
theorem lawCompare_any (a b c : ByteArray) (m : Int) (r : World) (hm : r.cell? ⟨0, 0, none⟩ = some (.int .i64 m)) : Calls Tryd.prog 3 #[.string a, .string b, .string c] r fun e w' => e = .returned (.bool true) ∧ Below r.heap.size r w' := by
  refine k_enter (N := 58) Tryd.func3 rfl rfl rfl ?_
  refine walkB ?_
  refine k_callb (by kernel_rfl) rfl rfl (fun w hw => known_any m w (cell_ext (hw.below rfl) hm)) ?_
  refine walkB ?_
  refine k_lit (vs := [.string a, .string b, .string c]) rfl rfl rfl rfl rfl rfl rfl ?_
  intro b0
  refine walkB ?_
  refine k_callb (v := .bool ([a, b, c].all fun s => decide (s.size ≤ 120))) (by kernel_rfl) rfl rfl (fun w hw => short_any _ [a, b, c] w (by exact strs_of_blkG (l := [a, b, c]) (hw.blk 0 rfl) rfl) (by decide : 3 ≤ 9223372036854775807)) ?_
  cases hs : [a, b, c].all fun s => decide (s.size ≤ 120) with
  | false =>
    refine walkB ?_
    refine k_callb (by kernel_rfl) rfl rfl (fun w hw => known_any m w (cell_ext (hw.below rfl) hm)) ?_
    refine walkB ?_
    exact k_ret1 rfl rfl fun w hw => ⟨rfl, hw.below rfl⟩
  | true =>
    simp only [List.all_cons, List.all_nil, Bool.and_true, Bool.and_eq_true, decide_eq_true_eq] at hs
    obtain ⟨ha, hb, hc⟩ := hs
    refine walkB ?_
    refine k_callb (by kernel_rfl) rfl rfl (fun w hw => compare_any a b m w (by omega) (by omega) (cell_ext (hw.below rfl) hm)) ?_
    refine walkB ?_
    refine k_callb (by kernel_rfl) rfl rfl (fun w hw => refCompare_any a b w (by omega) (by omega)) ?_
    refine walkB ?_
    refine k_callb (v := .int .i64 (- compareG a b)) (by kernel_rfl) rfl rfl (fun w hw => (compare_any b a m w (by omega) (by omega) (cell_ext (hw.below rfl) hm)).mono fun e w' h => ⟨by rw [h.1, compareG_swap], h.2⟩) ?_
    have hx := compareG_cases a b
    have hz := compareG_zero (a := a) (b := b)
    have ht := compareG_trans (a := a) (b := b) (c := c)
    generalize compareG a b = x at hx hz ht
    refine k_guard_yes rfl rfl rfl ?_
    refine k_op rfl (fun w hw => ov_neg rfl (by omega)) ?_
    rw [Int.neg_neg]
    refine walkB ?_
    refine k_op rfl (fun w hw => ov_bneq rfl rfl Tryd.underlying4) ?_
    rw [show (decide (x = 0) == decide (a = b)) = true by rw [beq_iff_eq]; exact decide_eq_decide.2 hz]
    refine walkB ?_
    rcases Decidable.em (x ≤ 0) with h0 | h0
    · have ht' := ht h0
      rw [decide_eq_true h0]
      refine walkB ?_
      refine k_callb (by kernel_rfl) rfl rfl (fun w hw => compare_any b c m w (by omega) (by omega) (cell_ext (hw.below rfl) hm)) ?_
      generalize compareG b c = y at ht'
      rcases Decidable.em (y ≤ 0) with h1 | h1
      · have ht2 := ht' h1
        refine walkB ?_
        refine k_callb (by kernel_rfl) rfl rfl (fun w hw => compare_any a c m w (by omega) (by omega) (cell_ext (hw.below rfl) hm)) ?_
        refine walkB ?_
        exact k_ret1 rfl rfl fun w hw => ⟨rfl, hw.below rfl⟩
      · refine walkB ?_
        exact k_ret1 rfl rfl fun w hw => ⟨rfl, hw.below rfl⟩
    · rw [decide_eq_false h0]
      refine walkB ?_
      exact k_ret1 rfl rfl fun w hw => ⟨rfl, hw.below rfl⟩
end Go.Proofs.YtdolgoplflpbgaaDoor
