/- The reference's Compare; Within. -/
import Derived.Test.YtdolgoplflpbgaaGreatDoorGrpK
namespace Go.Proofs.YtdolgoplflpbgaaGreatDoor
open Go.RowKit Go.Sort

set_option maxRecDepth 100000
attribute [local irreducible] K KS KLeft KRound J OV EV EU Blk wpList Code.wp bodyPost Exit.then Exit.inBlock Round Left Hid JS wpStill wpHeld Calls
attribute [local irreducible] piecesB
theorem refCompare_any (a b : ByteArray) (r : World) (ha : a.size ≤ 1000000000) (hb : b.size ≤ 1000000000) : Calls Tryz.prog 53 #[.string a, .string b] r fun e w' => e = .returned (.int .i64 (compareG a b)) ∧ Below r.heap.size r w' := by
  unfold compareG
  have hla : (piecesB dotB a).length ≤ 1000000001 := by
    rw [piecesB_len dotB a (Nat.le_refl _)]
    have := Lib.countB_le dotB (Nat.le_refl _) a.size a (Nat.le_refl _)
    omega
  have hlb : (piecesB dotB b).length ≤ 1000000001 := by
    rw [piecesB_len dotB b (Nat.le_refl _)]
    have := Lib.countB_le dotB (Nat.le_refl _) b.size b (Nat.le_refl _)
    omega
  rw [show dotB = ⟨#[46]⟩ from rfl] at hla hlb ⊢
  refine k_enter (N := 52) Tryz.func53 rfl rfl rfl ?_
  refine walkB ?_
  refine k_call (by kernel_rfl) rfl rfl (fun w hw => refParts_any a 46 w ha) ?_
  rintro w e w1 hw ⟨v1, rfl, -, hS1⟩
  refine ⟨_, rfl, ?_⟩
  obtain ⟨hs1, hb1⟩ := strs_of_sat hS1
  have hB1 := (hw.below rfl).trans (hb1.mono (hw.below rfl).size)
  refine j_of_k (Sat.refl w1) ?_
  refine walkB ?_
  refine k_call (by kernel_rfl) rfl rfl (fun w hw => refParts_any b 46 w hb) ?_
  rintro w2 e w3 hw2 ⟨v2, rfl, -, hS2⟩
  refine ⟨_, rfl, ?_⟩
  obtain ⟨hs2, hb2⟩ := strs_of_sat hS2
  have hB2 := (hw2.below rfl).trans (hb2.mono (hw2.below rfl).size)
  have hs1' := hs1.ext hB2
  have hB := hB1.trans (hB2.mono hB1.size)
  clear hs1 hB1 hB2 hS1 hS2 hb1 hb2 hw hw2
  refine j_of_k (Sat.refl w3) ?_
  obtain ⟨ea, ca, rfl, _, hca⟩ := hs1'
  obtain ⟨eb, cb, rfl, _, hcb⟩ := hs2
  generalize piecesB ⟨#[46]⟩ a = l at *
  generalize piecesB ⟨#[46]⟩ b = m at *
  refine walkB ?_
  refine k_loop (σ := Nat) (fun k => [(5, .slice ea l.length ca), (6, .slice eb m.length cb), (7, .int .i64 k)]) (fun _ => []) (fun k => k ≤ l.length ∧ k ≤ m.length ∧ cmpL (l.drop k) (m.drop k) = cmpL l m) (fun k => l.length - k) 0 (by repeat (first | exact Sub.nil | refine Sub.cons rfl ?_)) (by repeat (first | exact SubO.nil | refine SubO.keep ?_ | refine SubO.drop rfl ?_)) ⟨Nat.zero_le _, Nat.zero_le _, rfl⟩ ?_
  rintro k ⟨hk, hk2, hC⟩
  by_cases hlt : k < l.length
  · obtain ⟨b1, o1, rfl, hcell⟩ := hca k l[k] (by simp [hlt])
    rw [List.drop_eq_getElem_cons hlt] at hC
    generalize l[k] = x at hcell hC
    by_cases hlt2 : k < m.length
    · obtain ⟨b2, o2, rfl, hcell2⟩ := hcb k m[k] (by simp [hlt2])
      rw [List.drop_eq_getElem_cons hlt2, cmpL] at hC
      generalize m[k] = y at hcell2 hC
      refine walkB ?_
      refine k_region_still (by kernel_rfl) (by kernel_rfl) ?_
      refine vwalkB ?_
      refine ks_op rfl (fun w hw => ov_slss rfl rfl) ?_
      refine vwalkB ?_
      cases h1 : Op.bytesLess x.toList y.toList with
      | true =>
        have hc : cmpS x y = -1 := by unfold cmpS; rw [if_pos h1]
        rw [hc, if_neg (by omega)] at hC
        rw [← hC]
        refine walkB ?_
        exact k_ret1 rfl rfl fun w hw => ⟨rfl, hB.trans ((hw.below rfl).mono hB.size)⟩
      | false =>
        refine walkB ?_
        refine k_region_still (by kernel_rfl) (by kernel_rfl) ?_
        refine vwalkB ?_
        refine ks_op rfl (fun w hw => ov_sgtr rfl rfl) ?_
        rw [h1]
        refine vwalkB ?_
        cases h2 : (x.toList == y.toList) with
        | true =>
          have hc : cmpS x y = 0 := by unfold cmpS; rw [h1, h2]; rfl
          rw [hc, if_pos rfl] at hC
          refine walkB ?_
          refine k_round (k + 1) (by repeat (first | exact Sub.nil | refine Sub.cons rfl ?_)) (by repeat (first | exact SubO.nil | refine SubO.keep ?_ | refine SubO.drop rfl ?_)) ⟨by omega, by omega, hC⟩ (by omega)
        | false =>
          have hc : cmpS x y = 1 := by unfold cmpS; rw [h1, h2]; rfl
          rw [hc, if_neg (by omega)] at hC
          rw [← hC]
          refine walkB ?_
          exact k_ret1 rfl rfl fun w hw => ⟨rfl, hB.trans ((hw.below rfl).mono hB.size)⟩
    · rw [List.drop_eq_nil_of_le (by omega : m.length ≤ k), cmpL] at hC
      rw [← hC]
      refine walkB ?_
      exact k_ret1 rfl rfl fun w hw => ⟨rfl, hB.trans ((hw.below rfl).mono hB.size)⟩
  · rw [List.drop_eq_nil_of_le (by omega : l.length ≤ k)] at hC
    by_cases hlt2 : k < m.length
    · rw [List.drop_eq_getElem_cons hlt2, cmpL] at hC
      rw [← hC]
      refine walkB ?_
      exact k_ret1 rfl rfl fun w hw => ⟨rfl, hB.trans ((hw.below rfl).mono hB.size)⟩
    · rw [List.drop_eq_nil_of_le (by omega : m.length ≤ k), cmpL] at hC
      rw [← hC]
      refine walkB ?_
      exact k_ret1 rfl rfl fun w hw => ⟨rfl, hB.trans ((hw.below rfl).mono hB.size)⟩
end Go.Proofs.YtdolgoplflpbgaaGreatDoor
