/- Names out of components: Join, and the reference's Join and Within. -/
import Derived.Test.YtdolgoplflpbgaaGreatDoorGrpT
namespace Go.Proofs.YtdolgoplflpbgaaGreatDoor
open Go.RowKit Go.Sort

theorem checkG_iff {s : ByteArray} : checkG s = 0 ↔ s.size ≤ 80 ∧ (∀ p ∈ piecesB dotB s, compB p.data.toList = true) ∧ (piecesB dotB s).length ≤ 10 := by
  unfold checkG
  constructor
  · intro h
    split at h
    · cases h
    · split at h
      · cases h
      · rename_i h1 h2
        split at h
        · cases h
        · refine ⟨by omega, fun p hp => ?_, by omega⟩
          simp only [List.any_eq_true, not_exists, not_and, Bool.not_eq_true', Bool.not_eq_false] at h2
          exact h2 p hp
  · rintro ⟨h1, h2, h3⟩
    rw [if_neg (by omega), if_neg (by
      simp only [List.any_eq_true, not_exists, not_and, Bool.not_eq_true', Bool.not_eq_false]
      exact h2), if_neg (by omega)]
theorem comp_perm {l : List UInt8} (h : compB l = true) : ∀ c ∈ l, permB c.toNat = true := by
  unfold compB at h
  simp only [Bool.and_eq_true, List.all_eq_true] at h
  exact h.2
theorem comp_pos {l : List UInt8} (h : compB l = true) : 1 ≤ l.length := by
  unfold compB at h
  simp only [Bool.and_eq_true, decide_eq_true_eq] at h
  exact h.1.1.1
theorem comp_small {l : List UInt8} (h : compB l = true) : l.length ≤ 20 := by
  unfold compB at h
  simp only [Bool.and_eq_true, decide_eq_true_eq] at h
  exact h.1.1.2
theorem comp_free {l : List UInt8} (h : compB l = true) : ¬ (46 : UInt8) ∈ l := fun hm => by
  have := comp_perm h 46 hm
  revert this; decide
theorem pieces_comps {l : List ByteArray} (hl : l ≠ []) (h : ∀ x ∈ l, compB x.data.toList = true) : piecesB dotB (joinB dotB l) = l :=
  pieces_joinB hl fun x hx => comp_free (h x hx)
theorem name_take {a : ByteArray} (ha : checkG a = 0) (k : Nat) (hk : 1 ≤ k) : checkG (joinB dotB ((piecesB dotB a).take k)) = 0 ∧ piecesB dotB (joinB dotB ((piecesB dotB a).take k)) = (piecesB dotB a).take k := by
  obtain ⟨h1, h2, h3⟩ := checkG_iff.1 ha
  have hne : (piecesB dotB a).take k ≠ [] := by
    intro h
    rcases List.take_eq_nil_iff.1 h with h | h
    · omega
    · exact pieces_ne 46 a h
  have hp : piecesB dotB (joinB dotB ((piecesB dotB a).take k)) = (piecesB dotB a).take k := pieces_comps hne fun x hx => h2 x (List.mem_of_mem_take hx)
  refine ⟨checkG_iff.2 ⟨?_, ?_, ?_⟩, hp⟩
  · have := joinB_take_le dotB (piecesB dotB a) k
    rw [show joinB dotB (piecesB dotB a) = a from joinB_pieces 46 a] at this
    omega
  · rw [hp]; exact fun p hp => h2 p (List.mem_of_mem_take hp)
  · rw [hp, List.length_take]; omega
/-- Join. -/
def joinG (l : List ByteArray) : ByteArray × Nat := if l = [] then (⟨#[]⟩, 12) else if l.any (fun p => !compB p.data.toList) then (⟨#[]⟩, 12) else if checkG (joinB dotB l) = 0 then (joinB dotB l, 0) else (⟨#[]⟩, checkG (joinB dotB l))
theorem withinR (n h : ByteArray) (hh : checkG h = 0) : (decide ((piecesB dotB h).length ≤ (piecesB dotB n).length) && decide (joinB dotB ((piecesB dotB n).take (piecesB dotB h).length) = h)) = belowB n h := by
  rw [Bool.eq_iff_iff, belowB_iff, Bool.and_eq_true, decide_eq_true_eq, decide_eq_true_eq]
  constructor
  · rintro ⟨h1, h2⟩
    have hne : (piecesB dotB n).take (piecesB dotB h).length ≠ [] := by
      intro h
      rcases List.take_eq_nil_iff.1 h with h | h
      · exact pieces_ne 46 _ (List.eq_nil_of_length_eq_zero h)
      · exact pieces_ne 46 _ h
    have : piecesB dotB h = (piecesB dotB n).take (piecesB dotB h).length := by
      conv => lhs; rw [← h2]
      exact pieces_joinB hne fun x hx => pieces_free (List.mem_of_mem_take hx)
    rw [this]; exact List.take_prefix _ _
  · intro hp
    refine ⟨hp.length_le, ?_⟩
    rw [← List.prefix_iff_eq_take.1 hp]
    exact joinB_pieces 46 h
set_option maxRecDepth 100000
attribute [local irreducible] K KS KLeft KRound J OV EV EU Blk wpList Code.wp bodyPost Exit.then Exit.inBlock Round Left Hid JS wpStill wpHeld Calls
attribute [local irreducible] joinB checkG compB piecesB belowB
theorem join1_any (s : ByteArray) (r : World) : Calls Tryz.prog 48 #[.string s] r fun e w' => e = .returned (.bool (!compB s.data.toList)) ∧ Below r.heap.size r w' := by
  refine k_enter (N := 6) Tryz.func48 rfl rfl rfl ?_
  refine walkB ?_
  refine k_callb (v := .bool (compB s.data.toList)) (by kernel_rfl) rfl rfl (fun w hw => comp_any s w) ?_
  refine walkB ?_
  exact k_ret1 rfl rfl fun w hw => ⟨rfl, hw.below rfl⟩
theorem joinN_any (v : Value) (l : List ByteArray) (m : Int) (r : World) (hv : StrsAt r v l) (hn : l.length ≤ 1000000000) (hs : (joinB dotB l).size ≤ 1000000000) (hm : r.cell? ⟨0, 0, none⟩ = some (.int .i64 m)) :
    Calls Tryz.prog 21 #[v] r fun e w' => e = .returned (.tuple #[.string (joinG l).1, .int .i64 (joinG l).2]) ∧ Below r.heap.size r w' := by
  have hv0 := hv
  obtain ⟨ea, ca, rfl, _, hca⟩ := hv
  unfold joinG
  refine k_enter (N := 21) Tryz.func21 rfl rfl rfl ?_
  by_cases h0 : l = []
  · rw [if_pos h0]
    subst h0
    refine walkB ?_
    exact k_ret2 rfl rfl rfl fun w hw => ⟨rfl, hw.below rfl⟩
  rw [if_neg h0]
  have hpos : 0 < l.length := by cases l with | nil => exact absurd rfl h0 | cons => simp
  refine walkB ?_
  refine k_callb (v := .bool (l.any fun p => !compB p.data.toList)) (by kernel_rfl) rfl rfl (fun w hw => contF_any (by kernel_rfl) (fun p => !compB p.data.toList) _ l w (hv0.ext (hw.below rfl)) (by omega) (fun s _ w => join1_any s w)) ?_
  cases hany : l.any fun p => !compB p.data.toList with
  | true =>
    rw [if_pos rfl]
    refine walkB ?_
    exact k_ret2 rfl rfl rfl fun w hw => ⟨rfl, hw.below rfl⟩
  | false =>
    rw [if_neg (by simp)]
    refine walkB ?_
    refine k_callb (v := .string (joinB dotB l)) (by kernel_rfl) rfl rfl (fun w hw => joinS_any _ l dotB w (hv0.ext (hw.below rfl)) (by omega) (by omega)) ?_
    refine walkB ?_
    refine k_callb (v := .int .i64 (checkG (joinB dotB l))) (by kernel_rfl) rfl rfl (fun w hw => checkG_any _ m w (by omega) (cell_ext (hw.below rfl) hm)) ?_
    by_cases hc : checkG (joinB dotB l) = 0
    · rw [if_pos hc, hc]
      refine walkB ?_
      exact k_ret2 rfl rfl rfl fun w hw => ⟨rfl, hw.below rfl⟩
    · rw [if_neg hc]
      refine walkB ?_
      exact k_ret2 rfl rfl rfl fun w hw => ⟨rfl, hw.below rfl⟩
theorem refJoin_any (v : Value) (l : List ByteArray) (r : World) (hv : StrsAt r v l) (hn : l.length ≤ 1000000000) (hl : ∀ s ∈ l, s.size ≤ 9223372036854775807) (hs : (joinB dotB l).size ≤ 1000000000) :
    Calls Tryz.prog 24 #[v] r fun e w' => e = .returned (.tuple #[.string (joinG l).1, .int .i64 (joinG l).2]) ∧ Below r.heap.size r w' := by
  have hv0 := hv
  obtain ⟨ea, ca, rfl, _, hca⟩ := hv
  refine k_enter (N := 30) Tryz.func24 rfl rfl rfl ?_
  refine walkB ?_
  refine k_loop (σ := Nat) (fun k => [(0, .slice ea l.length ca), (4, .int .i64 k)]) (fun _ => []) (fun k => k ≤ l.length ∧ (l.drop k).any (fun p => !compB p.data.toList) = l.any (fun p => !compB p.data.toList)) (fun k => l.length - k) 0 (by repeat (first | exact Sub.nil | refine Sub.cons rfl ?_)) (by repeat (first | exact SubO.nil | refine SubO.keep ?_ | refine SubO.drop rfl ?_)) ⟨Nat.zero_le _, rfl⟩ ?_
  rintro k ⟨hk, hC⟩
  by_cases hlt : k < l.length
  · obtain ⟨b, o, rfl, hcell⟩ := hca k l[k] (by simp [hlt])
    have hsz := hl l[k] (List.getElem_mem hlt)
    rw [List.drop_eq_getElem_cons hlt, List.any_cons] at hC
    generalize l[k] = x at hcell hsz hC
    refine walkB ?_
    refine k_callb (v := .bool (compB x.data.toList)) (by kernel_rfl) rfl rfl (fun w hw => refComp_any x w hsz) ?_
    cases hcx : compB x.data.toList with
    | true =>
      rw [hcx] at hC
      refine walkB ?_
      refine k_round (k + 1) (by repeat (first | exact Sub.nil | refine Sub.cons rfl ?_)) (by repeat (first | exact SubO.nil | refine SubO.keep ?_ | refine SubO.drop rfl ?_)) ⟨by omega, by rw [← hC]; rfl⟩ (by omega)
    | false =>
      rw [hcx, Bool.not_false, Bool.true_or] at hC
      have e : joinG l = (⟨#[]⟩, 12) := by
        unfold joinG
        split
        · rfl
        · rw [← hC]; rfl
      rw [e]
      refine walkB ?_
      exact k_ret2 rfl rfl rfl fun w hw => ⟨rfl, hw.below rfl⟩
  · have hkl : k = l.length := by omega
    subst hkl
    rw [List.drop_length] at hC
    unfold joinG
    by_cases h0 : l = []
    · rw [if_pos h0]
      subst h0
      refine walkB ?_
      exact k_ret2 rfl rfl rfl fun w hw => ⟨rfl, hw.below rfl⟩
    rw [if_neg h0, if_neg (by rw [← hC]; simp)]
    have hpos : 0 < l.length := by cases l with | nil => exact absurd rfl h0 | cons => simp
    refine walkB ?_
    refine k_callb (v := .string (joinB dotB l)) (by kernel_rfl) rfl rfl (fun w hw => refText_any _ l dotB w (hv0.ext (hw.below rfl)) (by omega) (by omega)) ?_
    refine walkB ?_
    refine k_callb (v := .int .i64 (checkG (joinB dotB l))) (by kernel_rfl) rfl rfl (fun w hw => refCheckG_any _ w (by omega)) ?_
    by_cases hc : checkG (joinB dotB l) = 0
    · rw [if_pos hc, hc]
      refine walkB ?_
      exact k_ret2 rfl rfl rfl fun w hw => ⟨rfl, hw.below rfl⟩
    · rw [if_neg hc]
      refine walkB ?_
      exact k_ret2 rfl rfl rfl fun w hw => ⟨rfl, hw.below rfl⟩
end Go.Proofs.YtdolgoplflpbgaaGreatDoor
