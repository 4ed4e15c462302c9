/- Joins of names: the walks. -/
import Derived.Test.YtdolgoplflpbgaaGreatDoorGrpU
namespace Go.Proofs.YtdolgoplflpbgaaGreatDoor
open Go.RowKit Go.Sort

/-- strings.Join. -/
theorem joinS_any (v : Value) (l : List ByteArray) (sep : ByteArray) (w : World) (hv : StrsAt w v l) (hn : l.length ≤ 140737488355328) (hs : (joinB sep l).size ≤ 140737488355328) : Calls Tryz.prog 49 #[v, .string sep] w fun e w' => e = .returned (.string (joinB sep l)) ∧ Below w.heap.size w w' := by
  obtain ⟨ea, ca, rfl, hl, hca⟩ := hv
  cases hcase : l with
  | nil =>
    subst hcase
    exact (Tryz.strings_Join_none ea ca sep w).mono fun e w' ⟨h1, h2⟩ => ⟨h1, h2 ▸ Below.refl _ _⟩
  | cons y l' =>
    rw [← hcase]
    have hpos : 0 < l.length := by rw [hcase]; simp
    obtain ⟨b, o, rfl, _⟩ := hca 0 l[0] (by simp [hpos])
    refine Tryz.strings_Join b o ca l sep w (fun j x hj => ?_) (hl.2 _ rfl) hn hl.1 ?_
    · obtain ⟨b', o', he, h2⟩ := hca j x hj
      cases he
      exact h2
    · rw [← joinB_data, Array.length_toList]; exact hs
set_option maxRecDepth 100000
attribute [local irreducible] K KS KLeft KRound J OV EV EU Blk wpList Code.wp bodyPost Exit.then Exit.inBlock Round Left Hid JS wpStill wpHeld Calls
attribute [local irreducible] joinB checkG compB piecesB belowB
theorem join1_any (s : ByteArray) (r : World) : Calls Tryz.prog 48 #[.string s] r fun e w' => e = .returned (.bool (!compB s.data.toList)) ∧ Below r.heap.size r w' := by
  refine k_enter (N := 6) Tryz.func48 rfl rfl rfl ?_
  refine walkB ?_
  refine k_callb (v := .bool (compB s.data.toList)) (by kernel_rfl) rfl rfl (fun w hw => comp_any s w) ?_
  refine walkB ?_
  exact k_ret1 rfl rfl fun w hw => ⟨rfl, hw.below rfl⟩
theorem joinN_any (v : Value) (l : List ByteArray) (m : Int) (r : World) (hv : StrsAt r v l) (hn : l.length ≤ 1000000000) (hs : (joinB dotB l).size ≤ 1000000000) (hm : r.cell? ⟨0, 0, none⟩ = some (.int .i64 m)) :
    Calls Tryz.prog 21 #[v] r fun e w' => e = .returned (.tuple #[.string (joinG l).1, .int .i64 (joinG l).2]) ∧ Below r.heap.size r w' := by
  have hv0 := hv
  obtain ⟨ea, ca, rfl, _, hca⟩ := hv
  unfold joinG
  refine k_enter (N := 21) Tryz.func21 rfl rfl rfl ?_
  by_cases h0 : l = []
  · rw [if_pos h0]
    subst h0
    refine walkB ?_
    exact k_ret2 rfl rfl rfl fun w hw => ⟨rfl, hw.below rfl⟩
  rw [if_neg h0]
  have hpos : 0 < l.length := by cases l with | nil => exact absurd rfl h0 | cons => simp
  refine walkB ?_
  refine k_callb (v := .bool (l.any fun p => !compB p.data.toList)) (by kernel_rfl) rfl rfl (fun w hw => contF_any (by kernel_rfl) (fun p => !compB p.data.toList) _ l w (hv0.ext (hw.below rfl)) (by omega) (fun s _ w => join1_any s w)) ?_
  cases hany : l.any fun p => !compB p.data.toList with
  | true =>
    rw [if_pos rfl]
    refine walkB ?_
    exact k_ret2 rfl rfl rfl fun w hw => ⟨rfl, hw.below rfl⟩
  | false =>
    rw [if_neg (by simp)]
    refine walkB ?_
    refine k_callb (v := .string (joinB dotB l)) (by kernel_rfl) rfl rfl (fun w hw => joinS_any _ l dotB w (hv0.ext (hw.below rfl)) (by omega) (by omega)) ?_
    refine walkB ?_
    refine k_callb (v := .int .i64 (checkG (joinB dotB l))) (by kernel_rfl) rfl rfl (fun w hw => checkG_any _ m w (by omega) (cell_ext (hw.below rfl) hm)) ?_
    by_cases hc : checkG (joinB dotB l) = 0
    · rw [if_pos hc, hc]
      refine walkB ?_
      exact k_ret2 rfl rfl rfl fun w hw => ⟨rfl, hw.below rfl⟩
    · rw [if_neg hc]
      refine walkB ?_
      exact k_ret2 rfl rfl rfl fun w hw => ⟨rfl, hw.below rfl⟩
theorem refJoin_any (v : Value) (l : List ByteArray) (r : World) (hv : StrsAt r v l) (hn : l.length ≤ 1000000000) (hl : ∀ s ∈ l, s.size ≤ 9223372036854775807) (hs : (joinB dotB l).size ≤ 1000000000) :
    Calls Tryz.prog 24 #[v] r fun e w' => e = .returned (.tuple #[.string (joinG l).1, .int .i64 (joinG l).2]) ∧ Below r.heap.size r w' := by
  have hv0 := hv
  obtain ⟨ea, ca, rfl, _, hca⟩ := hv
  refine k_enter (N := 30) Tryz.func24 rfl rfl rfl ?_
  refine walkB ?_
  refine k_loop (σ := Nat) (fun k => [(0, .slice ea l.length ca), (4, .int .i64 k)]) (fun _ => []) (fun k => k ≤ l.length ∧ (l.drop k).any (fun p => !compB p.data.toList) = l.any (fun p => !compB p.data.toList)) (fun k => l.length - k) 0 (by repeat (first | exact Sub.nil | refine Sub.cons rfl ?_)) (by repeat (first | exact SubO.nil | refine SubO.keep ?_ | refine SubO.drop rfl ?_)) ⟨Nat.zero_le _, rfl⟩ ?_
  rintro k ⟨hk, hC⟩
  by_cases hlt : k < l.length
  · obtain ⟨b, o, rfl, hcell⟩ := hca k l[k] (by simp [hlt])
    have hsz := hl l[k] (List.getElem_mem hlt)
    rw [List.drop_eq_getElem_cons hlt, List.any_cons] at hC
    generalize l[k] = x at hcell hsz hC
    refine walkB ?_
    refine k_callb (v := .bool (compB x.data.toList)) (by kernel_rfl) rfl rfl (fun w hw => refComp_any x w hsz) ?_
    cases hcx : compB x.data.toList with
    | true =>
      rw [hcx] at hC
      refine walkB ?_
      refine k_round (k + 1) (by repeat (first | exact Sub.nil | refine Sub.cons rfl ?_)) (by repeat (first | exact SubO.nil | refine SubO.keep ?_ | refine SubO.drop rfl ?_)) ⟨by omega, by rw [← hC]; rfl⟩ (by omega)
    | false =>
      rw [hcx, Bool.not_false, Bool.true_or] at hC
      have e : joinG l = (⟨#[]⟩, 12) := by
        unfold joinG
        split
        · rfl
        · rw [← hC]; rfl
      rw [e]
      refine walkB ?_
      exact k_ret2 rfl rfl rfl fun w hw => ⟨rfl, hw.below rfl⟩
  · have hkl : k = l.length := by omega
    subst hkl
    rw [List.drop_length] at hC
    unfold joinG
    by_cases h0 : l = []
    · rw [if_pos h0]
      subst h0
      refine walkB ?_
      exact k_ret2 rfl rfl rfl fun w hw => ⟨rfl, hw.below rfl⟩
    rw [if_neg h0, if_neg (by rw [← hC]; simp)]
    have hpos : 0 < l.length := by cases l with | nil => exact absurd rfl h0 | cons => simp
    refine walkB ?_
    refine k_callb (v := .string (joinB dotB l)) (by kernel_rfl) rfl rfl (fun w hw => refText_any _ l dotB w (hv0.ext (hw.below rfl)) (by omega) (by omega)) ?_
    refine walkB ?_
    refine k_callb (v := .int .i64 (checkG (joinB dotB l))) (by kernel_rfl) rfl rfl (fun w hw => refCheckG_any _ w (by omega)) ?_
    by_cases hc : checkG (joinB dotB l) = 0
    · rw [if_pos hc, hc]
      refine walkB ?_
      exact k_ret2 rfl rfl rfl fun w hw => ⟨rfl, hw.below rfl⟩
    · rw [if_neg hc]
      refine walkB ?_
      exact k_ret2 rfl rfl rfl fun w hw => ⟨rfl, hw.below rfl⟩
end Go.Proofs.YtdolgoplflpbgaaGreatDoor
