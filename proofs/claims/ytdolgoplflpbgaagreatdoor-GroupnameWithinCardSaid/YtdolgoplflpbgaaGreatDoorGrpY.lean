/- The reference's Sort. -/
import Derived.Test.YtdolgoplflpbgaaGreatDoorGrpX
namespace Go.Proofs.YtdolgoplflpbgaaGreatDoor
open Go.RowKit Go.Sort

set_option maxRecDepth 100000
attribute [local irreducible] K KS KLeft KRound J OV EV EU Blk wpList Code.wp bodyPost Exit.then Exit.inBlock Round Left Hid JS wpStill wpHeld Calls
attribute [local irreducible] compareG piecesB errG checkG UpG
theorem refSort_any (v : Value) (l : List ByteArray) (r : World) (hv : StrsAt r v l) (hl : ∀ s ∈ l, s.size ≤ 9223372036854775807) (hn : l.length ≤ 9223372036854775807) :
    Calls Tryz.prog 12 #[v] r fun e w' => ∃ s : Value × List ByteArray, e = .returned (.tuple #[s.1, .int .i64 (sortErr l : Nat)]) ∧ SortOf l s.2 ∧ Sat r [row false s.1 s.2.length (s.2.map Value.string) 9 1] w' := by
  obtain ⟨ea, ca, rfl, _, hca⟩ := hv
  refine k_enter (N := 31) Tryz.func12 rfl rfl rfl ?_
  have hN : sortErr l ≠ 0 → SortOf l [] := fun h => by unfold SortOf; rw [if_neg h]
  have hY : sortErr l = 0 → ∀ m, UpG m → (∀ x, x ∈ m ↔ x ∈ l) → m.length ≤ l.length → SortOf l m := fun h m h1 h2 h3 => by unfold SortOf; rw [if_pos h]; exact ⟨h1, h2, h3⟩
  by_cases h4 : 4096 < l.length
  · have he : sortErr l = 9 := by unfold sortErr; rw [if_pos h4]
    rw [he] at hN ⊢
    refine walkB ?_
    exact k_ret2 rfl rfl rfl fun w hw => ⟨(.slice none 0 0, []), rfl, hN (by omega), sat_nil hw⟩
  have he : sortErr l = errG l := by unfold sortErr; rw [if_neg h4]
  rw [he] at hN hY ⊢
  refine walkB ?_
  refine k_nilrow 9 1 ?_
  refine k_loop (σ := Nat × Value) (fun t => [(0, .slice ea l.length ca), (4, t.2), (5, .int .i64 t.1)]) (fun t => [row false t.2 (insAll (l.take t.1)).length ((insAll (l.take t.1)).map Value.string) 9 1]) (fun t => t.1 ≤ l.length ∧ errG (l.drop t.1) = errG l ∧ ∀ s ∈ l.take t.1, checkG s = 0) (fun t => l.length - t.1) (0, .slice none 0 0) (by repeat (first | exact Sub.nil | refine Sub.cons rfl ?_)) (by repeat (first | exact SubO.nil | refine SubO.keep ?_ | refine SubO.drop rfl ?_)) ⟨Nat.zero_le _, rfl, by simp⟩ ?_
  rintro ⟨k, out⟩ ⟨hk, hC, hT⟩
  dsimp only at hk hC hT ⊢
  obtain ⟨hU, hmem, hlen⟩ := insAll_facts (l.take k)
  have hlen2 : (insAll (l.take k)).length ≤ 4096 := by rw [List.length_take] at hlen; omega
  by_cases hlt : k < l.length
  · obtain ⟨b, o, rfl, hcell⟩ := hca k l[k] (by simp [hlt])
    have hs := hl l[k] (List.getElem_mem hlt)
    rw [List.drop_eq_getElem_cons hlt, errG] at hC
    have hT2 : checkG l[k] = 0 → ∀ s ∈ l.take (k + 1), checkG s = 0 := by
      intro h0 s hs
      rw [List.take_succ_eq_append_getElem hlt, List.mem_append] at hs
      rcases hs with hs | hs
      · exact hT s hs
      · rw [List.mem_singleton.1 hs]; exact h0
    have hins : insAll (l.take (k + 1)) = insG l[k] (insAll (l.take k)) := by rw [List.take_succ_eq_append_getElem hlt, insAll_snoc]
    generalize l[k] = x at hcell hs hC hT2 hins
    refine walkB ?_
    refine k_callb (v := .int .i64 (checkG x)) (by kernel_rfl) rfl rfl (fun w hw => refCheckG_any x w hs) ?_
    by_cases h0 : checkG x = 0
    · rw [if_pos h0] at hC
      rw [h0]
      refine walkB ?_
      refine k_call (by kernel_rfl) rfl rfl (fun w hw => insert_any out _ x w (hw.row 0 rfl) (fun y hy => by have := checkG_size (hT y ((hmem y).1 hy)); omega) (by have := checkG_size h0; omega) (by omega)) ?_
      rintro w e w' hw ⟨v', rfl, ⟨rfl, h1, hB⟩ | hw'⟩
      · refine ⟨_, rfl, j_of_k (hw.ext hB) ?_⟩
        refine walkB ?_
        refine k_round (k + 1, v') (by repeat (first | exact Sub.nil | refine Sub.cons rfl ?_)) (by dsimp only; rw [hins, h1]; exact (by repeat (first | exact SubO.nil | refine SubO.keep ?_ | refine SubO.drop rfl ?_))) ⟨by dsimp only; omega, hC, hT2 h0⟩ (by dsimp only; omega)
      · refine ⟨_, rfl, j_of_k (hw.join hw' rfl) ?_⟩
        rw [← hins]
        refine walkB ?_
        refine k_round (k + 1, v') (by repeat (first | exact Sub.nil | refine Sub.cons rfl ?_)) (by repeat (first | exact SubO.nil | refine SubO.keep ?_ | refine SubO.drop rfl ?_)) ⟨by dsimp only; omega, hC, hT2 h0⟩ (by dsimp only; omega)
    · rw [if_neg h0] at hC
      rw [← hC] at hN ⊢
      refine walkB ?_
      exact k_ret2 rfl rfl rfl fun w hw => ⟨(.slice none 0 0, []), rfl, hN h0, sat_nil (hw.sub (.drop rfl .nil))⟩
  have hkl : k = l.length := by omega
  subst hkl
  rw [List.take_length] at hmem hU hlen ⊢
  rw [List.drop_length, errG] at hC
  have hY' := hY hC.symm (insAll l) hU hmem hlen
  rw [← hC]
  refine walkB ?_
  exact k_ret2 rfl rfl rfl fun w hw => ⟨(out, insAll l), rfl, hY', hw⟩
end Go.Proofs.YtdolgoplflpbgaaGreatDoor
