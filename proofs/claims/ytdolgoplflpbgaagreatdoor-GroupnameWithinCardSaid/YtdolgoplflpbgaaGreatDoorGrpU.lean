/- Names out of components: Join, and the reference's Join and Within. -/
import Derived.Test.YtdolgoplflpbgaaGreatDoorGrpT
namespace Go.Proofs.YtdolgoplflpbgaaGreatDoor
open Go.RowKit Go.Sort

theorem checkG_iff {s : ByteArray} : checkG s = 0 ↔ s.size ≤ 80 ∧ (∀ p ∈ piecesB dotB s, compB p.data.toList = true) ∧ (piecesB dotB s).length ≤ 10 := by
  unfold checkG
  constructor
  · intro h
    split at h
    · cases h
    · split at h
      · cases h
      · rename_i h1 h2
        split at h
        · cases h
        · refine ⟨by omega, fun p hp => ?_, by omega⟩
          simp only [List.any_eq_true, not_exists, not_and, Bool.not_eq_true', Bool.not_eq_false] at h2
          exact h2 p hp
  · rintro ⟨h1, h2, h3⟩
    rw [if_neg (by omega), if_neg (by
      simp only [List.any_eq_true, not_exists, not_and, Bool.not_eq_true', Bool.not_eq_false]
      exact h2), if_neg (by omega)]
theorem comp_perm {l : List UInt8} (h : compB l = true) : ∀ c ∈ l, permB c.toNat = true := by
  unfold compB at h
  simp only [Bool.and_eq_true, List.all_eq_true] at h
  exact h.2
theorem comp_pos {l : List UInt8} (h : compB l = true) : 1 ≤ l.length := by
  unfold compB at h
  simp only [Bool.and_eq_true, decide_eq_true_eq] at h
  exact h.1.1.1
theorem comp_small {l : List UInt8} (h : compB l = true) : l.length ≤ 20 := by
  unfold compB at h
  simp only [Bool.and_eq_true, decide_eq_true_eq] at h
  exact h.1.1.2
theorem comp_free {l : List UInt8} (h : compB l = true) : ¬ (46 : UInt8) ∈ l := fun hm => by
  have := comp_perm h 46 hm
  revert this; decide
theorem pieces_comps {l : List ByteArray} (hl : l ≠ []) (h : ∀ x ∈ l, compB x.data.toList = true) : piecesB dotB (joinB dotB l) = l :=
  pieces_joinB hl fun x hx => comp_free (h x hx)
theorem name_take {a : ByteArray} (ha : checkG a = 0) (k : Nat) (hk : 1 ≤ k) : checkG (joinB dotB ((piecesB dotB a).take k)) = 0 ∧ piecesB dotB (joinB dotB ((piecesB dotB a).take k)) = (piecesB dotB a).take k := by
  obtain ⟨h1, h2, h3⟩ := checkG_iff.1 ha
  have hne : (piecesB dotB a).take k ≠ [] := by
    intro h
    rcases List.take_eq_nil_iff.1 h with h | h
    · omega
    · exact pieces_ne 46 a h
  have hp : piecesB dotB (joinB dotB ((piecesB dotB a).take k)) = (piecesB dotB a).take k := pieces_comps hne fun x hx => h2 x (List.mem_of_mem_take hx)
  refine ⟨checkG_iff.2 ⟨?_, ?_, ?_⟩, hp⟩
  · have := joinB_take_le dotB (piecesB dotB a) k
    rw [show joinB dotB (piecesB dotB a) = a from joinB_pieces 46 a] at this
    omega
  · rw [hp]; exact fun p hp => h2 p (List.mem_of_mem_take hp)
  · rw [hp, List.length_take]; omega
/-- Join. -/
def joinG (l : List ByteArray) : ByteArray × Nat := if l = [] then (⟨#[]⟩, 12) else if l.any (fun p => !compB p.data.toList) then (⟨#[]⟩, 12) else if checkG (joinB dotB l) = 0 then (joinB dotB l, 0) else (⟨#[]⟩, checkG (joinB dotB l))
theorem withinR (n h : ByteArray) (hh : checkG h = 0) : (decide ((piecesB dotB h).length ≤ (piecesB dotB n).length) && decide (joinB dotB ((piecesB dotB n).take (piecesB dotB h).length) = h)) = belowB n h := by
  rw [Bool.eq_iff_iff, belowB_iff, Bool.and_eq_true, decide_eq_true_eq, decide_eq_true_eq]
  constructor
  · rintro ⟨h1, h2⟩
    have hne : (piecesB dotB n).take (piecesB dotB h).length ≠ [] := by
      intro h
      rcases List.take_eq_nil_iff.1 h with h | h
      · exact pieces_ne 46 _ (List.eq_nil_of_length_eq_zero h)
      · exact pieces_ne 46 _ h
    have : piecesB dotB h = (piecesB dotB n).take (piecesB dotB h).length := by
      conv => lhs; rw [← h2]
      exact pieces_joinB hne fun x hx => pieces_free (List.mem_of_mem_take hx)
    rw [this]; exact List.take_prefix _ _
  · intro hp
    refine ⟨hp.length_le, ?_⟩
    rw [← List.prefix_iff_eq_take.1 hp]
    exact joinB_pieces 46 h
set_option maxRecDepth 100000
attribute [local irreducible] K KS KLeft KRound J OV EV EU Blk wpList Code.wp bodyPost Exit.then Exit.inBlock Round Left Hid JS wpStill wpHeld Calls
attribute [local irreducible] joinB checkG compB piecesB belowB
theorem partsOk_len (s : ByteArray) : (partsOk s).length ≤ 10 := by
  unfold partsOk
  split
  · rename_i h; exact (checkG_iff.1 h).2.2
  · exact Nat.zero_le _
theorem row_cap {w : World} {base n cap : Nat} {e : TypeId} {ea : Option Addr} {xs : List Value} (h : w.ownsRow base e 1 (.slice ea n cap) n xs) : n ≤ cap := by
  rcases h.2 with ⟨h1, h2⟩ | ⟨g, c, cur, h1, _, _, h2, _⟩
  · omega
  · injection h1 with _ _ h1; omega
theorem strs_take {w : World} {ea : Option Addr} {n cap : Nat} {l : List ByteArray} (h : StrsAt w (.slice ea n cap) l) (i : Nat) (hi : i ≤ l.length) : StrsAt w (.slice ea i cap) (l.take i) := by
  obtain ⟨ea', cap', he, hl, hc⟩ := h
  injection he with h1 h2 h3
  subst h1; subst h3
  refine ⟨ea, cap, by rw [List.length_take, Nat.min_eq_left hi], ⟨by have := hl.1; rw [List.length_take]; omega, hl.2⟩, fun j s hj => hc j s ?_⟩
  rw [List.getElem?_take] at hj
  split at hj
  · exact hj
  · cases hj
end Go.Proofs.YtdolgoplflpbgaaGreatDoor
