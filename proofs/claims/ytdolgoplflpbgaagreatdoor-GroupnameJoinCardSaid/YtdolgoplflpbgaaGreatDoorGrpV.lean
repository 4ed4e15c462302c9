/- GroupnameJoin and GroupnameCheck answer true for every input. -/
import Derived.Test.YtdolgoplflpbgaaGreatDoorGrpU
namespace Go.Proofs.YtdolgoplflpbgaaGreatDoor
open Go.RowKit Go.Sort

/-! Plain. -/
theorem joinG_split {l : List ByteArray} (h : (joinG l).2 = 0) : checkG (joinG l).1 = 0 ∧ partsOk (joinG l).1 = l := by
  unfold joinG at h ⊢
  split at h
  · cases h
  · rename_i h0
    split at h
    · cases h
    · rename_i h1
      split at h
      · rename_i h2
        rw [if_neg h0, if_neg h1, if_pos h2]
        refine ⟨h2, ?_⟩
        unfold partsOk
        rw [if_pos h2]
        exact pieces_comps h0 (fun x hx => by
          simp only [List.any_eq_true, not_exists, not_and, Bool.not_eq_true', Bool.not_eq_false] at h1
          exact h1 x hx)
      · rename_i h2; exact absurd h h2
theorem joinG_parts {s : ByteArray} (h : checkG s = 0) : joinG (piecesB dotB s) = (s, 0) := by
  have hj : joinB dotB (piecesB dotB s) = s := joinB_pieces 46 s
  unfold joinG
  rw [if_neg (show ¬ piecesB dotB s = [] from pieces_ne 46 s), hj, if_pos h, if_neg]
  simp only [List.any_eq_true, not_exists, not_and, Bool.not_eq_true', Bool.not_eq_false]
  exact (checkG_iff.1 h).2.1
theorem parent_bad {s : ByteArray} (h : checkG s ≠ 0) : parentG s = (⟨#[]⟩, false) := by
  unfold parentG
  split
  · rfl
  · first | rfl | rw [if_neg h]
theorem parent_ok {s : ByteArray} (h : checkG s = 0) : parentG s = (joinB dotB ((piecesB dotB s).take ((piecesB dotB s).length - 1)), decide (1 < (piecesB dotB s).length)) := by
  have hlen : s.data.toList.length = s.size := len_data s
  have hget : ∀ j, j < s.size → (((s.data[j]!).toNat : Int) = 46 ↔ s.data.toList[j]? = some 46) := by
    intro j hj
    have hj' : j < s.data.size := hj
    rw [getElem!_pos s.data j hj']
    rw [Array.getElem?_toList, Array.getElem?_eq_getElem hj']
    constructor
    · intro h; congr 1; exact UInt8.toNat_inj.1 (by have h2 : (46 : UInt8).toNat = 46 := rfl; omega)
    · intro h; injection h with h; rw [h]; rfl
  have hmap := pieces_data 46 s
  unfold parentG
  rcases Lib.lastIndexByte_spec s 46 with ⟨e, hno⟩ | ⟨i, hi, e, hc, hlast⟩
  · have hn : ¬ (46 : UInt8) ∈ s.data.toList := by
      intro hm
      obtain ⟨j, hj, hj2⟩ := List.mem_iff_getElem.1 hm
      exact hno j (by omega) ((hget j (by omega)).2 (by rw [List.getElem?_eq_getElem hj, hj2]))
    rw [split_none (neq_of hn)] at hmap
    have hl1 : (piecesB dotB s).length = 1 := by
      have := congrArg List.length hmap
      simpa [dotB] using this
    rw [e, if_pos (by omega), hl1]
    rfl
  · have hs : s.data.toList = s.data.toList.take i ++ 46 :: s.data.toList.drop (i + 1) := by
      have hi' : i < s.data.toList.length := by omega
      conv => lhs; rw [← List.take_append_drop i s.data.toList, List.drop_eq_getElem_cons hi']
      have := (hget i hi).1 hc
      rw [List.getElem?_eq_getElem hi'] at this
      injection this with this
      rw [this]
    have hv : ¬ (46 : UInt8) ∈ s.data.toList.drop (i + 1) := by
      intro hm
      obtain ⟨j, hj, hj2⟩ := List.mem_iff_getElem.1 hm
      rw [List.length_drop] at hj
      rw [List.getElem_drop] at hj2
      exact hlast (i + 1 + j) (by omega) (by omega) ((hget (i + 1 + j) (by omega)).2 (by rw [List.getElem?_eq_getElem (by omega), hj2]))
    have hsp : Lib.split s.data.toList [46] = Lib.split (s.data.toList.take i) [46] ++ [s.data.toList.drop (i + 1)] := by
      conv => lhs; rw [hs]
      rw [split_app _ _ _ (Nat.le_refl _), split_none (neq_of hv)]
    rw [hsp] at hmap
    have hl1 : (piecesB dotB s).length = (Lib.split (s.data.toList.take i) [46]).length + 1 := by
      have := congrArg List.length hmap
      simpa [dotB] using this
    have hne := split_ne (c := 46) (s.data.toList.take i)
    have hpos : 0 < (Lib.split (s.data.toList.take i) [46]).length := List.length_pos_iff.2 hne
    rw [e, if_neg (by omega), if_pos h, decide_eq_true (by omega)]
    congr 1
    apply WideShapes.bytes_inj
    rw [joinB_data, List.map_take]
    have : (piecesB dotB s).map (·.data.toList) = Lib.split (s.data.toList.take i) [46] ++ [s.data.toList.drop (i + 1)] := hmap
    rw [this, hl1, Nat.add_sub_cancel, List.take_left]
    show _ = Lib.join _ [46]
    rw [join_split _ _ (Nat.le_refl _), pieceG_data]
    unfold pieceG
    simp
theorem joinG_size {l : List ByteArray} {B : Nat} (h : (joinB dotB l).size ≤ B) : (joinG l).1.size ≤ B := by
  unfold joinG
  split
  · exact Nat.zero_le _
  · split
    · exact Nat.zero_le _
    · split
      · exact h
      · exact Nat.zero_le _
theorem partsOk_len (s : ByteArray) : (partsOk s).length ≤ 10 := by
  unfold partsOk
  split
  · rename_i h; exact (checkG_iff.1 h).2.2
  · exact Nat.zero_le _
theorem row_cap {w : World} {base n cap : Nat} {e : TypeId} {ea : Option Addr} {xs : List Value} (h : w.ownsRow base e 1 (.slice ea n cap) n xs) : n ≤ cap := by
  rcases h.2 with ⟨h1, h2⟩ | ⟨g, c, cur, h1, _, _, h2, _⟩
  · omega
  · injection h1 with _ _ h1; omega
theorem strs_take {w : World} {ea : Option Addr} {n cap : Nat} {l : List ByteArray} (h : StrsAt w (.slice ea n cap) l) (i : Nat) (hi : i ≤ l.length) : StrsAt w (.slice ea i cap) (l.take i) := by
  obtain ⟨ea', cap', he, hl, hc⟩ := h
  injection he with h1 h2 h3
  subst h1; subst h3
  refine ⟨ea, cap, by rw [List.length_take, Nat.min_eq_left hi], ⟨by have := hl.1; rw [List.length_take]; omega, hl.2⟩, fun j s hj => hc j s ?_⟩
  rw [List.getElem?_take] at hj
  split at hj
  · exact hj
  · cases hj
set_option maxRecDepth 100000
attribute [local irreducible] K KS KLeft KRound J OV EV EU Blk wpList Code.wp bodyPost Exit.then Exit.inBlock Round Left Hid JS wpStill wpHeld Calls
attribute [local irreducible] joinB checkG compB piecesB belowB joinG partsOk
theorem lawJoin_any (v : Value) (l : List ByteArray) (m : Int) (r : World) (hv : StrsAt r v l) (hn : l.length ≤ 9223372036854775807) (hm : r.cell? ⟨0, 0, none⟩ = some (.int .i64 m)) : Calls Tryz.prog 5 #[v] r fun e w' => e = .returned (.bool true) ∧ Below r.heap.size r w' := by
  have hv0 := hv
  obtain ⟨ea, ca, rfl, _, hca⟩ := hv
  refine k_enter (N := 51) Tryz.func5 rfl rfl rfl ?_
  refine walkB ?_
  refine k_callb (by kernel_rfl) rfl rfl (fun w hw => known_any m w (cell_ext (hw.below rfl) hm)) ?_
  refine walkB ?_
  refine k_callb (v := .bool (decide (l.length ≤ 60) && l.all fun s => decide (s.size ≤ 120))) (by kernel_rfl) rfl rfl (fun w hw => short_any _ l w (hv0.ext (hw.below rfl)) hn) ?_
  cases hs : decide (l.length ≤ 60) && l.all fun s => decide (s.size ≤ 120) with
  | false =>
    refine walkB ?_
    refine k_callb (by kernel_rfl) rfl rfl (fun w hw => known_any m w (cell_ext (hw.below rfl) hm)) ?_
    refine walkB ?_
    exact k_ret1 rfl rfl fun w hw => ⟨rfl, hw.below rfl⟩
  | true =>
    simp only [Bool.and_eq_true, decide_eq_true_eq, List.all_eq_true] at hs
    obtain ⟨h60, h120⟩ := hs
    have hsz : (joinB dotB l).size ≤ 1000000000 := by
      have h1 := joinB_size dotB l 120 h120
      have h2 : l.length * (120 + dotB.size) ≤ 60 * 121 := Nat.mul_le_mul h60 (Nat.le_refl _)
      omega
    refine walkB ?_
    refine k_callb (by kernel_rfl) rfl rfl (fun w hw => joinN_any _ l m w (hv0.ext (hw.below rfl)) (by omega) hsz (cell_ext (hw.below rfl) hm)) ?_
    refine walkB ?_
    refine k_callb (by kernel_rfl) rfl rfl (fun w hw => refJoin_any _ l w (hv0.ext (hw.below rfl)) (by omega) (fun s hs => by have := h120 s hs; omega) hsz) ?_
    refine walkB ?_
    have hjs := joinG_split (l := l)
    have hxs : (joinG l).1.size ≤ 1000000000 := joinG_size hsz
    generalize (joinG l).1 = x at hjs hxs
    generalize (joinG l).2 = f at hjs
    rw [decide_eq_true (rfl : x = x)]
    refine walkB ?_
    have hpo : (partsOk x).length ≤ 9223372036854775807 := by have := partsOk_len x; omega
    refine k_callS (ok := fun _ => True) (own := fun v => [row false v (partsOk x).length ((partsOk x).map Value.string) 9 1]) (val := fun v => .tuple #[v, .int .i64 (checkG x : Nat)]) (fun _ => rfl) (by kernel_rfl) rfl rfl (fun w hw => splitN_any x m w (by omega) (cell_ext (hw.below rfl) hm)) ?_
    intro v1 _
    by_cases hf : f = 0
    · obtain ⟨h1, h2⟩ := hjs hf
      rw [hf, h1]
      refine walkB ?_
      refine k_callb (v := .bool true) (by kernel_rfl) rfl rfl (fun w hw => (same_any v1 _ (partsOk x) l w (by exact strs_of_row (hw.row 0 rfl)) (hv0.ext (hw.below rfl)) hpo hn).mono fun e w' h => ⟨by rw [h.1, decide_eq_true h2], h.2⟩) ?_
      refine walkB ?_
      exact k_ret1 rfl rfl fun w hw => ⟨rfl, hw.below rfl⟩
    · refine walkB ?_
      exact k_ret1 rfl rfl fun w hw => ⟨rfl, hw.below rfl⟩
attribute [local irreducible] parentG
theorem lawCheck_any (s : ByteArray) (m : Int) (r : World) (hm : r.cell? ⟨0, 0, none⟩ = some (.int .i64 m)) : Calls Tryz.prog 4 #[.string s] r fun e w' => e = .returned (.bool true) ∧ Below r.heap.size r w' := by
  refine k_enter (N := 89) Tryz.func4 rfl rfl rfl ?_
  refine walkB ?_
  refine k_callb (by kernel_rfl) rfl rfl (fun w hw => known_any m w (cell_ext (hw.below rfl) hm)) ?_
  rcases Decidable.em (500 < s.size) with h5 | h5
  · refine walkB ?_
    refine k_callb (by kernel_rfl) rfl rfl (fun w hw => known_any m w (cell_ext (hw.below rfl) hm)) ?_
    refine walkB ?_
    exact k_ret1 rfl rfl fun w hw => ⟨rfl, hw.below rfl⟩
  refine walkB ?_
  refine k_callb (by kernel_rfl) rfl rfl (fun w hw => refCheckG_any s w (by omega)) ?_
  refine walkB ?_
  refine k_callS (ok := fun _ => True) (own := fun v => [row false v (partsOk s).length ((partsOk s).map Value.string) 9 1]) (val := fun v => .tuple #[v, .int .i64 (checkG s : Nat)]) (fun _ => rfl) (by kernel_rfl) rfl rfl (fun w hw => splitN_any s m w (by omega) (cell_ext (hw.below rfl) hm)) ?_
  intro v1 _
  refine walkB ?_
  refine k_callb (by kernel_rfl) rfl rfl (fun w hw => parent_any s m w (by omega) (cell_ext (hw.below rfl) hm)) ?_
  refine walkB ?_
  refine k_callb (v := .int .i64 (checkG s)) (by kernel_rfl) rfl rfl (fun w hw => checkG_any s m w (by omega) (cell_ext (hw.below rfl) hm)) ?_
  by_cases hc : checkG s = 0
  · have hpo : partsOk s = piecesB dotB s := by unfold partsOk; rw [if_pos hc]
    have hj := joinG_parts hc
    have hlen := (checkG_iff.1 hc).2.2
    have hne := List.length_pos_iff.2 (pieces_ne 46 s)
    change 0 < (piecesB dotB s).length at hne
    have hjt := joinB_take_le dotB (piecesB dotB s) ((piecesB dotB s).length - 1)
    have hjs : joinB dotB (piecesB dotB s) = s := joinB_pieces 46 s
    rw [parent_ok hc, hpo, hc]
    dsimp only
    rw [hjs] at hjt
    have h80 := checkG_size hc
    refine walkB ?_
    refine k_callr (by kernel_rfl) rfl rfl (fun w hw => (refParts_any s 46 w (by omega)).mono fun e w' ⟨v, h1, _, h3⟩ => ⟨v, h1, own_up h3, h3.below rfl⟩) ?_
    intro v2
    change K 89 _ r (row false v2 (piecesB dotB s).length ((piecesB dotB s).map Value.string) 9 1 :: _) _
    refine k_rowslice 0 rfl ?_
    rintro ⟨e2, c2, rfl⟩
    refine walkB ?_
    refine k_callb (v := .tuple #[.string s, .int .i64 0]) (by kernel_rfl) rfl rfl (fun w hw => (joinN_any v1 (piecesB dotB s) m w (by exact strs_of_row (hw.row 1 rfl)) (by omega) (by rw [hjs]; omega) (cell_ext (hw.below rfl) hm)).mono fun e w' h => ⟨by rw [h.1, hj]; rfl, h.2⟩) ?_
    refine walkB ?_
    refine k_callb (v := .bool true) (by kernel_rfl) rfl rfl (fun w hw => (same_any v1 _ (piecesB dotB s) (piecesB dotB s) w (by exact strs_of_row (hw.row 1 rfl)) (by exact strs_of_row (hw.row 0 rfl)) (by omega) (by omega)).mono fun e w' h => ⟨by rw [h.1, decide_eq_true rfl], h.2⟩) ?_
    refine walkB ?_
    rw [decide_eq_true (rfl : s = s)]
    refine walkB ?_
    refine k_op rfl (fun w hw => ov_beql rfl rfl Tryz.underlying4) ?_
    rw [show (decide (1 < (piecesB dotB s).length) == decide ((1 : Int) < ((piecesB dotB s).length : Int))) = true by rw [beq_iff_eq]; exact decide_eq_decide.2 (by omega)]
    refine walkB ?_
    refine k_op rfl (fun w hw => ov_sliceto rfl rfl ((piecesB dotB s).length - 1) (by omega) (Nat.le_trans (Nat.sub_le _ _) (row_cap (hw.row 0 rfl)))) ?_
    refine walkB ?_
    refine k_callb (v := .string (joinB dotB ((piecesB dotB s).take ((piecesB dotB s).length - 1)))) (by kernel_rfl) rfl rfl (fun w hw => refText_any _ ((piecesB dotB s).take ((piecesB dotB s).length - 1)) dotB w (strs_take (strs_of_row (hw.row 0 rfl)) _ (Nat.sub_le _ _)) (by rw [List.length_take]; omega) (by omega)) ?_
    refine walkB ?_
    exact k_ret1 rfl rfl fun w hw => ⟨by rw [decide_eq_true rfl], hw.below rfl⟩
  · have hpo : partsOk s = [] := by unfold partsOk; rw [if_neg hc]
    rw [parent_bad hc, hpo]
    dsimp only
    refine k_rowslice 0 rfl ?_
    rintro ⟨e2, c2, rfl⟩
    refine walkB ?_
    exact k_ret1 rfl rfl fun w hw => ⟨rfl, hw.below rfl⟩
end Go.Proofs.YtdolgoplflpbgaaGreatDoor
