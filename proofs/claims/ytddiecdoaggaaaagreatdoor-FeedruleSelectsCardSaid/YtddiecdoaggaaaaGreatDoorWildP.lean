/- The walk of Compile. -/
import Derived.Test.YtddiecdoaggaaaaGreatDoorWildE
import Derived.Test.YtddiecdoaggaaaaGreatDoorWildC
import Derived.Test.YtddiecdoaggaaaaGreatDoorWalkJ
namespace Go.Proofs.YtddiecdoaggaaaaGreatDoor
open Go.RowKit

/-- The elements of a pattern from a place on, behind those so far; else the place and the code of the error. -/
def comp (l : List UInt8) : Nat → Nat → List Elem → List Elem ⊕ (Nat × Nat)
  | 0, _, els => .inl els
  | f + 1, i, els =>
    if i < l.length then
      if namedB (byteAt l i) then comp l f (i + 1) (els ++ [.one (byteAt l i)])
      else if (byteAt l i).toNat = 63 then comp l f (i + 1) (els ++ [.cls ByteArray.empty true])
      else if (byteAt l i).toNat = 42 then comp l f (i + 1) (els ++ [.star])
      else if (byteAt l i).toNat = 91 then
        match clsP (l.drop i) with
        | none => .inr (i, 3)
        | some (set, n) => comp l f (i + n) (els ++ [.cls set (clsInv (l.drop i))])
      else .inr (i, 6)
    else .inl els
def compP (l : List UInt8) : List Elem ⊕ (Nat × Nat) :=
  if l.length = 0 then .inr (0, 4) else if 80 < l.length then .inr (80, 5) else comp l (l.length + 1) 0 []
section
variable {l : List UInt8} {f i : Nat} {els : List Elem}
theorem comp_end (h : ¬ i < l.length) : comp l (f + 1) i els = .inl els := by rw [comp, if_neg h]
theorem comp_one (h : i < l.length) (h1 : namedB (byteAt l i) = true) : comp l (f + 1) i els = comp l f (i + 1) (els ++ [.one (byteAt l i)]) := by rw [comp, if_pos h, if_pos h1]
theorem comp_any (h : i < l.length) (h1 : namedB (byteAt l i) = false) (h2 : (byteAt l i).toNat = 63) : comp l (f + 1) i els = comp l f (i + 1) (els ++ [.cls ByteArray.empty true]) := by rw [comp, if_pos h, if_neg (by simp [h1]), if_pos h2]
theorem comp_star (h : i < l.length) (h1 : namedB (byteAt l i) = false) (h2 : (byteAt l i).toNat = 42) : comp l (f + 1) i els = comp l f (i + 1) (els ++ [.star]) := by rw [comp, if_pos h, if_neg (by simp [h1]), if_neg (by omega), if_pos h2]
theorem comp_no (h : i < l.length) (h1 : namedB (byteAt l i) = false) (h2 : (byteAt l i).toNat = 91) (h3 : clsP (l.drop i) = none) : comp l (f + 1) i els = .inr (i, 3) := by rw [comp, if_pos h, if_neg (by simp [h1]), if_neg (by omega), if_neg (by omega), if_pos h2, h3]
theorem comp_cls {set : ByteArray} {n : Nat} (h : i < l.length) (h1 : namedB (byteAt l i) = false) (h2 : (byteAt l i).toNat = 91) (h3 : clsP (l.drop i) = some (set, n)) : comp l (f + 1) i els = comp l f (i + n) (els ++ [.cls set (clsInv (l.drop i))]) := by rw [comp, if_pos h, if_neg (by simp [h1]), if_neg (by omega), if_neg (by omega), if_pos h2, h3]
theorem comp_bad (h : i < l.length) (h1 : namedB (byteAt l i) = false) (h2 : (byteAt l i).toNat ≠ 63) (h3 : (byteAt l i).toNat ≠ 42) (h4 : (byteAt l i).toNat ≠ 91) : comp l (f + 1) i els = .inr (i, 6) := by rw [comp, if_pos h, if_neg (by simp [h1]), if_neg h2, if_neg h3, if_neg h4]
end
theorem clsP_le {l : List UInt8} {set : ByteArray} {n : Nat} (h : clsP l = some (set, n)) : 1 ≤ n ∧ n ≤ l.length := by
  unfold clsP at h
  split at h
  · cases h
  · split at h
    · cases h
    · simp at h; omega
theorem drop_data (s : ByteArray) (k : Nat) : (s.extract k s.size).data.toList = s.data.toList.drop k := by
  simp [ByteArray.data_extract, Array.toList_extract]
  rw [List.take_of_length_le (by simp)]

theorem elems_of_row {w : World} {base : Nat} {v : Value} {els : List Elem} (h : w.ownsRow base 178 1 v els.length (els.map Elem.val)) : ElemsAt w v els := by
  obtain ⟨_, h⟩ := h
  rcases h with ⟨rfl, h⟩ | ⟨g, cap, cur, rfl, _, hg, hc, _, hs, ht⟩
  · have : els = [] := List.eq_nil_of_length_eq_zero h
    subst this
    exact ⟨none, 0, rfl, by simp, by simp⟩
  · refine ⟨some ⟨g, 0, none⟩, cap, rfl, fun a ha => by cases ha; exact ⟨_, _, hg⟩, fun i e hi => ⟨g, rfl, ?_⟩⟩
    have hlt : i < els.length := (List.getElem?_eq_some_iff.1 hi).1
    have h1 : (els.map Elem.val)[i]? = some e.val := by simp [hi]
    rw [← ht] at h1
    have h2 : cur[i]? = some e.val := by
      rw [List.getElem?_take_of_lt (by omega)] at h1
      simpa using h1
    simp [World.cell?, hg, h2]
theorem val_one (e : Elem) : e.val.oneCell' = true := by cases e <;> rfl
theorem own_append {w : World} {base : Nat} {e : TypeId} {v : Value} {els : List Elem} {x : Elem} (h : w.ownsRow base e 1 v (els.length + 1) (els.map Elem.val ++ [x.val])) : w.ownsRow base e 1 v (els ++ [x]).length ((els ++ [x]).map Elem.val) := by
  rw [List.length_append, List.map_append]; exact h

attribute [local irreducible] J OV EV EU Blk wpList Code.wp bodyPost Exit.then Exit.inBlock Round Left Hid JS wpStill
attribute [local irreducible] comp clsP clsInv namedB byteAt Value.ownBlock World.ownsRow
set_option maxHeartbeats 1600000 in
theorem compile_any (s : ByteArray) (w : World) : Calls Tryz.prog 38 #[.string s] w fun e w' => Below w.heap.size w w' ∧
    match compP s.data.toList with
    | .inr (i, c) => e = .returned (.tuple #[.pointer none, .int .i64 i, .int .i64 c])
    | .inl els => ∃ pb, w.heap.size ≤ pb ∧ els.length ≤ 80 ∧ PatAt w' pb s els ∧ e = .returned (.tuple #[.pointer (some ⟨pb, 0, none⟩), .int .i64 0, .int .i64 0]) := by
  have hsz : s.data.toList.length = s.size := len_data s
  by_cases h0 : s = ⟨#[]⟩
  · have hz : s.size = 0 := by rw [h0]; rfl
    refine j_enter (N := 100) Tryz.func38 rfl rfl rfl ?_
    refine jwalk ?_
    refine j_ret3 rfl rfl rfl rfl ⟨Below.refl _ _, ?_⟩
    have hc : compP s.data.toList = .inr (0, 4) := by unfold compP; rw [if_pos (by omega)]
    rw [hc]; rfl
  have h1 : s.size ≠ 0 := fun h => h0 (by
    cases s with | mk d => simp [ByteArray.size] at h; rw [h])
  by_cases hl : 80 < s.size
  · refine j_enter (N := 100) Tryz.func38 rfl rfl rfl ?_
    refine jwalk ?_
    refine j_ret3 rfl rfl rfl rfl ⟨Below.refl _ _, ?_⟩
    have hc : compP s.data.toList = .inr (80, 5) := by unfold compP; rw [if_neg (by omega), if_pos (by omega)]
    rw [hc]; rfl
  have hc : compP s.data.toList = comp s.data.toList (s.size + 1) 0 [] := by unfold compP; rw [if_neg (by omega), if_neg (by omega), hsz]
  rw [hc]
  refine j_enter (N := 100) Tryz.func38 rfl rfl rfl ?_
  refine jwalk ?_
  refine j_op rfl (ov_build (vs := [.string s]) (cells := #[.string s, .slice none 0 0]) rfl (by kernel_rfl)) ?_
  refine j_new rfl (ev_box rfl) ?_
  intro w1 hb1 hx1 hz1
  refine jwalk ?_
  refine j_loop (σ := Nat × Nat × List Elem × Value) (fun t => [(0, .string s), (5, .pointer (some ⟨w.heap.size, 0, none⟩)), (6, .int .i64 t.2.1)]) (fun t w' => t.2.1 ≤ s.size ∧ s.size < t.1 + t.2.1 ∧ t.2.2.1.length ≤ t.2.1 ∧ Blk w' w.heap.size [.string s, t.2.2.2] 128 ∧ w'.ownsRow (w.heap.size + 1) 178 1 t.2.2.2 t.2.2.1.length (t.2.2.1.map Elem.val) ∧ Below w.heap.size w w' ∧ comp s.data.toList t.1 t.2.1 t.2.2.1 = comp s.data.toList (s.size + 1) 0 []) (fun t => s.size - t.2.1) (s.size + 1, 0, [], .slice none 0 0) (Sub.cons rfl (Sub.cons rfl (Sub.cons rfl Sub.nil))) ⟨Nat.zero_le _, by simp, Nat.zero_le _, hb1, own_none _ _ _ _, hx1, rfl⟩ ?_
  intro t w2 h
  obtain ⟨f, k, els, v⟩ := t
  dsimp only at h ⊢
  obtain ⟨hk, hf, hn, hb, ho, hx, hC⟩ := h
  obtain ⟨f, rfl⟩ : ∃ m, f = m + 1 := ⟨f - 1, by omega⟩
  have hgeo := own_ge ho
  by_cases hlt : k < s.size
  · have hB := byteAt_eq s k hlt
    have hkl : k < s.data.toList.length := by omega
    refine jwalk ?_
    refine j_call (by kernel_rfl) rfl rfl (named_any s[k] w2) ?_
    rintro e w3 ⟨rfl, rfl⟩
    refine ⟨_, rfl, ?_⟩
    rw [← hB]
    by_cases hN : namedB (byteAt s.data.toList k) = true
    · rw [hN]
      refine jwalk ?_
      refine j_op rfl (ov_load1 rfl (hb.cell (i := 1) rfl)) ?_
      refine jwalk ?_
      refine j_one rfl rfl (by rfl) (by rfl) (by rfl) (by rfl) ?_
      intro w3 hb3 hx3 hz3
      have hbp := hb.ext hx3
      have ho3 := own_ext ho hx3
      refine j_append (news := [(Elem.one (byteAt s.data.toList k)).val]) rfl rfl rfl ho3 hb3.cells (by rfl) (by rfl) (by rfl) (by rfl) (by omega) (by unfold maxLen; omega) (by have := hb.lt; omega) ?_
      intro v' w4 ho4 hg4 _
      have hb4 := hbp.grown hg4 (own_ne ho3 (Nat.lt_succ_self _))
      have hx04 : Below w.heap.size w w4 := below_own ho3 (hx.trans (hx3.mono hx.size)) hg4 (Nat.le_succ _) (Nat.le_trans hx.size hx3.size)
      refine jwalk ?_
      refine j_store1 rfl rfl hb4 (own_one ho4) (by simp) ?_
      intro w5 hb5 hg5 hz5
      have ho5 := own_append (own_kept ho4 hg5 (own_ne' ho4 (Nat.lt_succ_self _)))
      have hx05 : Below w.heap.size w w5 := hx04.trans (below_of_grownBy hg5 (Nat.le_refl _) hx04.size)
      refine jwalk ?_
      refine j_round (f, k + 1, els ++ [Elem.one (byteAt s.data.toList k)], v') (Sub.cons rfl (Sub.cons rfl (Sub.cons rfl Sub.nil))) ⟨by dsimp only; omega, by dsimp only; omega, by simp; omega, hb5, ho5, hx05, ?_⟩ (by simp; omega)
      rw [← comp_one hkl hN]; exact hC
    have hN : namedB (byteAt s.data.toList k) = false := by simpa using hN
    rw [hN]
    by_cases h63 : (byteAt s.data.toList k).toNat = 63
    · refine jwalk ?_
      refine j_op rfl (ov_load1 rfl (hb.cell (i := 1) rfl)) ?_
      refine jwalk ?_
      refine j_op rfl (ov_build (vs := [.bool true]) (cells := #[.string ByteArray.empty, .bool true]) rfl (by kernel_rfl)) ?_
      refine jwalk ?_
      refine j_one rfl rfl (by rfl) (by rfl) (by rfl) (by rfl) ?_
      intro w3 hb3 hx3 hz3
      have hbp := hb.ext hx3
      have ho3 := own_ext ho hx3
      refine j_append (news := [(Elem.cls ByteArray.empty true).val]) rfl rfl rfl ho3 hb3.cells (by rfl) (by rfl) (by rfl) (by rfl) (by omega) (by unfold maxLen; omega) (by have := hb.lt; omega) ?_
      intro v' w4 ho4 hg4 _
      have hb4 := hbp.grown hg4 (own_ne ho3 (Nat.lt_succ_self _))
      have hx04 : Below w.heap.size w w4 := below_own ho3 (hx.trans (hx3.mono hx.size)) hg4 (Nat.le_succ _) (Nat.le_trans hx.size hx3.size)
      refine jwalk ?_
      refine j_store1 rfl rfl hb4 (own_one ho4) (by simp) ?_
      intro w5 hb5 hg5 hz5
      have ho5 := own_append (own_kept ho4 hg5 (own_ne' ho4 (Nat.lt_succ_self _)))
      have hx05 : Below w.heap.size w w5 := hx04.trans (below_of_grownBy hg5 (Nat.le_refl _) hx04.size)
      refine jwalk ?_
      refine j_round (f, k + 1, els ++ [Elem.cls ByteArray.empty true], v') (Sub.cons rfl (Sub.cons rfl (Sub.cons rfl Sub.nil))) ⟨by dsimp only; omega, by dsimp only; omega, by simp; omega, hb5, ho5, hx05, ?_⟩ (by simp; omega)
      rw [← comp_any hkl hN h63]; exact hC
    by_cases h42 : (byteAt s.data.toList k).toNat = 42
    · refine jwalk ?_
      refine j_op rfl (ov_load1 rfl (hb.cell (i := 1) rfl)) ?_
      refine jwalk ?_
      refine j_op rfl (ov_build (vs := []) (cells := #[]) rfl (by kernel_rfl)) ?_
      refine jwalk ?_
      refine j_one rfl rfl (by rfl) (by rfl) (by rfl) (by rfl) ?_
      intro w3 hb3 hx3 hz3
      have hbp := hb.ext hx3
      have ho3 := own_ext ho hx3
      refine j_append (news := [(Elem.star).val]) rfl rfl rfl ho3 hb3.cells (by rfl) (by rfl) (by rfl) (by rfl) (by omega) (by unfold maxLen; omega) (by have := hb.lt; omega) ?_
      intro v' w4 ho4 hg4 _
      have hb4 := hbp.grown hg4 (own_ne ho3 (Nat.lt_succ_self _))
      have hx04 : Below w.heap.size w w4 := below_own ho3 (hx.trans (hx3.mono hx.size)) hg4 (Nat.le_succ _) (Nat.le_trans hx.size hx3.size)
      refine jwalk ?_
      refine j_store1 rfl rfl hb4 (own_one ho4) (by simp) ?_
      intro w5 hb5 hg5 hz5
      have ho5 := own_append (own_kept ho4 hg5 (own_ne' ho4 (Nat.lt_succ_self _)))
      have hx05 : Below w.heap.size w w5 := hx04.trans (below_of_grownBy hg5 (Nat.le_refl _) hx04.size)
      refine jwalk ?_
      refine j_round (f, k + 1, els ++ [Elem.star], v') (Sub.cons rfl (Sub.cons rfl (Sub.cons rfl Sub.nil))) ⟨by dsimp only; omega, by dsimp only; omega, by simp; omega, hb5, ho5, hx05, ?_⟩ (by simp; omega)
      rw [← comp_star hkl hN h42]; exact hC
    by_cases h91 : (byteAt s.data.toList k).toNat = 91
    · refine jwalk ?_
      have hdr := drop_data s k
      have hsx : (s.extract k s.size).size = s.size - k := by simp
      have hpc := parseClass_any (s.extract k s.size) w2 (by omega) (by omega)
      rw [hdr] at hpc
      refine j_call (by kernel_rfl) rfl rfl hpc ?_
      intro e w3 hE
      unfold ClassPost at hE
      obtain ⟨hx3, hE⟩ := hE
      have hx03 := hx.trans (hx3.mono hx.size)
      have hb3 := hb.ext hx3
      have ho3 := own_ext ho hx3
      have hz3 := hx3.size
      cases hP : clsP (s.data.toList.drop k) with
      | none =>
        rw [hP] at hE
        obtain ⟨set, inv, rfl⟩ := hE
        refine ⟨_, rfl, ?_⟩
        refine jwalk ?_
        refine j_new rfl ev_alloc ?_
        intro w4 hb4 hx4 hz4
        have hx04 := hx03.trans (hx4.mono hx03.size)
        refine jwalk ?_
        refine j_store rfl rfl hb4 (by rfl) (by simp [Value.cells]) (by rfl) ?_
        intro w5 hb5 hg5 hz5
        refine jwalk ?_
        rw [comp_no hkl hN h91 hP] at hC
        rw [← hC]
        refine j_ret3 rfl rfl rfl rfl ⟨hx04.trans (below_of_grownBy hg5 hx03.size hx04.size), rfl⟩
      | some sn =>
        obtain ⟨set, n⟩ := sn
        rw [hP] at hE
        subst hE
        refine ⟨_, rfl, ?_⟩
        have hnn := clsP_le hP
        rw [List.length_drop] at hnn
        generalize hinv : clsInv (s.data.toList.drop k) = inv
        refine jwalk ?_
        refine j_new rfl ev_alloc ?_
        intro w4 hb4 hx4 hz4
        have hx04 := hx03.trans (hx4.mono hx03.size)
        refine jwalk ?_
        refine j_store rfl rfl hb4 (by rfl) (by simp [Value.cells]) (by rfl) ?_
        intro w5 hb5 hg5 hz5
        refine jwalk ?_
        have hb5' : Blk w5 w3.heap.size [.string set, .bool inv] 131 := hb5
        have hbp5 := (hb3.ext hx4).grown hg5 (by have := hb.lt; simp; omega)
        have hx05 := hx04.trans (below_of_grownBy hg5 hx03.size hx04.size)
        have ho5 := own_kept (own_ext ho3 hx4) hg5 (own_far ho3 (Nat.le_refl _))
        refine j_held 9 [0, 1, 2, 3, 4, 5, 6, 7, 8] (fun w' => Blk w' w.heap.size [.string s, v] 128 ∧ Blk w' w3.heap.size [.string set, .bool inv] 131) (by kernel_rfl) (by kernel_rfl) ?_
        intro w6 hx6 hz6
        have hb6 := hbp5.ext hx6
        have hc6 := hb5'.ext hx6
        have ho6 := own_ext ho5 hx6
        have hx06 := hx05.trans (hx6.mono hx05.size)
        refine ⟨⟨hb6, hc6⟩, ?_⟩
        dsimp only [pickL, nth, List.drop]
        refine jhwalk ?_
        refine jh_op rfl rfl (fun w' hS => ov_load1 rfl (hS.1.cell (i := 1) rfl)) ?_
        refine jhwalk ?_
        refine jh_op rfl rfl (fun w' hS => ov_loadAgg rfl (by rfl) hS.2.cells) ?_
        refine jhwalk ?_
        refine jh_run rfl ?_
        refine j_one rfl rfl (by rfl) (by rfl) (by rfl) (by rfl) ?_
        intro w7 hb7 hx7 hz7
        have hbp7 := hb6.ext hx7
        have hc7 := hc6.ext hx7
        have ho7 := own_ext ho6 hx7
        have hx07 := hx06.trans (hx7.mono hx06.size)
        refine jh_back ⟨hbp7, hc7⟩ ?_
        refine jh_run rfl ?_
        refine j_append (news := [(Elem.cls set inv).val]) rfl rfl rfl ho7 hb7.cells (by rfl) (by rfl) (by rfl) (by rfl) (by omega) (by unfold maxLen; omega) (by have := hb6.lt; omega) ?_
        intro v' w8 ho8 hg8 _
        have hb8 := hbp7.grown hg8 (own_ne ho7 (Nat.lt_succ_self _))
        have hx08 : Below w.heap.size w w8 := below_own ho7 hx07 hg8 (Nat.le_succ _) hx07.size
        refine jh_back ⟨hb8, ?_⟩ ?_
        · exact hc7.grown hg8 (own_far' ho3 (Nat.le_refl _))
        refine jh_nil ?_
        refine jwalk ?_
        refine j_store1 rfl rfl hb8 (own_one ho8) (by simp) ?_
        intro w9 hb9 hg9 hz9
        have ho9 := own_append (own_kept ho8 hg9 (own_ne' ho8 (Nat.lt_succ_self _)))
        have hx09 : Below w.heap.size w w9 := hx08.trans (below_of_grownBy hg9 (Nat.le_refl _) hx08.size)
        refine jwalk ?_
        refine j_round (f, k + n, els ++ [.cls set inv], v') (Sub.cons rfl (Sub.cons rfl (Sub.cons rfl Sub.nil))) ⟨by dsimp only; omega, by dsimp only; omega, by simp; omega, hb9, ho9, hx09, ?_⟩ (by simp; omega)
        rw [← hinv, ← comp_cls hkl hN h91 hP]; exact hC
    · refine jwalk ?_
      rw [comp_bad hkl hN h63 h42 h91] at hC
      rw [← hC]
      refine j_ret3 rfl rfl rfl rfl ⟨hx, rfl⟩
  · refine jwalk ?_
    rw [comp_end (by omega)] at hC
    rw [← hC]
    refine j_ret3 rfl rfl rfl rfl ⟨hx, w.heap.size, Nat.le_refl _, by omega, ⟨hb.cell rfl, ⟨v, hb.cell rfl, elems_of_row ho⟩, hb.ty⟩, rfl⟩

end Go.Proofs.YtddiecdoaggaaaaGreatDoor
